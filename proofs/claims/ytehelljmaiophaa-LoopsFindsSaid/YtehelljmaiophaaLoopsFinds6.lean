/- Texts of the proof of LoopsFinds, part 6: rules of a calculus for walking, plain laws, and walks of the functions that the law reaches. No condition. -/
import Derived.Laws.StructEq
import Derived.SizedLaws
import Derived.Test.YtehelljmaiophaaProg
import Derived.Test.YtehelljmaiophaaLoopsFinds5
/- The walks of the reference's IsHeader and InLoop. Conditions: none. -/
namespace Go.Ss
set_option linter.unusedVariables false
set_option linter.unusedSimpArgs false
open Go.Eng Go.RowKit
set_option linter.unusedVariables false
set_option linter.unusedSimpArgs false
open Classical in
noncomputable def ovC (G : List (List Int)) (a b : Nat) : Bool := decide (Dm G a b)
theorem ovC_iff {G : List (List Int)} {a b : Nat} : ovC G a b = true ↔ Dm G a b := by simp [ovC]
open Classical in
noncomputable def ihB (G : List (List Int)) (h : Nat) : Bool := decide (IsH G h)
theorem ihB_iff {G : List (List Int)} {h : Nat} : ihB G h = true ↔ IsH G h := by simp [ihB]
open Classical in
noncomputable def inlB (G : List (List Int)) (h x : Nat) : Bool := decide (InL G h x)
theorem inlB_iff {G : List (List Int)} {h x : Nat} : inlB G h x = true ↔ InL G h x := by simp [inlB]
/-- one round of a search that stays in Q: all edges that start at a mark of B0 and of which (i, j) tells how many are done -/
structure RnF (G : List (List Int)) (v : Int) (Q : Nat → Prop) (B0 B : List Bool) (i j : Nat) : Prop where
  len : B.length = G.length
  le : Le B0 B
  snd : ∀ b : Nat, B[b]? = some true → Q b
  dn : ∀ (a m : Nat) (l : List Int) (b : Nat), G[a]? = some l → l[m]? = some (b : Int) → (a < i ∨ (a = i ∧ m < j)) → (b : Int) ≠ v → b < G.length → B0[a]? = some true → B[b]? = some true
theorem RnF.start {G : List (List Int)} {v : Int} {Q : Nat → Prop} {B : List Bool} (hl : B.length = G.length) (h : ∀ b : Nat, B[b]? = some true → Q b) : RnF G v Q B B 0 0 := ⟨hl, .refl B, h, fun a m l b _ _ hc => by omega⟩
theorem RnF.skip {G : List (List Int)} {v : Int} {Q : Nat → Prop} {B0 B : List Bool} {i j : Nat} {l : List Int} {t : Int} (h : RnF G v Q B0 B i j) (hl : G[i]? = some l) (ht : l[j]? = some t) (hs : ¬ B[i]? = some true ∨ t = v ∨ ¬ (0 ≤ t ∧ t < (G.length : Int))) : RnF G v Q B0 B i (j + 1) :=
  ⟨h.len, h.le, h.snd, fun a m l' b h1 h2 h3 h4 h5 h6 => by
    by_cases hc : a < i ∨ (a = i ∧ m < j)
    · exact h.dn a m l' b h1 h2 hc h4 h5 h6
    · have e1 : a = i := by omega
      have e2 : m = j := by omega
      subst e1
      subst e2
      rw [hl] at h1
      obtain rfl := Option.some.inj h1
      rw [ht] at h2
      obtain rfl := Option.some.inj h2
      rcases hs with hs | hs | hs
      · exact absurd (h.le.2 _ h6) hs
      · exact absurd hs h4
      · omega⟩
theorem RnF.mark {G : List (List Int)} {v : Int} {Q : Nat → Prop} (hQ : ∀ a b, Q a → Edge G a b → (b : Int) ≠ v → Q b) {B0 B : List Bool} {i j : Nat} {l : List Int} {t : Int} (h : RnF G v Q B0 B i j) (hl : G[i]? = some l) (ht : l[j]? = some t) (hi : B[i]? = some true) (hv : t ≠ v) (h0 : 0 ≤ t ∧ t < (G.length : Int)) : RnF G v Q B0 (B.set t.toNat true) i (j + 1) := by
  have htt : ((t.toNat : Nat) : Int) = t := by omega
  refine ⟨by rw [List.length_set, h.len], h.le.trans (.set _), fun b hb => ?_, fun a m l' b h1 h2 h3 h4 h5 h6 => ?_⟩
  · rw [List.getElem?_set] at hb
    split at hb
    · rename_i e
      subst e
      exact hQ i _ (h.snd i hi) ⟨l, hl, by rw [htt]; exact List.mem_of_getElem? ht⟩ (by omega)
    · exact h.snd b hb
  · by_cases hc : a < i ∨ (a = i ∧ m < j)
    · exact (Le.set t.toNat).2 b (h.dn a m l' b h1 h2 hc h4 h5 h6)
    · have e1 : a = i := by omega
      have e2 : m = j := by omega
      subst e1
      subst e2
      rw [hl] at h1
      obtain rfl := Option.some.inj h1
      rw [ht] at h2
      have h7 := Option.some.inj h2
      have h8 : t.toNat = b := by omega
      have h11 : b < B.length := by rw [h.len]; omega
      rw [List.getElem?_set, if_pos h8, if_pos (by omega)]
theorem RnF.next {G : List (List Int)} {v : Int} {Q : Nat → Prop} {B0 B : List Bool} {i : Nat} {l : List Int} (h : RnF G v Q B0 B i l.length) (hl : G[i]? = some l) : RnF G v Q B0 B (i + 1) 0 :=
  ⟨h.len, h.le, h.snd, fun a m l' b h1 h2 h3 h4 h5 h6 => h.dn a m l' b h1 h2 (by
    by_cases e : a = i
    · subst e
      rw [hl] at h1
      obtain rfl := Option.some.inj h1
      have := (List.getElem?_eq_some_iff.1 h2).1
      omega
    · omega) h4 h5 h6⟩
/-- a round that is done: closed, or a mark more -/
theorem RnF.done {G : List (List Int)} {v : Int} {Q : Nat → Prop} {B0 B : List Bool} (h : RnF G v Q B0 B G.length 0) : Closed G v B ∨ cntT B0 + 1 ≤ cntT B := by
  obtain ⟨h1, h2⟩ := le_count h.le
  by_cases hc : cntT B0 = cntT B
  · left
    have := h2 hc
    subst this
    rintro a b ⟨l, hl, hb⟩ hv hlt ha
    obtain ⟨m, hm⟩ := List.getElem?_of_mem hb
    exact h.dn a m l b hl hm (.inl (List.getElem?_eq_some_iff.1 hl).1) hv hlt ha
  · right
    omega
/-- a closed round turns nothing -/
theorem RnF.closed {G : List (List Int)} {h x : Nat} {B0 B : List Bool} {i j : Nat} (hr : RnF G (h : Int) (Fw G h x) B0 B i j) (hc : Closed G (h : Int) B0) (h0 : B0[x]? = some true) (hG : ∀ a b, Edge G a b → b < G.length) : Closed G (h : Int) B := by
  have key : ∀ y b, Fw G h y b → B0[y]? = some true → B0[b]? = some true := by
    intro y b hb
    induction hb with
    | refl _ => exact id
    | step _ he r ih => exact fun hy => ih (hc _ _ he (by have := r.ne; omega) (hG _ _ he) hy)
  intro a b he hv hl ha
  exact hr.le.2 b (key x b ((hr.snd a ha).snoc he (by omega)) h0)
theorem fw_all {G : List (List Int)} {h x : Nat} {B : List Bool} (hc : Closed G (h : Int) B) (hs : ∀ b : Nat, B[b]? = some true → Fw G h x b) (h0 : B[x]? = some true) (hG : ∀ a b, Edge G a b → b < G.length) (b : Nat) : B[b]? = some true ↔ Fw G h x b := by
  refine ⟨hs b, fun hb => ?_⟩
  have key : ∀ y b, Fw G h y b → B[y]? = some true → B[b]? = some true := by
    intro y b hb
    induction hb with
    | refl _ => exact id
    | step _ he r ih => exact fun hy => ih (hc _ _ he (by have := r.ne; omega) (hG _ _ he) hy)
  exact key x b hb h0
end Go.Ss
namespace Go.Proofs.Ytehelljmaiophaa.ss
set_option linter.unusedVariables false
set_option linter.unusedSimpArgs false
set_option maxRecDepth 100000
open Go.Eng Go.RowKit Go.Ss
set_option linter.unusedVariables false
set_option linter.unusedSimpArgs false
theorem OverC_ext (es : List (Bk × BkY)) (q : Option Addr) (cap : Nat) (nm : Int) (a b : Nat) (w : World) (he : Arr bkR w (low w) es q) (hlen : es.length ≤ 140737488355328) (hb : b < es.length) :
    Calls Try.prog 49 [.agg #[.int .i64 nm, .slice q es.length cap], .int .i64 (a : Int), .int .i64 (b : Int)].toArray w fun e w' => e = .returned (.bool (ovC (graphB (es.map Prod.fst)) a b)) ∧ Ext w w' :=
  (Over_calls es q cap nm a b w he hlen hb).mono fun e w' ⟨r, h1, h2, h3⟩ => by
    refine ⟨?_, h3⟩
    rw [h1, show r = ovC (graphB (es.map Prod.fst)) a b by rw [Bool.eq_iff_iff, ovC_iff]; exact h2]
theorem IsHeader_ext (es : List (Bk × BkY)) (q : Option Addr) (cap : Nat) (nm : Int) (h : Nat) (w : World) (he : Arr bkR w (low w) es q) (hlen : es.length ≤ 128) (hM : ∀ p ∈ es, p.1.term.to_.length ≤ 257) (hh : h < es.length) :
    Calls Try.prog 53 [.agg #[.int .i64 nm, .slice q es.length cap], .int .i64 (h : Int)].toArray w fun e w' => e = .returned (.bool (ihB (graphB (es.map Prod.fst)) h)) ∧ Ext w w' := by
  obtain ⟨G, hG⟩ : ∃ G, graphB (es.map Prod.fst) = G := ⟨_, rfl⟩
  have hGl : G.length = es.length := by rw [← hG]; simp [graphB]
  have hRe := fun v w2 (H : List Eng.Item) (S : List World) (hw2 : Cls H S w2) (hs : w ∈ S) (hno : ∀ k, k < w.heap.size → NotOwned H k) => Reach_ext es q cap nm v w2 (he.at hw2 hs hno) (by omega)
  have hOv := fun a b w2 (H : List Eng.Item) (S : List World) (hw2 : Cls H S w2) (hs : w ∈ S) (hno : ∀ k, k < w.heap.size → NotOwned H k) => OverC_ext es q cap nm a b w2 (he.at hw2 hs hno) (by omega)
  have hPr := fun k w2 (H : List Eng.Item) (S : List World) (hw2 : Cls H S w2) (hs : w ∈ S) (hno : ∀ k, k < w.heap.size → NotOwned H k) => RPreds_calls es q cap nm k w2 (he.at hw2 hs hno) hlen hM
  simp only [hG] at hRe hOv hPr ⊢
  refine enter Try.func53 rfl Try.ntmps53 rfl (Cls.start w) ?_
  (simp only [argEnv, Nat.zero_add, Nat.reduceAdd])
  apply W.sr
  apply OL.box; rfl; rfl; exact CellsL.agg; (intro bk hbk; simp only [AllLe, and_true] at hbk)
  apply oas; rfl; rfl
  apply OL.nsr
  apply oop; rfl; apply Pev.load_blkA; rfl; exact yes; exact .head _; rfl; exact Take.au
  revert bk
  intro b1 hb1x
  have hb1 : w.heap.size ≤ b1 := by first | exact hb1x | exact hb1x.1
  refine OL.frzD (C' := fun w0 => Cls [] [w0, w]) (fun w0 hc0 => (hc0.thin (.any (fun k hk => by rw [show k = b1 from hk]; exact ⟨hb1, trivial⟩) Thin.nil)).note) (fun w0 hc0 => ?_)
  have hb10 : b1 < w0.heap.size := blk_lt (hc0.item (.head _))
  have hcF : CellsAt w0 ⟨b1, 0, none⟩ [.int .i64 nm, .slice q es.length cap] := fun j v hj => by
    rw [add_mid, blk_cell (hc0.item (.head _)), Nat.zero_add]
    exact hj
  refine OL.callE (α := Nat × World) (fun z => .slice (some ⟨z.1, 0, none⟩) es.length es.length) (fun z => z.1 < z.2.heap.size ∧ ∀ j : Nat, j < es.length → z.2.cell? ⟨z.1, 0 + (j : Int).toNat * 1, none⟩ = some (.bool (rcB G (-1) j))) (fun z => Cls [] [z.2, w0, w]) rfl rfl (by exact Args.au) (fun w2 hw2 => (hRe (-1) w2 _ _ hw2 (by exact mau) (fun k hk => NotOwned.nil)).mono fun e w3 ⟨bR, h1, h2, h3, h4⟩ => ⟨(bR, w3), h1, ⟨h3, h4⟩, (hw2.ext h2).note⟩) ?_
  rintro ⟨bR, wR⟩ ⟨hbR, hcR⟩
  simp only at hbR hcR ⊢
  have hcRh := hcR h hh
  apply oas; rfl; rfl
  apply OL.nx
  apply W.seq
  apply W.sr
  apply oop; rfl; apply Pev.load_keptA; rfl; exact yes; exact .tail _ (.head _); rfl; intro hcond; assumption; rfl; intro hcond; assumption; intro hcond; exact NotOwned.au
  apply omv; rfl; rfl
  obtain ⟨P, hPe⟩ : ∃ P, predsF G 0 (h : Int) = P := ⟨_, rfl⟩
  have hGM : ∀ l ∈ G, l.length ≤ 257 := fun l hl => by
    rw [← hG] at hl
    obtain ⟨b, hb, rfl⟩ := List.mem_map.1 hl
    obtain ⟨p, hp, rfl⟩ := List.mem_map.1 hb
    rw [List.length_map]
    exact hM p hp
  have hPl : (predsF G 0 (h : Int)).length ≤ 128 * 257 := Nat.le_trans (predsF_len (M := 257) hGM) (Nat.mul_le_mul_right _ (by omega))
  have hPx : ∀ x ∈ predsF G 0 (h : Int), ∃ p : Nat, x = (p : Int) ∧ p < G.length := fun x hx => by
    obtain ⟨p, l, h1, _, h3⟩ := predsF_mem.1 hx
    exact ⟨p, by omega, (List.getElem?_eq_some_iff.1 h1).1⟩
  refine OL.callE (α := (Option Addr × Nat) × World) (fun z => .slice z.1.1 P.length z.1.2) (fun z => IntsO z.2 (low z.2) P z.1.1) (fun z => Cls [] [z.2, wR, w0, w]) rfl rfl (by exact Args.au) (fun w2 hw2 => (hPr (h : Int) w2 _ _ hw2 (by exact mau) (fun k hk => NotOwned.nil)).mono fun e w3 ⟨q', c', h1, h2, h3⟩ => ⟨((q', c'), w3), by rw [← hPe]; exact h1, by rw [← hPe]; exact h3.mono (fun k hk => hk.2), (hw2.ext h2).note⟩) ?_
  rintro ⟨⟨qp, cp⟩, wP⟩ hIp
  simp only at hIp ⊢
  apply oop; rfl; apply Pev.len_slice; rfl; exact yes; rfl
  apply omv; rfl; rfl
  apply OL.nx
  apply W.block
  have hmem : ∀ p : Nat, (p : Int) ∈ P ↔ Go.Ss.Edge G p h := fun p => by rw [← hPe]; exact preds_edge
  rw [hPe] at hPl hPx
  refine W.loop (G := Nat) (fun j => j ≤ P.length ∧ ∀ p : Nat, (p : Int) ∈ P.take j → ¬ (Rc G (-1) h ∧ Rc G (-1) p ∧ Dm G h p)) (fun j => P.length - j)
    (fun j => [(1, true, .int .i64 (h : Int)), (2, true, .pointer (some ⟨b1, 0, none⟩)), (5, true, .slice (some ⟨bR, 0, none⟩) es.length es.length), (12, true, .slice qp P.length cp), (13, true, .int .i64 (P.length : Int)), (14, true, .int .i64 (j : Int))])
    (fun j => Cls [] [wP, wR, w0, w]) 0 ⟨by simp, fun p h => by simp at h⟩ (by exact Sub.au) (fun w' hw' => hw') ?_
  rintro j ⟨hj, hall⟩
  apply W.sr
  apply obn; rfl; rfl; rfl; apply Bin.lss
  apply OL.nx
  apply W.seq
  (refine W.cnd (fun hlt => ?_) (fun hlt => ?_)) <;> (try (exfalso; first | omega | exact hlt trivial | contradiction))
  · have hjl : j < P.length := by omega
    obtain ⟨ap, x, hqp, habp, hx, hcx⟩ := hIp.get hjl
    obtain ⟨p, rfl, hpl⟩ := hPx x (List.mem_of_getElem? hx)
    have habp : ap.block < wP.heap.size := habp
    have hpl2 : p < es.length := by omega
    have hcRp := hcR p hpl2
    rw [hqp]
    apply W.sk
    apply W.sb
    apply W.sr
    apply oop; rfl; apply Pev.idx; rfl; exact yes; rfl; exact yes; rfl; rfl; intro hcond; omega
    apply oop; rfl; apply Pev.load_kept; rfl; exact yes; exact .head _; rfl; intro hcond; assumption; intro hcond; (rw [add_block]; assumption); intro hcond; exact NotOwned.au
    apply oas; rfl; rfl
    apply OL.nsr
    apply omv; rfl; rfl
    apply omv; rfl; rfl
    apply oop; rfl; apply Pev.idxB; rfl; exact yes; rfl; exact yes; rfl; intro hcond; omega; rfl
    apply oop; rfl; apply Pev.load_kept; rfl; exact yes; exact .tail _ (.head _); rfl; intro hcond; assumption; intro hcond; assumption; intro hcond; exact NotOwned.au
    apply omv; rfl; rfl
    apply oy; rfl; rfl; rfl; apply Pev.move; rfl; exact yes
    apply oy; rfl; rfl; rfl; apply Pev.move; rfl; exact yes
    apply oy; rfl; rfl; rfl; apply Pev.idxB; rfl; exact fun h => h; rfl; exact fun h => h; rfl; intro hcond; omega; rfl
    apply oy; rfl; rfl; rfl; apply Pev.load_kept; rfl; exact fun h => h; exact .tail _ (.head _); rfl; intro hcond; assumption; intro hcond; assumption; intro hcond; exact NotOwned.au
    apply oop; rfl; apply Pev.pick_and; rfl; exact yes; rfl; exact fun h => h
    apply omv; rfl; rfl
    apply oy; rfl; rfl; rfl; apply Pev.load_keptA; rfl; exact yes; exact .tail _ (.tail _ (.head _)); rfl; intro hcond; assumption; rfl; intro hcond; assumption; intro hcond; exact NotOwned.au
    apply oy; rfl; rfl; rfl; apply Pev.move; rfl; exact yes
    apply oy; rfl; rfl; rfl; apply Pev.move; rfl; exact yes
    (((first | (with_reducible apply OL.op) | (with_reducible apply QL.op)); (exact Guard.au); rfl; rfl); (exact Pev.call (v := .bool (ovC G h p)) rfl (by exact Args.au) (fun _ w2 hw2 => (hOv h p w2 _ _ hw2 (by exact mau) (fun k hk => NotOwned.nil) hpl2).mono fun e w3 h => ⟨h.1, hw2.ext h.2⟩)))
    apply oop; rfl; apply Pev.pick_and; rfl; exact yes; rfl; exact fun h => h
    apply OL.nx
    refine W.cond rfl (fun h3 => ?_) (fun h3 => ?_)
    · rw [Bool.and_eq_true, Bool.and_eq_true, rcB_iff, rcB_iff, ovC_iff] at h3
      have hih : IsH G h := ⟨p, h3.1.2, (hmem p).1 (List.mem_of_getElem? hx), h3.2⟩
      apply W.sr
      apply oas; rfl; rfl
      apply OL.nx
      refine W.rt ?_
      ((with_reducible apply At.fin1); rfl; rfl; intro w' hw')
      exact ⟨by rw [ihB_iff.2 hih], by (exact hw'.fr)⟩
    · apply W.skip
      with_reducible apply At.in_normal
      with_reducible apply At.next
      apply W.reg
      apply obn; rfl; rfl; rfl; apply Bin.add_in; omega
      apply omv; rfl; rfl
      apply OL.nil
      refine At.again (j + 1) ⟨by omega, fun p' hp' hn => ?_⟩ (by omega) (by exact Sub.au) (fun w' hw' => hw')
      rw [List.take_add_one, hx, Option.toList_some] at hp'
      rcases List.mem_append.1 hp' with hp' | hp'
      · exact hall p' hp' hn
      · have := List.mem_singleton.1 hp'
        obtain rfl : p' = p := by omega
        rw [rcB_iff.2 hn.1, rcB_iff.2 hn.2.1, ovC_iff.2 hn.2.2] at h3
        cases h3
  · obtain rfl : j = P.length := by omega
    rw [List.take_length] at hall
    have hnih : ¬ IsH G h := fun ⟨p, h1, h2, h3⟩ => hall p ((hmem p).2 h2) ⟨.step h1 h2 (by omega) (by omega), h1, h3⟩
    refine W.xt ?_
    with_reducible apply At.next
    apply W.sr
    apply oas; rfl; rfl
    apply OL.nx
    apply W.ret
    ((with_reducible apply At.fin1); rfl; rfl; intro w' hw')
    exact ⟨by rw [show ihB G h = false from Bool.eq_false_iff.2 fun h4 => hnih (ihB_iff.1 h4)], by (exact hw'.fr)⟩
theorem InLoop_ext (es : List (Bk × BkY)) (q : Option Addr) (cap : Nat) (nm : Int) (h x : Nat) (w : World) (he : Arr bkR w (low w) es q) (hlen : es.length ≤ 128) (hM : ∀ p ∈ es, p.1.term.to_.length ≤ 257) (hh : h < es.length) (hx : x < es.length) (hGE : ∀ l ∈ graphB (es.map Prod.fst), ∀ e ∈ l, 0 ≤ e ∧ e < ((graphB (es.map Prod.fst)).length : Int)) :
    Calls Try.prog 54 [.agg #[.int .i64 nm, .slice q es.length cap], .int .i64 (h : Int), .int .i64 (x : Int)].toArray w fun e w' => e = .returned (.bool (inlB (graphB (es.map Prod.fst)) h x)) ∧ Ext w w' := by
  obtain ⟨G, hG⟩ : ∃ G, graphB (es.map Prod.fst) = G := ⟨_, rfl⟩
  have hGl : G.length = es.length := by rw [← hG]; simp [graphB]
  have hRe := fun v w2 (H : List Eng.Item) (S : List World) (hw2 : Cls H S w2) (hs : w ∈ S) (hno : ∀ k, k < w.heap.size → NotOwned H k) => Reach_ext es q cap nm v w2 (he.at hw2 hs hno) (by omega)
  have hOv := fun a b w2 (H : List Eng.Item) (S : List World) (hw2 : Cls H S w2) (hs : w ∈ S) (hno : ∀ k, k < w.heap.size → NotOwned H k) => OverC_ext es q cap nm a b w2 (he.at hw2 hs hno) (by omega)
  have hPr := fun k w2 (H : List Eng.Item) (S : List World) (hw2 : Cls H S w2) (hs : w ∈ S) (hno : ∀ k, k < w.heap.size → NotOwned H k) => RPreds_calls es q cap nm k w2 (he.at hw2 hs hno) hlen hM
  simp only [hG] at hRe hOv hPr hGE ⊢
  refine enter Try.func54 rfl Try.ntmps54 rfl (Cls.start w) ?_
  (simp only [argEnv, Nat.zero_add, Nat.reduceAdd])
  apply W.sr
  apply OL.box; rfl; rfl; exact CellsL.agg; (intro bk hbk; simp only [AllLe, and_true] at hbk)
  apply oas; rfl; rfl
  apply OL.nsr
  apply oop; rfl; apply Pev.load_blkA; rfl; exact yes; exact .head _; rfl; exact Take.au
  revert bk
  intro b1 hb1x
  have hb1 : w.heap.size ≤ b1 := by first | exact hb1x | exact hb1x.1
  refine OL.frzD (C' := fun w0 => Cls [] [w0, w]) (fun w0 hc0 => (hc0.thin (.any (fun k hk => by rw [show k = b1 from hk]; exact ⟨hb1, trivial⟩) Thin.nil)).note) (fun w0 hc0 => ?_)
  have hb10 : b1 < w0.heap.size := blk_lt (hc0.item (.head _))
  have hcF : CellsAt w0 ⟨b1, 0, none⟩ [.int .i64 nm, .slice q es.length cap] := fun j v hj => by
    rw [add_mid, blk_cell (hc0.item (.head _)), Nat.zero_add]
    exact hj
  have hcF1 : w0.cell? ⟨b1, 0 + 1, none⟩ = some (.slice q es.length cap) := hcF 1 _ rfl
  refine OL.callE (α := Nat × World) (fun z => .slice (some ⟨z.1, 0, none⟩) es.length es.length) (fun z => (w0.heap.size ≤ z.2.heap.size ∧ w.heap.size ≤ z.2.heap.size) ∧ z.1 < z.2.heap.size ∧ ∀ j : Nat, j < es.length → z.2.cell? ⟨z.1, 0 + (j : Int).toNat * 1, none⟩ = some (.bool (rcB G (-1) j))) (fun z => Cls [] [z.2, w0, w]) rfl rfl (by exact Args.au) (fun w2 hw2 => (hRe (-1) w2 _ _ hw2 (by exact mau) (fun k hk => NotOwned.nil)).mono fun e w3 ⟨bR, h1, h2, h3, h4⟩ => ⟨(bR, w3), h1, ⟨⟨((hw2.ext h2).kp w0 (by exact mau)).size, ((hw2.ext h2).kp w (by exact mau)).size⟩, h3, h4⟩, (hw2.ext h2).note⟩) ?_
  rintro ⟨bR, wR⟩ ⟨⟨hw0R, hwR⟩, hbR, hcR⟩
  simp only at hw0R hwR hbR hcR ⊢
  have hcRx := hcR x hx
  have hEl : ∀ a b, Go.Ss.Edge G a b → b < G.length := fun a b he => edge_lt hGE he
  apply oas; rfl; rfl
  apply OL.nx
  apply W.seq
  apply W.sr
  apply omv; rfl; rfl
  apply omv; rfl; rfl
  apply oop; rfl; apply Pev.idxB; rfl; exact yes; rfl; exact yes; rfl; intro hcond; omega; rfl
  apply oop; rfl; apply Pev.load_kept; rfl; exact yes; exact .head _; rfl; intro hcond; assumption; intro hcond; assumption; intro hcond; exact NotOwned.au
  apply oop; rfl; apply Pev.not; rfl; exact yes
  apply omv; rfl; rfl
  apply ono; rfl; rfl; rfl; apply Pev.move; rfl; exact yes
  apply ono; rfl; rfl; rfl; apply Pev.move; rfl; exact yes
  apply ono; rfl; rfl; rfl; apply Pev.bin; rfl; exact fun h => h; rfl; exact fun h => h; intro hcond; apply Bin.eql
  apply oop; rfl; apply Pev.pick_or; rfl; exact yes; rfl; exact fun h => h
  apply OL.nx
  by_cases hxh : x = h
  · subst hxh
    refine W.cond rfl (fun _ => ?_) (fun h3 => by simp at h3)
    apply W.sr
    apply omv; rfl; rfl
    apply omv; rfl; rfl
    apply obn; rfl; rfl; rfl; apply Bin.eql
    apply oas; rfl; rfl
    apply OL.nx
    refine W.rt ?_
    ((with_reducible apply At.fin1); rfl; rfl; intro w' hw')
    exact ⟨by rw [show inlB G x x = true from inlB_iff.2 (.inl rfl)]; simp, by (exact hw'.fr)⟩
  have hxhI : ¬ (x : Int) = (h : Int) := by omega
  by_cases hrx : ¬ Rc G (-1) x
  · refine W.cond rfl (fun _ => ?_) (fun h3 => by simp [rcB_not.2 hrx] at h3)
    apply W.sr
    apply omv; rfl; rfl
    apply omv; rfl; rfl
    apply obn; rfl; rfl; rfl; apply Bin.eql
    apply oas; rfl; rfl
    apply OL.nx
    refine W.rt ?_
    ((with_reducible apply At.fin1); rfl; rfl; intro w' hw')
    have hnl : ¬ InL G h x := fun h3 => by
      rcases h3 with h3 | h3
      · exact hxh h3
      · exact hrx h3.1
    exact ⟨by rw [show inlB G h x = false from Bool.eq_false_iff.2 fun h4 => hnl (inlB_iff.1 h4)]; simp [hxhI], by (exact hw'.fr)⟩
  have hrx : Rc G (-1) x := Classical.not_not.1 hrx
  refine W.cond rfl (fun h3 => by rw [rcB_iff.2 hrx, decide_eq_false hxhI] at h3; cases h3) (fun _ => ?_)
  apply W.sk
  apply W.sr
  apply ofa; rfl; rfl; rfl
  apply oop; rfl; apply Pev.load_kept; rfl; exact yes; exact .tail _ (.head _); rfl; intro hcond; assumption; intro hcond; assumption; intro hcond; exact NotOwned.au
  apply oop; rfl; apply Pev.len_slice; rfl; exact yes; rfl
  apply OL.makeSlice; rfl; rfl; rfl; rfl; rfl; rfl; rfl; omega; (intro bk hbk; simp only [AllLe, and_true] at hbk)
  apply oas; rfl; rfl
  apply OL.nsr
  apply omv; rfl; rfl
  apply omv; rfl; rfl
  apply oop; rfl; apply Pev.idxB; rfl; exact yes; rfl; exact yes; rfl; intro hcond; omega; rfl
  revert bk
  intro bS hbSx
  have hbS : wR.heap.size ≤ bS := by first | exact hbSx | exact hbSx.1
  rw [bls_zero]
  (apply OL.storeI); rfl; rfl; rfl; rfl; rfl; (exact Swap.au); (rw [bls_length, List.length_replicate]; omega)
  rw [show (bls (List.replicate es.length false)).set (0 + (x : Int).toNat * 1) (.bool true) = bls ((List.replicate es.length false).set x true) by rw [show 0 + (x : Int).toNat * 1 = x by omega]; exact bls_set _ _ _]
  apply OL.nx
  apply W.seq
  apply W.sr
  apply ofa; rfl; rfl; rfl
  apply oop; rfl; apply Pev.load_kept; rfl; exact yes; exact .tail _ (.head _); rfl; intro hcond; assumption; intro hcond; assumption; intro hcond; exact NotOwned.au
  apply oop; rfl; apply Pev.len_slice; rfl; exact yes; rfl
  apply omv; rfl; rfl
  apply OL.nx
  apply W.block
  have hQ : ∀ a b, Fw G h x a → Go.Ss.Edge G a b → (b : Int) ≠ (h : Int) → Fw G h x b := fun a b ha he hb => ha.snoc he (by omega)
  refine W.loop (G := Nat × List Bool) (fun g => g.1 ≤ es.length ∧ g.2.length = es.length ∧ (∀ b : Nat, g.2[b]? = some true → Fw G h x b) ∧ g.2[x]? = some true ∧ (Closed G (h : Int) g.2 ∨ g.1 + 1 ≤ cntT g.2)) (fun g => es.length - g.1)
    (fun g => [(1, true, .int .i64 (h : Int)), (3, true, .pointer (some ⟨b1, 0, none⟩)), (8, true, .slice (some ⟨bS, 0, none⟩) es.length es.length), (39, true, .int .i64 (es.length : Int)), (40, true, .int .i64 (g.1 : Int))])
    (fun g => Cls [blk bS 4 (bls g.2)] [wR, w0, w]) (0, (List.replicate es.length false).set x true) ⟨by simp, by simp, fun b hb => ?_, by rw [List.getElem?_set]; simp [hx], .inr ?_⟩ (by exact Sub.au) (fun w' hw' => hw') ?_
  · rw [List.getElem?_set] at hb
    split at hb
    · rename_i e
      subst e
      exact .refl hxh
    · have := List.getElem?_eq_some_iff.1 hb
      simp at this
  · have : 0 < cntT ((List.replicate es.length false).set x true) := List.count_pos_iff.2 (List.mem_of_getElem? (i := x) (by rw [List.getElem?_set]; simp [hx]))
    simp only
    omega
  rintro ⟨r, B0⟩ ⟨hr, hB0, hs0, hz0, hc0⟩
  simp only at hr hB0 hs0 hz0 hc0 ⊢
  have hA : ∀ b, wR.heap.size ≤ b → AllLe [wR, w0, w] b := fun b hb => ⟨hb, Nat.le_trans hw0R hb, Nat.le_trans hwR hb, trivial⟩
  apply W.sr
  apply obn; rfl; rfl; rfl; apply Bin.lss
  apply OL.nx
  apply W.seq
  (refine W.cnd (fun hltr => ?_) (fun hltr => ?_)) <;> (try (exfalso; first | omega | exact hltr trivial | contradiction))
  · apply W.sk
    apply W.sb
    apply W.sr
    apply ofa; rfl; rfl; rfl
    apply oop; rfl; apply Pev.load_kept; rfl; exact yes; exact .tail _ (.head _); rfl; intro hcond; assumption; intro hcond; assumption; intro hcond; exact NotOwned.au
    apply oop; rfl; apply Pev.len_slice; rfl; exact yes; rfl
    apply omv; rfl; rfl
    apply OL.nx
    apply W.block
    refine W.loop (G := Nat × List Bool) (fun g => g.1 ≤ es.length ∧ RnF G (h : Int) (Fw G h x) B0 g.2 g.1 0) (fun g => es.length - g.1)
      (fun g => [(1, true, .int .i64 (h : Int)), (3, true, .pointer (some ⟨b1, 0, none⟩)), (8, true, .slice (some ⟨bS, 0, none⟩) es.length es.length), (39, true, .int .i64 (es.length : Int)), (40, true, .int .i64 (r : Int)), (43, true, .slice q es.length cap), (44, true, .int .i64 (es.length : Int)), (45, true, .int .i64 (g.1 : Int))])
      (fun g => Cls [blk bS 4 (bls g.2)] [wR, w0, w]) (0, B0) ⟨by simp, .start (by omega) hs0⟩ (by exact Sub.au) (fun w' hw' => hw') ?_
    rintro ⟨k, B⟩ ⟨hk, hR⟩
    simp only at hk hR ⊢
    have hBl : B.length = es.length := by rw [hR.len, hGl]
    apply W.sr
    apply obn; rfl; rfl; rfl; apply Bin.lss
    apply OL.nx
    apply W.seq
    (refine W.cnd (fun hlt => ?_) (fun hlt => ?_)) <;> (try (exfalso; first | omega | exact hlt trivial | contradiction))
    · have hkl : k < es.length := by omega
      obtain ⟨a, p, hqa, hab, hp, hcell, hok⟩ := he.get hkl
      have hab : a.block < w.heap.size := hab
      have hcell : CellsAt w (a.add (k * 7)) [.slice p.2.p.1 p.1.params.length p.2.p.2, .slice p.2.i.1 p.1.ins.length p.2.i.2, .int .i64 p.1.term.kind, .int .i64 p.1.term.arg, .int .i64 p.1.term.n, .slice p.2.t.c.1 p.1.term.cases.length p.2.t.c.2, .slice p.2.t.t.1 p.1.term.to_.length p.2.t.t.2] := hcell
      have htl := hok.t.tl
      obtain ⟨ts, hts, harr⟩ := hok.t.t
      have htl2 : p.1.term.to_.length = ts.length := by rw [← hts, List.length_map]
      have hGk : G[k]? = some (p.1.term.to_.map Ed.block) := by
        rw [← hG]
        simp [graphB, hp]
      rw [hqa]
      apply W.sk
      apply W.sb
      apply W.sr
      apply omv; rfl; rfl
      apply oop; rfl; apply Pev.idx; rfl; exact yes; rfl; exact yes; rfl; rfl; intro hcond; omega
      apply oop; rfl; apply Pev.load_keptA; rfl; exact yes; exact .tail _ (.tail _ (.head _)); rfl; intro hcond; assumption; rfl; intro hcond; (rw [add_block]; assumption); intro hcond; exact NotOwned.au
      apply OL.alloc; rfl; rfl; exact CellsL.agg; (intro bk hbk; simp only [AllLe, and_true] at hbk)
      apply oas; rfl; rfl
      apply OL.storeB; rfl; rfl; exact CellsL.agg; rfl; rfl; rfl; exact Swap.au; exact Put.au
      apply OL.nsr
      apply ofa; rfl; rfl; rfl
      apply ofa; rfl; rfl; rfl
      apply old; rfl; rfl; exact .head _; rfl; rfl
      apply oop; rfl; apply Pev.len_slice; rfl; exact yes; rfl
      apply omv; rfl; rfl
      apply OL.nx
      apply W.block
      revert bk
      intro b7 hb7x
      have hb7 : wR.heap.size ≤ b7 := by first | exact hb7x | exact hb7x.1
      skip
      rw [htl2]
      refine W.loop (G := Nat × List Bool) (fun g => g.1 ≤ ts.length ∧ RnF G (h : Int) (Fw G h x) B0 g.2 k g.1) (fun g => ts.length - g.1)
        (fun g => [(1, true, .int .i64 (h : Int)), (3, true, .pointer (some ⟨b1, 0, none⟩)), (8, true, .slice (some ⟨bS, 0, none⟩) es.length es.length), (9, true, .int .i64 (k : Int)), (39, true, .int .i64 (es.length : Int)), (40, true, .int .i64 (r : Int)), (43, true, .slice (some a) es.length cap), (44, true, .int .i64 (es.length : Int)), (45, true, .int .i64 (k : Int)), (52, true, .slice p.2.t.t.1 ts.length p.2.t.t.2), (53, true, .int .i64 (ts.length : Int)), (54, true, .int .i64 (g.1 : Int))])
        (fun g => Cls [blk bS 4 (bls g.2)] [wR, w0, w]) (0, B) ⟨by simp, hR⟩ (by exact Sub.au) (fun w' hw' => hw'.thin (.any (fun k hk => by rw [show k = b7 from hk]; exact hA b7 hb7) (.keep Thin.nil))) ?_
      rintro ⟨j, C⟩ ⟨hj, hRC⟩
      simp only at hj hRC ⊢
      have hCl : C.length = es.length := by rw [hRC.len, hGl]
      apply W.sr
      apply obn; rfl; rfl; rfl; apply Bin.lss
      apply OL.nx
      apply W.seq
      (refine W.cnd (fun hlt2 => ?_) (fun hlt2 => ?_)) <;> (try (exfalso; first | omega | exact hlt2 trivial | contradiction))
      · have hjl : j < ts.length := by omega
        obtain ⟨ae, u, hqt, hatb, hu, hcu, hoku⟩ := harr.get hjl
        have hatb : ae.block < w.heap.size := hatb
        have hcu : CellsAt w (ae.add (j * 2)) [.int .i64 u.1.block, .slice u.2.1 u.1.args.length u.2.2] := hcu
        have hue : (p.1.term.to_.map Ed.block)[j]? = some u.1.block := by rw [← hts]; simp [hu]
        obtain ⟨hb0, hbn⟩ := hGE _ (List.mem_of_getElem? hGk) u.1.block (List.mem_of_getElem? hue)
        have hck : C[k]? = some (C.getD k false) := getD_true (by omega)
        have hckv : (bls C)[0 + (k : Int).toNat * 1]? = some (.bool (C.getD k false)) := by
          rw [show 0 + (k : Int).toNat * 1 = k by omega]
          exact bls_get hck
        rw [hqt]
        apply W.sk
        apply W.sb
        apply W.sr
        apply oop; rfl; apply Pev.idx; rfl; exact yes; rfl; exact yes; rfl; rfl; intro hcond; omega
        apply oop; rfl; apply Pev.load_keptA; rfl; exact yes; exact .tail _ (.tail _ (.head _)); rfl; intro hcond; assumption; rfl; intro hcond; (rw [add_block]; assumption); intro hcond; exact NotOwned.au
        apply OL.alloc; rfl; rfl; exact CellsL.agg; (intro bk hbk; simp only [AllLe, and_true] at hbk)
        apply OL.storeB; rfl; rfl; exact CellsL.agg; rfl; rfl; rfl; exact Swap.au; exact Put.au
        apply OL.nsr
        apply omv; rfl; rfl
        apply omv; rfl; rfl
        apply oop; rfl; apply Pev.idxB; rfl; exact yes; rfl; exact yes; rfl; intro hcond; omega; rfl
        apply oop; rfl; apply Pev.load_blk; rfl; exact yes; exact .tail _ (.head _); rfl; assumption
        apply omv; rfl; rfl
        apply oy; rfl; rfl; rfl; apply Pev.fld; rfl; exact yes; rfl
        apply oy; rfl; rfl; rfl; apply Pev.load_blk; rfl; exact fun h => h; exact .head _; rfl; rfl
        apply oy; rfl; rfl; rfl; apply Pev.move; rfl; exact yes
        apply oy; rfl; rfl; rfl; apply Pev.bin; rfl; exact fun h => h; rfl; exact fun h => h; intro hcond; apply Bin.neq
        apply oop; rfl; apply Pev.pick_and; rfl; exact yes; rfl; exact fun h => h
        apply OL.nx
        revert bk
        intro b12 hb12x
        have hb12 : wR.heap.size ≤ b12 := by first | exact hb12x | exact hb12x.1
        skip
        refine W.cond rfl (fun h3 => ?_) (fun h3 => ?_)
        · have h4 : C.getD k false = true ∧ ¬ u.1.block = (h : Int) := by simpa using h3
          have hck' : C[k]? = some true := by rw [hck, h4.1]
          apply W.reg
          apply omv; rfl; rfl
          apply ofa; rfl; rfl; rfl
          apply old; rfl; rfl; exact .head _; rfl; rfl
          apply oop; rfl; apply Pev.idxB; rfl; exact yes; rfl; exact yes; rfl; intro hcond; omega; rfl
          (apply OL.storeI); rfl; rfl; rfl; rfl; rfl; (exact Swap.au); (rw [bls_length]; omega)
          rw [show (bls C).set (0 + u.1.block.toNat * 1) (.bool true) = bls (C.set u.1.block.toNat true) by rw [show 0 + u.1.block.toNat * 1 = u.1.block.toNat by omega]; exact bls_set _ _ _]
          apply OL.nil
          with_reducible apply At.in_normal
          with_reducible apply At.next
          apply W.reg
          apply obn; rfl; rfl; rfl; apply Bin.add_in; omega
          apply omv; rfl; rfl
          apply OL.nil
          exact At.again (j + 1, C.set u.1.block.toNat true) ⟨by simp only; omega, hRC.mark hQ hGk hue hck' h4.2 ⟨hb0, hbn⟩⟩ (by simp only; omega) (by exact Sub.au) (fun w' hw' => hw'.thin (.any (fun k hk => by rw [show k = b12 from hk]; exact hA b12 hb12) (.keep Thin.nil)))
        · have h4 : ¬ C[k]? = some true ∨ u.1.block = (h : Int) ∨ ¬ (0 ≤ u.1.block ∧ u.1.block < (G.length : Int)) := by
            by_cases e1 : C[k]? = some true
            · right; left
              have e2 : C.getD k false = true := by rw [hck] at e1; exact Option.some.inj e1
              rw [e2] at h3
              simpa using h3
            · exact .inl e1
          apply W.skip
          with_reducible apply At.in_normal
          with_reducible apply At.next
          apply W.reg
          apply obn; rfl; rfl; rfl; apply Bin.add_in; omega
          apply omv; rfl; rfl
          apply OL.nil
          exact At.again (j + 1, C) ⟨by simp only; omega, hRC.skip hGk hue h4⟩ (by simp only; omega) (by exact Sub.au) (fun w' hw' => hw'.thin (.any (fun k hk => by rw [show k = b12 from hk]; exact hA b12 hb12) (.keep Thin.nil)))
      · obtain rfl : j = ts.length := by omega
        refine W.xt ?_
        with_reducible apply At.in_normal
        with_reducible apply At.next
        apply W.reg
        apply obn; rfl; rfl; rfl; apply Bin.add_in; omega
        apply omv; rfl; rfl
        apply OL.nil
        refine At.again (k + 1, C) ⟨by simp only; omega, RnF.next (l := p.1.term.to_.map Ed.block) (by rw [List.length_map, htl2]; exact hRC) hGk⟩ (by simp only; omega) (by exact Sub.au) (fun w' hw' => hw')
    · obtain rfl : k = es.length := by omega
      refine W.xt ?_
      with_reducible apply At.in_normal
      with_reducible apply At.next
      apply W.reg
      apply obn; rfl; rfl; rfl; apply Bin.add_in; omega
      apply omv; rfl; rfl
      apply OL.nil
      refine At.again (r + 1, B) ⟨by simp only; omega, hBl, hR.snd, hR.le.2 x hz0, ?_⟩ (by simp only; omega) (by exact Sub.au) (fun w' hw' => hw')
      rcases hc0 with hc0 | hc0
      · exact .inl (hR.closed hc0 hz0 hEl)
      · rw [← hGl] at hR
        rcases hR.done with h5 | h5
        · exact .inl h5
        · exact .inr (by simp only; omega)
  obtain rfl : r = es.length := by omega
  have hcl : Closed G (h : Int) B0 := by
    rcases hc0 with hc0 | hc0
    · exact hc0
    · have := cntT_le B0
      omega
  have hall := fw_all hcl hs0 hz0 hEl
  refine W.xt ?_
  with_reducible apply At.next
  apply W.seq
  apply W.sr
  apply oop; rfl; apply Pev.load_keptA; rfl; exact yes; exact .tail _ (.head _); rfl; intro hcond; assumption; rfl; intro hcond; assumption; intro hcond; exact NotOwned.au
  apply omv; rfl; rfl
  refine OL.frzD (C' := fun w1 => Cls [] [w1, wR, w0, w]) (fun w1 hc1 => (hc1.thin (.any (fun k hk => by rw [show k = bS from hk]; exact hA bS hbS) Thin.nil)).note) (fun w1 hc1 => ?_)
  have hi1 := hc1.item (i := blk bS 4 (bls B0)) (.head _)
  have hbS1 : bS < w1.heap.size := blk_lt hi1
  have hcS : ∀ k : Nat, k < es.length → w1.cell? ⟨bS, 0 + (k : Int).toNat * 1, none⟩ = some (.bool (B0.getD k false)) := fun k hk => by
    rw [blk_cell hi1, show 0 + (k : Int).toNat * 1 = k by omega]
    exact bls_get (getD_true (by omega))
  obtain ⟨P, hPe⟩ : ∃ P, predsF G 0 (h : Int) = P := ⟨_, rfl⟩
  have hGM : ∀ l ∈ G, l.length ≤ 257 := fun l hl => by
    rw [← hG] at hl
    obtain ⟨b, hb, rfl⟩ := List.mem_map.1 hl
    obtain ⟨p, hp, rfl⟩ := List.mem_map.1 hb
    rw [List.length_map]
    exact hM p hp
  have hPl : (predsF G 0 (h : Int)).length ≤ 128 * 257 := Nat.le_trans (predsF_len (M := 257) hGM) (Nat.mul_le_mul_right _ (by omega))
  have hPx : ∀ x ∈ predsF G 0 (h : Int), ∃ p : Nat, x = (p : Int) ∧ p < G.length := fun x hx => by
    obtain ⟨p, l, h1, _, h3⟩ := predsF_mem.1 hx
    exact ⟨p, by omega, (List.getElem?_eq_some_iff.1 h1).1⟩
  refine OL.callE (α := (Option Addr × Nat) × World) (fun z => .slice z.1.1 P.length z.1.2) (fun z => IntsO z.2 (low z.2) P z.1.1) (fun z => Cls [] [z.2, w1, wR, w0, w]) rfl rfl (by exact Args.au) (fun w2 hw2 => (hPr (h : Int) w2 _ _ hw2 (by exact mau) (fun k hk => NotOwned.nil)).mono fun e w3 ⟨q', c', h1, h2, h3⟩ => ⟨((q', c'), w3), by rw [← hPe]; exact h1, by rw [← hPe]; exact h3.mono (fun k hk => hk.2), (hw2.ext h2).note⟩) ?_
  rintro ⟨⟨qp, cp⟩, wP⟩ hIp
  simp only at hIp ⊢
  apply oop; rfl; apply Pev.len_slice; rfl; exact yes; rfl
  apply omv; rfl; rfl
  apply OL.nx
  apply W.block
  have hmem : ∀ p : Nat, (p : Int) ∈ P ↔ Go.Ss.Edge G p h := fun p => by rw [← hPe]; exact preds_edge
  rw [hPe] at hPl hPx
  refine W.loop (G := Nat) (fun j => j ≤ P.length ∧ ∀ p : Nat, (p : Int) ∈ P.take j → ¬ (Fw G h x p ∧ Dm G h p)) (fun j => P.length - j)
    (fun j => [(1, true, .int .i64 (h : Int)), (3, true, .pointer (some ⟨b1, 0, none⟩)), (8, true, .slice (some ⟨bS, 0, none⟩) es.length es.length), (77, true, .slice qp P.length cp), (78, true, .int .i64 (P.length : Int)), (79, true, .int .i64 (j : Int))])
    (fun j => Cls [] [wP, w1, wR, w0, w]) 0 ⟨by simp, fun p h => by simp at h⟩ (by exact Sub.au) (fun w' hw' => hw') ?_
  rintro j ⟨hj, hnone⟩
  apply W.sr
  apply obn; rfl; rfl; rfl; apply Bin.lss
  apply OL.nx
  apply W.seq
  (refine W.cnd (fun hlt => ?_) (fun hlt => ?_)) <;> (try (exfalso; first | omega | exact hlt trivial | contradiction))
  · have hjl : j < P.length := by omega
    obtain ⟨ap, v, hqp, habp, hv, hcx⟩ := hIp.get hjl
    obtain ⟨p, rfl, hpl⟩ := hPx v (List.mem_of_getElem? hv)
    have habp : ap.block < wP.heap.size := habp
    have hpl2 : p < es.length := by omega
    have hcSp := hcS p hpl2
    have hget : B0.getD p false = true ↔ Fw G h x p := by
      rw [← hall p, getD_true (by omega : p < B0.length)]
      simp
    rw [hqp]
    apply W.sk
    apply W.sb
    apply W.sr
    apply oop; rfl; apply Pev.idx; rfl; exact yes; rfl; exact yes; rfl; rfl; intro hcond; omega
    apply oop; rfl; apply Pev.load_kept; rfl; exact yes; exact .head _; rfl; intro hcond; assumption; intro hcond; (rw [add_block]; assumption); intro hcond; exact NotOwned.au
    apply oas; rfl; rfl
    apply OL.nsr
    apply omv; rfl; rfl
    apply omv; rfl; rfl
    apply oop; rfl; apply Pev.idxB; rfl; exact yes; rfl; exact yes; rfl; intro hcond; omega; rfl
    apply oop; rfl; apply Pev.load_kept; rfl; exact yes; exact .tail _ (.head _); rfl; intro hcond; assumption; intro hcond; assumption; intro hcond; exact NotOwned.au
    apply omv; rfl; rfl
    apply oy; rfl; rfl; rfl; apply Pev.load_keptA; rfl; exact yes; exact .tail _ (.tail _ (.tail _ (.head _))); rfl; intro hcond; assumption; rfl; intro hcond; assumption; intro hcond; exact NotOwned.au
    apply oy; rfl; rfl; rfl; apply Pev.move; rfl; exact yes
    apply oy; rfl; rfl; rfl; apply Pev.move; rfl; exact yes
    (((first | (with_reducible apply OL.op) | (with_reducible apply QL.op)); (exact Guard.au); rfl; rfl); (exact Pev.call (v := .bool (ovC G h p)) rfl (by exact Args.au) (fun _ w2 hw2 => (hOv h p w2 _ _ hw2 (by exact mau) (fun k hk => NotOwned.nil) hpl2).mono fun e w3 h => ⟨h.1, hw2.ext h.2⟩)))
    apply oop; rfl; apply Pev.pick_and; rfl; exact yes; rfl; exact fun h => h
    apply OL.nx
    refine W.cond rfl (fun h3 => ?_) (fun h3 => ?_)
    · rw [Bool.and_eq_true, hget, ovC_iff] at h3
      have hin : InL G h x := .inr ⟨hrx, p, ⟨h3.1.rc hGE hrx, (hmem p).1 (List.mem_of_getElem? hv), h3.2⟩, h3.1⟩
      apply W.sr
      apply oas; rfl; rfl
      apply OL.nx
      refine W.rt ?_
      ((with_reducible apply At.fin1); rfl; rfl; intro w' hw')
      exact ⟨by rw [inlB_iff.2 hin], by (exact hw'.fr)⟩
    · apply W.skip
      with_reducible apply At.in_normal
      with_reducible apply At.next
      apply W.reg
      apply obn; rfl; rfl; rfl; apply Bin.add_in; omega
      apply omv; rfl; rfl
      apply OL.nil
      refine At.again (j + 1) ⟨by omega, fun p' hp' hn => ?_⟩ (by omega) (by exact Sub.au) (fun w' hw' => hw')
      rw [List.take_add_one, hv, Option.toList_some] at hp'
      rcases List.mem_append.1 hp' with hp' | hp'
      · exact hnone p' hp' hn
      · have := List.mem_singleton.1 hp'
        obtain rfl : p' = p := by omega
        rw [hget.2 hn.1, ovC_iff.2 hn.2] at h3
        cases h3
  · obtain rfl : j = P.length := by omega
    rw [List.take_length] at hnone
    have hnin : ¬ InL G h x := fun h3 => by
      rcases h3 with h3 | ⟨_, p, h4, h5⟩
      · exact hxh h3
      · exact hnone p ((hmem p).2 h4.2.1) ⟨h5, h4.2.2⟩
    refine W.xt ?_
    with_reducible apply At.next
    apply W.sr
    apply oas; rfl; rfl
    apply OL.nx
    apply W.ret
    ((with_reducible apply At.fin1); rfl; rfl; intro w' hw')
    exact ⟨by rw [show inlB G h x = false from Bool.eq_false_iff.2 fun h4 => hnin (inlB_iff.1 h4)], by (exact hw'.fr)⟩
end Go.Proofs.Ytehelljmaiophaa.ss

/- The walk of loopsWorks: the unit. Conditions: none. -/
namespace Go.Eng
set_option linter.unusedVariables false
set_option linter.unusedSimpArgs false
theorem Cls.rebase {H : List Item} {w w2 w3 : World} (h : Cls H [w2] w3) (he : Ext w w2) : Cls H [w] w3 :=
  ⟨h.holds, h.lt, h.dj, fun s hs => by rw [List.mem_singleton.1 hs]; exact (he.mono fun _ _ x => x.elim).trans (h.kp w2 (.head _))⟩
end Go.Eng
namespace Go.Ss
set_option linter.unusedVariables false
set_option linter.unusedSimpArgs false
open Go.Eng Go.RowKit
set_option linter.unusedVariables false
set_option linter.unusedSimpArgs false
def dia2 : Go.Ss.Fn := ⟨-1, [⟨[], [⟨1, 0, 1, []⟩], ⟨2, 1, 0, [], [⟨1, []⟩, ⟨2, []⟩]⟩⟩, ⟨[], [], ⟨1, 0, 0, [], [⟨3, []⟩]⟩⟩, ⟨[], [], ⟨1, 0, 0, [], [⟨3, []⟩]⟩⟩, ⟨[], [], ⟨2, 1, 0, [], [⟨3, []⟩, ⟨4, []⟩]⟩⟩, ⟨[], [], ⟨0, 1, 0, [], []⟩⟩]⟩
theorem dia2_ok : funcE dia2 = 0 := by
  have h0 : DefAt dia2.blocks 1 0 1 := ⟨_, rfl, .inr ⟨0, _, rfl, rfl, rfl⟩⟩
  have hu : ∀ (k : Nat) b, dia2.blocks[k]? = some b → UsesB dia2.blocks k b := by
    intro k b hb
    have hk : k = 0 ∨ k = 1 ∨ k = 2 ∨ k = 3 ∨ k = 4 := by
      have := (List.getElem?_eq_some_iff.1 hb).1
      simp [dia2] at this
      omega
    rcases hk with rfl | rfl | rfl | rfl | rfl
    · obtain rfl := Option.some.inj hb
      refine ⟨fun n i hi v hv => ?_, fun v hv => ?_⟩
      · match n, hi with
        | 0, hi =>
          obtain rfl := Option.some.inj hi
          cases hv
        | n + 1, hi => simp at hi
      · obtain rfl : v = 1 := by simpa [operT] using hv
        exact ⟨0, 1, h0, .inl ⟨rfl, Nat.le_refl _⟩⟩
    · obtain rfl := Option.some.inj hb
      exact ⟨fun n i hi v hv => by simp at hi, fun v hv => by simp [operT] at hv⟩
    · obtain rfl := Option.some.inj hb
      exact ⟨fun n i hi v hv => by simp at hi, fun v hv => by simp [operT] at hv⟩
    · obtain rfl := Option.some.inj hb
      refine ⟨fun n i hi v hv => by simp at hi, fun v hv => ?_⟩
      obtain rfl : v = 1 := by simpa [operT] using hv
      exact ⟨0, 1, h0, .inr (.inl ⟨by decide, .inr (rc_none (.inl rfl) 3)⟩)⟩
    · obtain rfl := Option.some.inj hb
      refine ⟨fun n i hi v hv => by simp at hi, fun v hv => ?_⟩
      obtain rfl : v = 1 := by simpa [operT] using hv
      exact ⟨0, 1, h0, .inr (.inl ⟨by decide, .inr (rc_none (.inl rfl) 4)⟩)⟩
  have hs : shapeE dia2.blocks = 0 := by decide
  unfold funcE
  rw [if_neg (by decide), if_neg (by decide), if_neg (by decide), if_neg (fun h => h hs), if_pos hu]
def dia2G : List (List Int) := graphB dia2.blocks
theorem dia2G_eq : dia2G = [[1, 2], [3], [3], [3, 4], []] := by decide
theorem dia2_len : dia2G.length = 5 := by decide
theorem dia2G_ok : ∀ l ∈ dia2G, ∀ e ∈ l, 0 ≤ e ∧ e < (dia2G.length : Int) := by rw [dia2G_eq]; decide
theorem dia2_edge {q b : Nat} : Edge dia2G q b ↔ (q = 0 ∧ (b = 1 ∨ b = 2)) ∨ (q = 1 ∧ b = 3) ∨ (q = 2 ∧ b = 3) ∨ (q = 3 ∧ (b = 3 ∨ b = 4)) := by
  rw [dia2G_eq]
  constructor
  · rintro ⟨l, h1, h2⟩
    match q, h1 with
    | 0, h1 =>
      obtain rfl := Option.some.inj h1
      simp at h2
      omega
    | 1, h1 =>
      obtain rfl := Option.some.inj h1
      simp at h2
      omega
    | 2, h1 =>
      obtain rfl := Option.some.inj h1
      simp at h2
      omega
    | 3, h1 =>
      obtain rfl := Option.some.inj h1
      simp at h2
      omega
    | 4, h1 =>
      obtain rfl := Option.some.inj h1
      simp at h2
    | q + 5, h1 => simp at h1
  · rintro (⟨rfl, rfl | rfl⟩ | ⟨rfl, rfl⟩ | ⟨rfl, rfl⟩ | ⟨rfl, rfl | rfl⟩)
    · exact ⟨_, rfl, by simp⟩
    · exact ⟨_, rfl, by simp⟩
    · exact ⟨_, rfl, by simp⟩
    · exact ⟨_, rfl, by simp⟩
    · exact ⟨_, rfl, by simp⟩
    · exact ⟨_, rfl, by simp⟩
theorem dia2_0 {v : Int} (h : v ≠ 0) : Rc dia2G v 0 := .zero h (by rw [dia2_len]; omega)
theorem dia2_1 {v : Int} (h : v ≠ 0) (h1 : v ≠ 1) : Rc dia2G v 1 := .step (dia2_0 h) (dia2_edge.2 (by omega)) (fun e => h1 e.symm) (by rw [dia2_len]; omega)
theorem dia2_2 {v : Int} (h : v ≠ 0) (h1 : v ≠ 2) : Rc dia2G v 2 := .step (dia2_0 h) (dia2_edge.2 (by omega)) (fun e => h1 e.symm) (by rw [dia2_len]; omega)
theorem dia2_3 {v : Int} (h : v ≠ 0) (h3 : v ≠ 3) : Rc dia2G v 3 := by
  by_cases h1 : v = 1
  · exact .step (dia2_2 h (by omega)) (dia2_edge.2 (by omega)) (fun e => h3 e.symm) (by rw [dia2_len]; omega)
  · exact .step (dia2_1 h h1) (dia2_edge.2 (by omega)) (fun e => h3 e.symm) (by rw [dia2_len]; omega)
theorem dia2_back {p h : Nat} : BackE dia2G p h ↔ p = 3 ∧ h = 3 := by
  constructor
  · rintro ⟨_, h2, h3⟩
    rw [dia2_edge] at h2
    rcases h3 with h3 | h3
    · omega
    · by_cases e0 : p = 0
      · subst e0
        exact absurd (dia2_0 (by omega)) h3
      by_cases e1 : p = 1
      · subst e1
        exact absurd (dia2_1 (by omega) (by omega)) h3
      by_cases e2 : p = 2
      · subst e2
        exact absurd (dia2_2 (by omega) (by omega)) h3
      by_cases e4 : h = 3
      · omega
      · obtain rfl : p = 3 := by omega
        exact absurd (dia2_3 (by omega) (by omega)) h3
  · rintro ⟨rfl, rfl⟩
    exact ⟨dia2_3 (by decide) (by decide), dia2_edge.2 (by omega), .inl rfl⟩
theorem Fw.neEnd {G : List (List Int)} {h x p : Nat} (r : Fw G h x p) : p ≠ h := by
  induction r with
  | refl hx => exact hx
  | step _ _ _ ih => exact ih
theorem dia2_isH {h : Nat} : IsH dia2G h ↔ h = 3 := by
  unfold IsH
  simp only [dia2_back]
  exact ⟨fun ⟨_, _, h⟩ => h, fun h => ⟨3, rfl, h⟩⟩
theorem dia2_mem : memL dia2G 3 = [3] := by
  refine sorted_eq (memL_sorted _ _) (by simp) fun v => ?_
  rw [memL_mem]
  constructor
  · rintro ⟨x, rfl, _, h1⟩
    rcases h1 with rfl | ⟨_, p, h2, h3⟩
    · simp
    · exact absurd (dia2_back.1 h2).1 h3.neEnd
  · intro hv
    obtain rfl := List.mem_singleton.1 hv
    exact ⟨3, rfl, by rw [dia2_len]; omega, .inl rfl⟩
theorem dia2_hdr : hdrL dia2G 5 = [3] := by
  rw [(hdrL_succ dia2G 4).2 (by rw [dia2_isH]; omega), (hdrL_succ dia2G 3).1 (dia2_isH.2 rfl), (hdrL_succ dia2G 2).2 (by rw [dia2_isH]; omega), (hdrL_succ dia2G 1).2 (by rw [dia2_isH]; omega), (hdrL_succ dia2G 0).2 (by rw [dia2_isH]; omega)]
  rfl
theorem dia2_lps : lpsL dia2G = [(3, [3])] := by
  unfold lpsL
  rw [dia2_len, dia2_hdr, List.map_singleton, dia2_mem]
end Go.Ss
namespace Go.Proofs.Ytehelljmaiophaa.ss
set_option linter.unusedVariables false
set_option linter.unusedSimpArgs false
set_option maxRecDepth 100000
open Go.Eng Go.RowKit Go.Ss
set_option linter.unusedVariables false
set_option linter.unusedSimpArgs false
abbrev diaB (b9 b6 b3 : Nat) (t3 : List Value) : List Value := [.slice none 0 0, .slice (some ⟨b6, 0, none⟩) 1 1, .int .i64 2, .int .i64 1, .int .i64 0, .slice none 0 0, .slice (some ⟨b9, 0, none⟩) 2 2, .slice none 0 0, .slice none 0 0, .int .i64 1, .int .i64 0, .int .i64 0, .slice none 0 0, .slice (some ⟨b3, 0, none⟩) 1 1, .slice none 0 0, .slice none 0 0, .int .i64 1, .int .i64 0, .int .i64 0, .slice none 0 0, .slice (some ⟨b3, 0, none⟩) 1 1, .slice none 0 0, .slice none 0 0] ++ t3
theorem diamondC_calls (w : World) : Calls Try.prog 84 #[] w fun e w' => ∃ b18 b9 b6 b3 : Nat, e = .returned (.agg #[.int .i64 (-1), .slice (some ⟨b18, 0, none⟩) 4 4]) ∧ (w.heap.size ≤ b18 ∧ w.heap.size ≤ b9 ∧ w.heap.size ≤ b6 ∧ w.heap.size ≤ b3) ∧
    Cls [blk b18 41 (diaB b9 b6 b3 [.int .i64 0, .int .i64 1, .int .i64 0, .slice none 0 0, .slice none 0 0]), blk b9 105 [.int .i64 1, .slice none 0 0, .int .i64 2, .slice none 0 0], blk b6 85 [.int .i64 1, .int .i64 0, .int .i64 1, .slice none 0 0], blk b3 105 [.int .i64 3, .slice none 0 0]] [w] w' := by
  refine enter Try.func84 rfl Try.ntmps84 rfl (Cls.start w) ?_
  (simp only [argEnv, Nat.zero_add, Nat.reduceAdd])
  apply W.sr
  apply OL.alloc; rfl; rfl; exact CellsL.agg; (intro bk hbk; simp only [AllLe, and_true] at hbk)
  apply OL.nsr
  apply oop; rfl; apply Pev.build; rfl; exact CellsL.agg; rfl; exact Fill.au; rfl
  apply OL.buildSlice; rfl; rfl; rfl; exact Elems.au; rfl; rfl; (intro bk hbk; simp only [AllLe, and_true] at hbk)
  apply oop; rfl; apply Pev.build; rfl; exact CellsL.agg; rfl; exact Fill.au; rfl
  apply OL.alloc; rfl; rfl; exact CellsL.agg; (intro bk hbk; simp only [AllLe, and_true] at hbk)
  apply OL.storeB; rfl; rfl; exact CellsL.agg; rfl; rfl; rfl; exact Swap.au; exact Put.au
  apply OL.nsr
  apply oop; rfl; apply Pev.build; rfl; exact CellsL.agg; rfl; exact Fill.au; rfl
  apply OL.buildSlice; rfl; rfl; rfl; exact Elems.au; rfl; rfl; (intro bk hbk; simp only [AllLe, and_true] at hbk)
  apply oop; rfl; apply Pev.build; rfl; exact CellsL.agg; rfl; exact Fill.au; rfl
  apply oop; rfl; apply Pev.build; rfl; exact CellsL.agg; rfl; exact Fill.au; rfl
  apply OL.buildSlice; rfl; rfl; rfl; exact Elems.au; rfl; rfl; (intro bk hbk; simp only [AllLe, and_true] at hbk)
  apply oop; rfl; apply Pev.build; rfl; exact CellsL.agg; rfl; exact Fill.au; rfl
  apply oop; rfl; apply Pev.build; rfl; exact CellsL.agg; rfl; exact Fill.au; rfl
  apply oop; rfl; apply Pev.load_blkA; rfl; exact yes; exact .tail _ (.tail _ (.head _)); rfl; exact Take.au
  apply oop; rfl; apply Pev.build; rfl; exact CellsL.agg; rfl; exact Fill.au; rfl
  apply oop; rfl; apply Pev.load_blkA; rfl; exact yes; exact .tail _ (.tail _ (.head _)); rfl; exact Take.au
  apply oop; rfl; apply Pev.build; rfl; exact CellsL.agg; rfl; exact Fill.au; rfl
  apply oop; rfl; apply Pev.build; rfl; exact CellsL.agg; rfl; exact Fill.au; rfl
  apply oop; rfl; apply Pev.build; rfl; exact CellsL.agg; rfl; exact Fill.au; rfl
  apply OL.buildSlice; rfl; rfl; rfl; exact Elems.au; rfl; rfl; (intro bk hbk; simp only [AllLe, and_true] at hbk)
  apply oop; rfl; apply Pev.build; rfl; exact CellsL.agg; rfl; exact Fill.au; rfl
  apply OL.storeB; rfl; rfl; exact CellsL.agg; rfl; rfl; rfl; exact Swap.au; exact Put.au
  apply OL.nx
  apply W.ret
  rename_i b0 hb0 b3 hb3 b1 hb1 b6 hb6 b9 hb9
  revert bk
  intro b18 hb18
  have h0 : w.heap.size ≤ b0 := by first | exact hb0 | exact hb0.1
  have h3 : w.heap.size ≤ b3 := by first | exact hb3 | exact hb3.1
  have h1 : w.heap.size ≤ b1 := by first | exact hb1 | exact hb1.1
  have h6 : w.heap.size ≤ b6 := by first | exact hb6 | exact hb6.1
  have h9 : w.heap.size ≤ b9 := by first | exact hb9 | exact hb9.1
  have h18 : w.heap.size ≤ b18 := by first | exact hb18 | exact hb18.1
  refine At.finC (b := b0) (cs := [.int .i64 (-1), .slice (some ⟨b18, 0, none⟩) 4 4]) rfl rfl (by exact mau) rfl rfl (fun w' hw' => ?_)
  exact ⟨b18, b9, b6, b3, rfl, ⟨h18, h9, h6, h3⟩, hw'.thin (.keep (.keep (.keep (.any (fun k hk => by rw [show k = b1 from hk]; exact ⟨h1, trivial⟩) (.keep (.any (fun k hk => by rw [show k = b0 from hk]; exact ⟨h0, trivial⟩) Thin.nil))))))⟩
theorem loopsWorks_of (hRed : ∀ (y : FnY) (w : World), FnOk w (low w) dia2 y → Calls Try.prog 95 [.agg (fnC dia2 y).toArray].toArray w fun e w' => e = .returned (.tuple #[.bool true, .int .i64 0]) ∧ Ext w w') (w : World) : Calls Try.prog 50 #[] w fun e w' => e = .returned (.bool true) ∧ Ext w w' := by
  refine enter Try.func50 rfl Try.ntmps50 rfl (Cls.start w) ?_
  (simp only [argEnv, Nat.zero_add, Nat.reduceAdd])
  apply W.sr
  apply oas; rfl; rfl
  apply OL.nsr
  refine OL.callE (α := Nat × Nat × Nat × Nat) (fun z => .agg #[.int .i64 (-1), .slice (some ⟨z.1, 0, none⟩) 4 4]) (fun z => w.heap.size ≤ z.1 ∧ w.heap.size ≤ z.2.1 ∧ w.heap.size ≤ z.2.2.1 ∧ w.heap.size ≤ z.2.2.2) (fun z => Cls [blk z.1 41 (diaB z.2.1 z.2.2.1 z.2.2.2 [.int .i64 0, .int .i64 1, .int .i64 0, .slice none 0 0, .slice none 0 0]), blk z.2.1 105 [.int .i64 1, .slice none 0 0, .int .i64 2, .slice none 0 0], blk z.2.2.1 85 [.int .i64 1, .int .i64 0, .int .i64 1, .slice none 0 0], blk z.2.2.2 105 [.int .i64 3, .slice none 0 0]] [w]) rfl rfl (by exact Args.au) (fun w2 hw2 => (diamondC_calls w2).mono fun e w3 ⟨b18, b9, b6, b3, h1, ⟨h2, h3, h4, h5⟩, h6⟩ => ?_) ?_
  · have h7 := (hw2.kp w (.head _)).size
    exact ⟨(b18, b9, b6, b3), h1, ⟨Nat.le_trans h7 h2, Nat.le_trans h7 h3, Nat.le_trans h7 h4, Nat.le_trans h7 h5⟩, h6.rebase (hw2.toExt (.head _) (fun k hk => NotOwned.nil))⟩
  rintro ⟨b18, b9, b6, b3⟩ ⟨h18, h9, h6, h3⟩
  simp only at h18 h9 h6 h3 ⊢
  apply OL.alloc; rfl; rfl; exact CellsL.agg; (intro bk hbk; simp only [AllLe, and_true] at hbk)
  apply OL.storeB; rfl; rfl; exact CellsL.agg; rfl; rfl; rfl; exact Swap.au; exact Put.au
  apply OL.nsr
  apply ofa; rfl; rfl; rfl
  apply old; rfl; rfl; exact .head _; rfl; rfl
  apply oop; rfl; apply Pev.build; rfl; exact CellsL.agg; rfl; exact Fill.au; rfl
  apply oop; rfl; apply Pev.build; rfl; exact CellsL.agg; rfl; exact Fill.au; rfl
  apply OL.buildSlice; rfl; rfl; rfl; exact Elems.au; rfl; rfl; (intro bk hbk; simp only [AllLe, and_true] at hbk)
  apply oop; rfl; apply Pev.build; rfl; exact CellsL.agg; rfl; exact Fill.au; rfl
  apply oop; rfl; apply Pev.idxB; rfl; exact yes; rfl; exact yes; rfl; intro hcond; omega; rfl
  apply ofa; rfl; rfl; rfl
  apply OL.storeB; rfl; rfl; exact CellsL.agg; rfl; rfl; rfl; exact Swap.au; exact Put.au
  apply OL.nsr
  apply ofa; rfl; rfl; rfl
  apply old; rfl; rfl; exact .tail _ (.head _); rfl; rfl
  apply oop; rfl; apply Pev.build; rfl; exact CellsL.agg; rfl; exact Fill.au; rfl
  apply oop; rfl; apply Pev.build; rfl; exact CellsL.agg; rfl; exact Fill.au; rfl
  apply OL.buildSlice; rfl; rfl; rfl; exact Elems.au; rfl; rfl; (intro bk hbk; simp only [AllLe, and_true] at hbk)
  rename_i b1 hb1 b11 hb11
  revert bk
  intro b19 hb19
  have h1 : w.heap.size ≤ b1 := by first | exact hb1 | exact hb1.1
  have h11 : w.heap.size ≤ b11 := by first | exact hb11 | exact hb11.1
  have h19 : w.heap.size ≤ b19 := by first | exact hb19 | exact hb19.1
  refine OL.cls (C' := Cls [row w.heap.size (fun k => k = b18) (some ⟨b18, 0, none⟩) 4 4 41 7 (diaB b9 b6 b3 [.int .i64 2, .int .i64 1, .int .i64 0, .slice none 0 0, .slice (some ⟨b11, 0, none⟩) 2 2]), blk b19 41 [.slice none 0 0, .slice none 0 0, .int .i64 0, .int .i64 1, .int .i64 0, .slice none 0 0, .slice none 0 0], blk b11 105 [.int .i64 3, .slice none 0 0, .int .i64 4, .slice none 0 0], blk b1 24 [.int .i64 (-1), .slice (some ⟨b18, 0, none⟩) 4 4], blk b9 105 [.int .i64 1, .slice none 0 0, .int .i64 2, .slice none 0 0], blk b6 85 [.int .i64 1, .int .i64 0, .int .i64 1, .slice none 0 0], blk b3 105 [.int .i64 3, .slice none 0 0]] [w]) (fun w' hw' => (hw'.perm (List.perm_middle (l₁ := [_, _, _]))).blk_row h18 rfl (by decide)) ?_
  apply OL.append; rfl; rfl; rfl; rfl; exact Hole.au; exact .tail _ (.head _); exact Take.au; rfl; rfl; exact ⟨_, .head _, Nat.le_refl _⟩; omega; intro O1 g1 cap1
  apply ofa; rfl; rfl; rfl
  apply OL.storeB; rfl; rfl; exact CellsL.one rfl; rfl; rfl; rfl; exact Swap.au; exact Put.au
  apply OL.nsr
  apply oop; rfl; apply Pev.load_blkA; rfl; exact yes; apply List.Mem.tail; exact .tail _ (.tail _ (.head _)); rfl; exact Take.au
  refine OL.frzD (C' := fun w1 => Cls [] [w1, w]) (fun w1 hc1 => (hc1.thin (.any (fun k hk => ⟨hk.1, trivial⟩) (.any (fun k hk => by rw [show k = b19 from hk]; exact ⟨h19, trivial⟩) (.any (fun k hk => by rw [show k = b11 from hk]; exact ⟨h11, trivial⟩) (.any (fun k hk => by rw [show k = b1 from hk]; exact ⟨h1, trivial⟩) (.any (fun k hk => by rw [show k = b9 from hk]; exact ⟨h9, trivial⟩) (.any (fun k hk => by rw [show k = b6 from hk]; exact ⟨h6, trivial⟩) (.any (fun k hk => by rw [show k = b3 from hk]; exact ⟨h3, trivial⟩) Thin.nil)))))))).note) (fun w1 hc1 => ?_)
  have hi1 := hc1.item (i := blk b1 24 [.int .i64 (-1), .slice (some ⟨g1, 0, none⟩) 5 cap1]) (by exact mau)
  have hb10 := blk_lt hi1
  have hcF : CellsAt w1 ⟨b1, 0, none⟩ [.int .i64 (-1), .slice (some ⟨g1, 0, none⟩) 5 cap1] := fun j v hj => by rw [add_mid, blk_cell hi1, Nat.zero_add]; exact hj
  have hA3 : ArrP edR w1 (low w1) [⟨3, []⟩] (some ⟨b3, 0, none⟩) := ⟨[(⟨3, []⟩, (none, 0))], rfl, arrBlk (e := 105) (hc1.item (by exact mau)) (fun p hp => by
    obtain rfl := List.mem_singleton.1 hp
    exact ⟨by simp [I64], by simp, nilS _ _, fun n hn => (by cases hn)⟩)⟩
  have hA9 : ArrP edR w1 (low w1) [⟨1, []⟩, ⟨2, []⟩] (some ⟨b9, 0, none⟩) := ⟨[(⟨1, []⟩, (none, 0)), (⟨2, []⟩, (none, 0))], rfl, arrBlk (e := 105) (hc1.item (by exact mau)) (fun p hp => by
    rcases List.mem_cons.1 hp with rfl | hp
    · exact ⟨by simp [I64], by simp, nilS _ _, fun n hn => (by cases hn)⟩
    · obtain rfl := List.mem_singleton.1 hp
      exact ⟨by simp [I64], by simp, nilS _ _, fun n hn => (by cases hn)⟩)⟩
  have hA11 : ArrP edR w1 (low w1) [⟨3, []⟩, ⟨4, []⟩] (some ⟨b11, 0, none⟩) := ⟨[(⟨3, []⟩, (none, 0)), (⟨4, []⟩, (none, 0))], rfl, arrBlk (e := 105) (hc1.item (by exact mau)) (fun p hp => by
    rcases List.mem_cons.1 hp with rfl | hp
    · exact ⟨by simp [I64], by simp, nilS _ _, fun n hn => (by cases hn)⟩
    · obtain rfl := List.mem_singleton.1 hp
      exact ⟨by simp [I64], by simp, nilS _ _, fun n hn => (by cases hn)⟩)⟩
  have hA6 : ArrP inR w1 (low w1) [⟨1, 0, 1, []⟩] (some ⟨b6, 0, none⟩) := ⟨[(⟨1, 0, 1, []⟩, (none, 0))], rfl, arrBlk (e := 85) (hc1.item (by exact mau)) (fun p hp => by
    obtain rfl := List.mem_singleton.1 hp
    exact ⟨by simp [I64], by simp [I64], by simp [I64], by simp, by simp, nilS _ _, fun n hn => (by cases hn)⟩)⟩
  have hj : BkOk w1 (low w1) ⟨[], [], ⟨1, 0, 0, [], [⟨3, []⟩]⟩⟩ ⟨(none, 0), (none, 0), ⟨(none, 0), (some ⟨b3, 0, none⟩, 1)⟩⟩ :=
    ⟨by simp, by simp, by simp, by simp, nilS _ _, fun n hn => (by cases hn), ArrP.nil, ⟨by simp [I64], by simp [I64], by simp [I64], by simp, by simp, by simp, by simp, nilS _ _, fun n hn => (by cases hn), hA3⟩⟩
  have hfn : FnOk w1 (low w1) dia2 ⟨some ⟨g1, 0, none⟩, cap1⟩ := by
    have hcp := row_cap (hc1.item (.head _))
    refine ⟨by simp [dia2, I64], by simp [dia2], by simp [dia2]; omega, ⟨[(⟨[], [⟨1, 0, 1, []⟩], ⟨2, 1, 0, [], [⟨1, []⟩, ⟨2, []⟩]⟩⟩, ⟨(none, 0), (some ⟨b6, 0, none⟩, 1), ⟨(none, 0), (some ⟨b9, 0, none⟩, 2)⟩⟩), (⟨[], [], ⟨1, 0, 0, [], [⟨3, []⟩]⟩⟩, ⟨(none, 0), (none, 0), ⟨(none, 0), (some ⟨b3, 0, none⟩, 1)⟩⟩), (⟨[], [], ⟨1, 0, 0, [], [⟨3, []⟩]⟩⟩, ⟨(none, 0), (none, 0), ⟨(none, 0), (some ⟨b3, 0, none⟩, 1)⟩⟩), (⟨[], [], ⟨2, 1, 0, [], [⟨3, []⟩, ⟨4, []⟩]⟩⟩, ⟨(none, 0), (none, 0), ⟨(none, 0), (some ⟨b11, 0, none⟩, 2)⟩⟩), (⟨[], [], ⟨0, 1, 0, [], []⟩⟩, ⟨(none, 0), (none, 0), ⟨(none, 0), (none, 0)⟩⟩)], rfl, rowArrL (e := 41) hc1 (.head _) (fun p hp => ?_)⟩⟩
    rcases List.mem_cons.1 hp with rfl | hp
    · exact ⟨by simp, by simp, by simp, by simp, nilS _ _, fun n hn => (by cases hn), hA6, ⟨by simp [I64], by simp [I64], by simp [I64], by simp, by simp, by simp, by simp, nilS _ _, fun n hn => (by cases hn), hA9⟩⟩
    rcases List.mem_cons.1 hp with rfl | hp
    · exact hj
    rcases List.mem_cons.1 hp with rfl | hp
    · exact hj
    rcases List.mem_cons.1 hp with rfl | hp
    · exact ⟨by simp, by simp, by simp, by simp, nilS _ _, fun n hn => (by cases hn), ArrP.nil, ⟨by simp [I64], by simp [I64], by simp [I64], by simp, by simp, by simp, by simp, nilS _ _, fun n hn => (by cases hn), hA11⟩⟩
    obtain rfl := List.mem_singleton.1 hp
    exact ⟨by simp, by simp, by simp, by simp, nilS _ _, fun n hn => (by cases hn), ArrP.nil, ⟨by simp [I64], by simp [I64], by simp [I64], by simp, by simp, by simp, by simp, nilS _ _, fun n hn => (by cases hn), ArrP.nil⟩⟩
  have hFt : ∀ (S : List World) (w2 : World), Cls [] S w2 → w1 ∈ S → FnOk w2 (low w2) dia2 ⟨some ⟨g1, 0, none⟩, cap1⟩ := fun S w2 hw2 hs => fnR.mono (hw2.up hs) (fnR.stab (hw2.same hs (fun k hk => NotOwned.nil)) hfn)
  have hFi := fun w2 (S : List World) hw2 hs => Find_calls dia2 ⟨some ⟨g1, 0, none⟩, cap1⟩ w2 (hFt S w2 hw2 hs)
  have hRd := fun w2 (S : List World) hw2 hs => hRed ⟨some ⟨g1, 0, none⟩, cap1⟩ w2 (hFt S w2 hw2 hs)
  simp only [dia2_ok, show graphB dia2.blocks = dia2G from rfl, dia2_lps, show (fnC dia2 ⟨some ⟨g1, 0, none⟩, cap1⟩) = [.int .i64 (-1), .slice (some ⟨g1, 0, none⟩) 5 cap1] from rfl] at hFi hRd
  refine OL.callE (α := ((Option Addr × Nat) × Sc) × World) (fun z => .tuple #[.slice z.1.1.1 1 z.1.1.2, .int .i64 0]) (fun z => w1.heap.size ≤ z.2.heap.size ∧ SlAt z.2 z.2.heap.size z.1.1.1 [.int .i64 3, .slice z.1.2.1 1 z.1.2.2, .int .i64 (-1)] ∧ IntsO z.2 (low z.2) [3] z.1.2.1) (fun z => Cls [] [z.2, w1, w]) rfl rfl (by exact Args.au) (fun w2 hw2 => (hFi w2 _ hw2 (by exact mau)).mono fun e w3 ⟨h2, h3⟩ => ?_) ?_
  · rcases h3 with ⟨h3, _⟩ | ⟨_, P, q', c', h4, h5, h6, h7⟩
    · exact absurd rfl h3
    · match P, h4, h5, h6, h7 with
      | [], _, h5, _, _ => cases h5
      | [(a, m, s)], h4, h5, h6, h7 =>
        have h8 : (a, m) = (3, [3]) := (List.cons.inj h5).1
        obtain ⟨rfl, rfl⟩ := Prod.mk.inj h8
        exact ⟨(((q', c'), s), w3), h4, ⟨((hw2.ext h2).kp w1 (by exact mau)).size, h6, h7 _ (.head _)⟩, (hw2.ext h2).note⟩
      | _ :: _ :: _, _, h5, _, _ => exact absurd (congrArg List.length h5) (by simp [lpL])
  rintro ⟨⟨⟨ql, cl⟩, ⟨qm, cm⟩⟩, wF⟩ ⟨hw1F, hSl, hI⟩
  simp only at hw1F hSl hI ⊢
  obtain ⟨al, rfl, halb, halc⟩ := hSl (by simp)
  apply omv; rfl; rfl
  apply oex; rfl; rfl; rfl
  apply oex; rfl; rfl; rfl
  apply oas; rfl; rfl
  apply oas; rfl; rfl
  apply OL.nsr
  apply oop; rfl; apply Pev.load_keptA; rfl; exact yes; exact .tail _ (.head _); rfl; intro hcond; assumption; rfl; intro hcond; assumption; intro hcond; exact NotOwned.au
  (((first | (with_reducible apply OL.op) | (with_reducible apply QL.op)); (exact Guard.au); rfl; rfl); (exact Pev.call (v := .tuple #[.bool true, .int .i64 0]) rfl (by exact Args.au) (fun _ w2 hw2 => (hRd w2 _ hw2 (by exact mau)).mono fun e w3 h => ⟨h.1, hw2.ext h.2⟩)))
  apply omv; rfl; rfl
  apply oex; rfl; rfl; rfl
  apply oex; rfl; rfl; rfl
  apply oas; rfl; rfl
  apply oas; rfl; rfl
  apply OL.nsr
  apply omv; rfl; rfl
  apply obn; rfl; rfl; rfl; apply Bin.eql
  apply omv; rfl; rfl
  apply oy; rfl; rfl; rfl; apply Pev.move; rfl; exact yes
  apply oy; rfl; rfl; rfl; apply Pev.len_slice; rfl; exact yes; rfl
  apply oy; rfl; rfl; rfl; apply Pev.bin; rfl; exact yes; rfl; exact yes; intro hcond; apply Bin.eql
  apply oop; rfl; apply Pev.pick_and; rfl; exact yes; rfl; exact yes
  apply omv; rfl; rfl
  apply oy; rfl; rfl; rfl; apply Pev.move; rfl; exact yes
  apply oy; rfl; rfl; rfl; apply Pev.idx; rfl; exact yes; rfl; exact yes; rfl; rfl; intro hcond; (simp only [Bool.and_eq_true, Bool.or_eq_true, Bool.not_eq_true', decide_eq_true_eq, decide_eq_false_iff_not] at *; omega)
  apply oy; rfl; rfl; rfl; apply Pev.fldA; rfl; exact yes; rfl
  apply oy; rfl; rfl; rfl; apply Pev.load_kept; rfl; exact yes; exact .head _; rfl; intro hcond; apply CellsAt.at_ (by assumption) rfl; intro hcond; assumption; intro hcond; exact NotOwned.au
  apply oy; rfl; rfl; rfl; apply Pev.bin; rfl; exact yes; rfl; exact yes; intro hcond; apply Bin.eql
  apply oop; rfl; apply Pev.pick_and; rfl; exact yes; rfl; exact yes
  apply omv; rfl; rfl
  apply oy; rfl; rfl; rfl; apply Pev.move; rfl; exact yes
  apply oy; rfl; rfl; rfl; apply Pev.idx; rfl; exact yes; rfl; exact yes; rfl; rfl; intro hcond; (simp only [Bool.and_eq_true, Bool.or_eq_true, Bool.not_eq_true', decide_eq_true_eq, decide_eq_false_iff_not] at *; omega)
  apply oy; rfl; rfl; rfl; apply Pev.fldA; rfl; exact yes; rfl
  apply oy; rfl; rfl; rfl; apply Pev.load_kept; rfl; exact yes; exact .head _; rfl; intro hcond; apply CellsAt.at_ (by assumption) rfl; intro hcond; assumption; intro hcond; exact NotOwned.au
  apply oy; rfl; rfl; rfl; apply Pev.bin; rfl; exact yes; rfl; exact yes; intro hcond; apply Bin.eql
  apply oop; rfl; apply Pev.pick_and; rfl; exact yes; rfl; exact yes
  apply omv; rfl; rfl
  apply oy; rfl; rfl; rfl; apply Pev.move; rfl; exact yes
  apply oy; rfl; rfl; rfl; apply Pev.idx; rfl; exact yes; rfl; exact yes; rfl; rfl; intro hcond; (simp only [Bool.and_eq_true, Bool.or_eq_true, Bool.not_eq_true', decide_eq_true_eq, decide_eq_false_iff_not] at *; omega)
  apply oy; rfl; rfl; rfl; apply Pev.fldA; rfl; exact yes; rfl
  apply oy; rfl; rfl; rfl; apply Pev.load_kept; rfl; exact yes; exact .head _; rfl; intro hcond; apply CellsAt.at_ (by assumption) rfl; intro hcond; assumption; intro hcond; exact NotOwned.au
  ((apply OL.ungate); (exact Guard.au); (decide))
  apply OL.buildSlice; rfl; rfl; rfl; exact Elems.au; rfl; rfl; (intro bk hbk; simp only [AllLe, and_true] at hbk)
  revert bk
  intro b58 hb58
  have hF58 : wF.heap.size ≤ b58 := hb58.1
  have h58 : w.heap.size ≤ b58 := by first | exact hb58.2.2 | exact hb58.2.2.1
  (((first | (with_reducible apply OL.op) | (with_reducible apply QL.op)); (exact Guard.au); rfl; rfl); (exact Pev.call (v := .bool true) rfl (by exact Args.au) (fun _ w5 hw5 => (SameInts_calls qm (some ⟨b58, 0, none⟩) cm 1 [3] [3] w5 (by simp) (by simp) (hI.at hw5 (by exact mau) (fun k hk => NotOwned.blk (by omega) NotOwned.nil)) (blkInts (hw5.item (.head _)))).mono (fun e w6 h => ⟨by rw [h.1]; rfl, hw5.ext h.2⟩))))
  apply oop; rfl; apply Pev.pick_and; rfl; exact yes; rfl; exact yes
  apply omv; rfl; rfl
  apply oy; rfl; rfl; rfl; apply Pev.move; rfl; exact yes
  apply oy; rfl; rfl; rfl; apply Pev.bin; rfl; exact yes; rfl; exact yes; intro hcond; apply Bin.eql
  apply oop; rfl; apply Pev.pick_and; rfl; exact yes; rfl; exact yes
  apply omv; rfl; rfl
  apply oy; rfl; rfl; rfl; apply Pev.move; rfl; exact yes
  apply oop; rfl; apply Pev.pick_and; rfl; exact yes; rfl; exact yes
  apply oas; rfl; rfl
  apply OL.nx
  apply W.ret
  ((with_reducible apply At.fin1); rfl; rfl; intro w' hw')
  exact ⟨rfl, hw'.toExt (by exact mau) (fun k hk => NotOwned.blk (by omega) NotOwned.nil)⟩
end Go.Proofs.Ytehelljmaiophaa.ss

/- The walks of slices.Contains at loops' edges. Conditions: none. -/
namespace Go.Ss
set_option linter.unusedVariables false
set_option linter.unusedSimpArgs false
open Go.Eng Go.RowKit
set_option linter.unusedVariables false
set_option linter.unusedSimpArgs false
def idxE (p : Nat × Nat) : List (Nat × Nat) → Nat → Int
  | [], _ => -1
  | e :: r, i => if p = e then (i : Int) else idxE p r (i + 1)
theorem idxE_drop {p : Nat × Nat} {l : List (Nat × Nat)} {i k : Nat} {e : Nat × Nat} (h : l[i]? = some e) : idxE p (l.drop i) k = if p = e then (k : Int) else idxE p (l.drop (i + 1)) (k + 1) := by
  obtain ⟨h1, rfl⟩ := List.getElem?_eq_some_iff.1 h
  rw [List.drop_eq_getElem_cons h1, idxE]
theorem idxE_mem (p : Nat × Nat) : ∀ (l : List (Nat × Nat)) (i : Nat), decide (0 ≤ idxE p l i) = decide (p ∈ l)
  | [], i => by simp [idxE]
  | e :: r, i => by
    rw [idxE]
    split
    · next h => subst h; simp
    · next h =>
      rw [idxE_mem p r (i + 1)]
      simp [h]
def incS (m : List Int) (x : Nat) : List Int := m.set x (m.getD x 0 + 1)
def decS (s : List Int × List Int) (x : Nat) : List Int × List Int := (s.1.set x (s.1.getD x 0 - 1), if s.1.getD x 0 - 1 = 0 then s.2 ++ [(x : Int)] else s.2)
def fwD (k : Nat) (l : List Int) : List Nat := l.filterMap fun x => if k = 3 ∧ x = 3 then none else some x.toNat
def fwL (k : Nat) : List Nat := fwD k (dia2G.getD k [])
def okC (r : List Nat) (m : List Int) : Prop := m.length = 5 ∧ ∀ v ∈ m, -1000 + (r.length : Int) ≤ v ∧ v + (r.length : Int) ≤ 1000
theorem okC.get {r : List Nat} {m : List Int} (h : okC r m) {x : Nat} (hx : x < 5) : -1000 + (r.length : Int) ≤ m.getD x 0 ∧ m.getD x 0 + (r.length : Int) ≤ 1000 := by
  have hl := h.1
  rw [List.getD_eq_getElem?_getD, List.getElem?_eq_getElem (by omega)]
  exact h.2 _ (List.getElem_mem _)
theorem okC.set {x : Nat} {r : List Nat} {m : List Int} (h : okC (x :: r) m) (hx : x < 5) {d : Int} (hd : -1 ≤ d ∧ d ≤ 1) : okC r (m.set x (m.getD x 0 + d)) := by
  refine ⟨by rw [List.length_set]; exact h.1, fun v hv => ?_⟩
  have h1 := h.get hx
  rw [List.length_cons] at h1
  rcases List.mem_or_eq_of_mem_set hv with hv | rfl
  · have := h.2 v hv
    rw [List.length_cons] at this
    omega
  · omega
def pInc (T : List Int) (r : List Nat) (m : List Int) : Prop := okC r m ∧ r.foldl incS m = T ∧ ∀ x ∈ r, x < 5
theorem pInc.step {T : List Int} {x : Nat} {r : List Nat} {m : List Int} (h : pInc T (x :: r) m) : pInc T r (incS m x) :=
  ⟨h.1.set (h.2.2 x (.head _)) (by omega), h.2.1, fun y hy => h.2.2 y (.tail _ hy)⟩
def pDec (T : List Int × List Int) (r : List Nat) (s : List Int × List Int) : Prop := okC r s.1 ∧ r.foldl decS s = T ∧ s.2.length + r.length ≤ 1000
theorem pDec.step {T : List Int × List Int} {x : Nat} {r : List Nat} {s : List Int × List Int} (h : pDec T (x :: r) s) (hx : x < 5) : pDec T r (decS s x) := by
  refine ⟨by unfold decS; rw [Int.sub_eq_add_neg]; exact h.1.set hx (by omega), h.2.1, ?_⟩
  have := h.2.2
  rw [List.length_cons] at this
  unfold decS
  simp only
  split
  · rw [List.length_append, List.length_singleton]; omega
  · omega
def stT : Nat → List Int × List Int
  | 0 => ([0, 1, 1, 2, 1], [0])
  | 1 => ([0, 0, 0, 2, 1], [1, 2])
  | 2 => ([0, 0, 0, 1, 1], [1])
  | 3 => ([0, 0, 0, 0, 1], [3])
  | 4 => ([0, 0, 0, 0, 0], [4])
  | _ => ([0, 0, 0, 0, 0], [])
def knT : Nat → Nat
  | 0 => 0 | 1 => 2 | 2 => 1 | 3 => 3 | _ => 4
def l5 : List Nat := [0, 1, 2, 3, 4]
theorem l5_start : pInc [0, 1, 1, 2, 1] (l5.flatMap fwL) [0, 0, 0, 0, 0] := by
  have h : l5.flatMap fwL = [1, 2, 3, 3, 4] := by unfold fwL; rw [dia2G_eq]; decide
  rw [h]
  exact ⟨⟨rfl, by decide⟩, by decide, by decide⟩
theorem stT_last : ∀ n, n < 5 → (stT n).2 = (stT n).2.dropLast ++ [(knT n : Int)] ∧ knT n < 5 ∧ (stT n).2.dropLast.length ≤ 5 := by decide
theorem stT_step : ∀ n, n < 5 → pDec (stT (n + 1)) (fwL (knT n)) ((stT n).1, (stT n).2.dropLast) := by
  intro n hn
  have h : n = 0 ∨ n = 1 ∨ n = 2 ∨ n = 3 ∨ n = 4 := by omega
  unfold fwL
  rw [dia2G_eq]
  rcases h with rfl | rfl | rfl | rfl | rfl <;> exact ⟨⟨rfl, by decide⟩, by decide, by decide⟩
theorem dia2_rl : rl dia2G = [0, 1, 2, 3, 4] := by
  have h0 : 0 < dia2G.length := by rw [dia2_len]; omega
  refine sorted_eq (rl_sorted dia2G_ok h0) (by simp) fun v => ?_
  rw [rl_mem dia2G_ok h0]
  have h4 : Rc dia2G (-1) 4 := .step (dia2_3 (by omega) (by omega)) (dia2_edge.2 (by omega)) (by omega) (by rw [dia2_len]; omega)
  constructor
  · rintro ⟨k, rfl, hk⟩
    have := hk.lt
    rw [dia2_len] at this
    have : k = 0 ∨ k = 1 ∨ k = 2 ∨ k = 3 ∨ k = 4 := by omega
    rcases this with rfl | rfl | rfl | rfl | rfl <;> simp
  · intro hv
    have : v = 0 ∨ v = 1 ∨ v = 2 ∨ v = 3 ∨ v = 4 := by simpa using hv
    rcases this with rfl | rfl | rfl | rfl | rfl
    · exact ⟨0, rfl, dia2_0 (by omega)⟩
    · exact ⟨1, rfl, dia2_1 (by omega) (by omega)⟩
    · exact ⟨2, rfl, dia2_2 (by omega) (by omega)⟩
    · exact ⟨3, rfl, dia2_3 (by omega) (by omega)⟩
    · exact ⟨4, rfl, h4⟩
theorem ints_getD {m : List Int} {x n : Nat} (hm : m.length = n) (hx : x < n) : (ints m)[x]? = some (.int .i64 (m.getD x 0)) := ints_get (by rw [List.getD_eq_getElem?_getD, List.getElem?_eq_getElem (by omega)]; rfl)
end Go.Ss
namespace Go.Proofs.Ytehelljmaiophaa.ss
set_option linter.unusedVariables false
set_option linter.unusedSimpArgs false
set_option maxRecDepth 100000
open Go.Eng Go.RowKit Go.Ss
set_option linter.unusedVariables false
set_option linter.unusedSimpArgs false
theorem be_eql (a b c d : Nat) : Bin Try.prog .eql 146 (.agg #[.int .i64 (a : Int), .int .i64 (b : Int)]) (.agg #[.int .i64 (c : Int), .int .i64 (d : Int)]) (.bool (decide ((a, b) = (c, d)))) := ⟨fun x y w => by
  have h1 := run_eqGuard_agg (P := Try.prog) w .eql 146 x y #[.int .i64 (a : Int), .int .i64 (b : Int)] #[.int .i64 (c : Int), .int .i64 (d : Int)] (by kernel_rfl)
  rw [Sem.run_bind, h1, Result.andThen_ok, run_eql_struct, run_equalIn_agg w 9999 146 _ _ (by kernel_rfl) (by kernel_rfl)]
  have hf : Try.prog.fieldsOf 146 = (match Try.prog.underlying 146 with | some (.struct fs) => fs | _ => #[]) := rfl
  rw [hf, Try.underlying146]
  simp only [Op.eqFields]
  have p1 : ∀ (w : World) (i : Nat) (v : Value) (cs : Array Value) (t : TypeId), cs[i]? = some v → scalB Try.prog t = true → (part t cs i).run Try.prog w = .ok v w := fun w i v cs t hv ht => by
    simp [part, Sem.run_bind, run_isAgg_scal ht, hv]
  have q0 := fun w => p1 w 0 (.int .i64 (a : Int)) #[.int .i64 (a : Int), .int .i64 (b : Int)] 3 rfl rfl
  have q1 := fun w => p1 w 1 (.int .i64 (b : Int)) #[.int .i64 (a : Int), .int .i64 (b : Int)] 3 rfl rfl
  have r0 := fun w => p1 w 0 (.int .i64 (c : Int)) #[.int .i64 (c : Int), .int .i64 (d : Int)] 3 rfl rfl
  have r1 := fun w => p1 w 1 (.int .i64 (d : Int)) #[.int .i64 (c : Int), .int .i64 (d : Int)] 3 rfl rfl
  have e1 := fun w y z => run_equalIn_int (P := Try.prog) w 9998 3 .i64 .i64 y z Try.underlying3
  by_cases h2 : a = c
  · subst h2
    by_cases h3 : b = d
    · subst h3
      simp [Sem.run_bind, q0, q1, r0, r1, e1]
    · have h4 : ¬ (b : Int) = d := by omega
      simp [Sem.run_bind, q0, q1, r0, r1, e1, h3, h4]
  · have h4 : ¬ (a : Int) = c := by omega
    simp [Sem.run_bind, q0, q1, r0, r1, e1, h2, h4]⟩
theorem EIndex_calls (q : Option Addr) (cap : Nat) (l : List (Nat × Nat)) (p : Nat × Nat) (w : World) (hlen : l.length ≤ 1000000) (h : Arr beR w (low w) (l.map fun p => (p, ())) q) :
    Calls Try.prog 161 [.slice q l.length cap, .agg #[.int .i64 (p.1 : Int), .int .i64 (p.2 : Int)]].toArray w fun e w' => e = .returned (.int .i64 (idxE p l 0)) ∧ Ext w w' := by
  refine enter Try.func161 rfl Try.ntmps161 rfl (Cls.start w) ?_
  (simp only [argEnv, Nat.zero_add, Nat.reduceAdd])
  apply W.sr
  apply OL.box; rfl; rfl; exact CellsL.agg; (intro bk hbk; simp only [AllLe, and_true] at hbk)
  apply oas; rfl; rfl
  apply OL.nx
  apply W.seq
  apply W.sr
  apply omv; rfl; rfl
  apply oop; rfl; apply Pev.len_slice; rfl; exact yes; rfl
  apply omv; rfl; rfl
  apply OL.nx
  apply W.block
  revert bk
  intro b3 hb3x
  have hb3 : w.heap.size ≤ b3 := by first | exact hb3x | exact hb3x.1
  refine W.loop (G := Nat) (fun i => i ≤ l.length ∧ idxE p (l.drop i) i = idxE p l 0) (fun i => l.length - i)
    (fun i => [(0, true, .slice q l.length cap), (3, true, .pointer (some ⟨b3, 0, none⟩)), (7, true, .int .i64 (l.length : Int)), (8, true, .int .i64 (i : Int))])
    (fun i => Cls [blk b3 146 [.int .i64 (p.1 : Int), .int .i64 (p.2 : Int)]] [w]) 0 ⟨by omega, rfl⟩ (by exact Sub.au) (fun w' hw' => hw') ?_
  rintro i ⟨hi, hrest⟩
  apply W.sr
  apply obn; rfl; rfl; rfl; apply Bin.lss
  apply OL.nx
  apply W.seq
  (refine W.cnd (fun hlt => ?_) (fun hlt => ?_)) <;> (try (exfalso; first | omega | exact hlt trivial | contradiction))
  · have hil : i < l.length := by omega
    obtain ⟨a, u, hqa, hab, hu, hcell, _⟩ := h.get (show i < (l.map fun p => (p, ())).length by rw [List.length_map]; exact hil)
    have hab : a.block < w.heap.size := hab
    obtain ⟨e, heu, rfl⟩ : ∃ e, l[i]? = some e ∧ (e, ()) = u := by
      rw [List.getElem?_map] at hu
      cases h1 : l[i]? with
      | none => rw [h1] at hu; cases hu
      | some p => rw [h1] at hu; exact ⟨p, rfl, Option.some.inj hu⟩
    have hcell : CellsAt w (a.add (i * 2)) [.int .i64 (e.1 : Int), .int .i64 (e.2 : Int)] := hcell
    rw [idxE_drop heu] at hrest
    rw [hqa]
    apply W.sk
    apply W.sb
    apply W.sr
    apply omv; rfl; rfl
    apply oas; rfl; rfl
    apply OL.nx
    apply W.seq
    apply W.regd0; decide +kernel; kernel_rfl; decide +kernel; exact fun w hw => hw.drew
    apply qop; rfl; apply Pev.load_blkA; rfl; exact yes; exact .head _; rfl; exact Take.au
    apply qmv; rfl; rfl
    apply qmv; rfl; rfl
    apply qop; rfl; apply Pev.idx; rfl; exact yes; rfl; exact yes; rfl; rfl; intro hcond; omega
    apply qop; rfl; apply Pev.load_keptA; rfl; exact yes; exact .head _; rfl; intro hcond; assumption; rfl; intro hcond; (rw [add_block]; assumption); intro hcond; exact NotOwned.au
    (((first | (with_reducible apply OL.op) | (with_reducible apply QL.op)); (exact Guard.au); rfl; rfl); (refine Pev.bin (r := .bool (decide (p = e))) rfl (by (first | exact fun _ => rfl | exact fun h => h | (intro h; simp_all; done))) rfl (by (first | exact fun _ => rfl | exact fun h => h | (intro h; simp_all; done))) (fun _ => be_eql p.1 p.2 e.1 e.2)))
    apply QL.nil
    with_reducible apply At.next
    refine W.cond rfl (fun h3 => ?_) (fun h3 => ?_)
    · rw [if_pos (of_decide_eq_true h3)] at hrest
      apply W.sr
      apply omv; rfl; rfl
      apply oas; rfl; rfl
      apply OL.nx
      refine W.rt ?_
      ((with_reducible apply At.fin1); rfl; rfl; intro w' hw')
      exact ⟨by rw [hrest], hw'.toExt (by exact mau) (fun k hk => NotOwned.blk (by omega) NotOwned.nil)⟩
    · rw [if_neg (of_decide_eq_false h3)] at hrest
      apply W.skip
      with_reducible apply At.in_normal
      with_reducible apply At.next
      apply W.reg
      apply obn; rfl; rfl; rfl; apply Bin.add_in; omega
      apply omv; rfl; rfl
      apply OL.nil
      exact At.again (i + 1) ⟨by omega, hrest⟩ (by omega) (by exact Sub.au) (fun w' hw' => hw')
  · rw [List.drop_eq_nil_of_le (by omega), idxE] at hrest
    refine W.xt ?_
    with_reducible apply At.next
    apply W.sr
    apply oas; rfl; rfl
    apply OL.nx
    apply W.ret
    ((with_reducible apply At.fin1); rfl; rfl; intro w' hw')
    exact ⟨by rw [← hrest], hw'.toExt (by exact mau) (fun k hk => NotOwned.blk (by omega) NotOwned.nil)⟩
theorem EContains_calls (q : Option Addr) (cap : Nat) (l : List (Nat × Nat)) (p : Nat × Nat) (w : World) (hlen : l.length ≤ 1000000) (h : Arr beR w (low w) (l.map fun p => (p, ())) q) :
    Calls Try.prog 130 [.slice q l.length cap, .agg #[.int .i64 (p.1 : Int), .int .i64 (p.2 : Int)]].toArray w fun e w' => e = .returned (.bool (decide (p ∈ l))) ∧ Ext w w' := by
  refine enter Try.func130 rfl Try.ntmps130 rfl (Cls.start w) ?_
  (simp only [argEnv, Nat.zero_add, Nat.reduceAdd])
  apply W.sr
  apply OL.box; rfl; rfl; exact CellsL.agg; (intro bk hbk; simp only [AllLe, and_true] at hbk)
  apply oas; rfl; rfl
  apply OL.nsr
  apply omv; rfl; rfl
  apply oop; rfl; apply Pev.load_blkA; rfl; exact yes; exact .head _; rfl; exact Take.au
  revert bk
  intro b3 hb3x
  have hb3 : w.heap.size ≤ b3 := by first | exact hb3x | exact hb3x.1
  (((first | (with_reducible apply OL.op) | (with_reducible apply QL.op)); (exact Guard.au); rfl; rfl); (exact Pev.call (v := .int .i64 (idxE p l 0)) rfl (by exact Args.au) (fun _ w2 hw2 => (EIndex_calls q cap l p w2 hlen (h.at hw2 (by exact mau) (fun k hk => NotOwned.blk (by omega) NotOwned.nil))).mono (fun e w3 h => ⟨h.1, hw2.ext h.2⟩))))
  apply obn; rfl; rfl; rfl; apply Bin.geq
  apply oas; rfl; rfl
  apply OL.nx
  apply W.ret
  ((with_reducible apply At.fin1); rfl; rfl; intro w' hw')
  exact ⟨by rw [← idxE_mem p l 0], hw'.toExt (by exact mau) (fun k hk => NotOwned.blk (by omega) NotOwned.nil)⟩
theorem RInc_calls (SS : List World) (X : Eng.Item) (bA bM x : Nat) (m : List Int) (w : World) (hml : m.length = 5) (hx : x < 5) (hb : -1000 ≤ m.getD x 0 ∧ m.getD x 0 ≤ 1000) (hc : Cls [X, blk bA 35 [.slice (some ⟨bM, 0, none⟩) 5 5], blk bM 3 (ints m)] SS w) :
    Calls Try.prog 131 [.int .i64 (x : Int), .pointer (some ⟨bA, 0, none⟩)].toArray w fun e w' => e = .returned (.tuple #[]) ∧ Cls [X, blk bA 35 [.slice (some ⟨bM, 0, none⟩) 5 5], blk bM 3 (ints (incS m x))] SS w' := by
  refine enter Try.func131 rfl Try.ntmps131 rfl hc ?_
  (simp only [argEnv, Nat.zero_add, Nat.reduceAdd])
  have hmx : (ints m)[0 + (x : Int).toNat * 1]? = some (.int .i64 (m.getD x 0)) := by
    rw [show 0 + (x : Int).toNat * 1 = x by omega]
    exact ints_getD hml hx
  apply W.reg
  apply old; rfl; rfl; exact .tail _ (.head _); rfl; rfl
  apply omv; rfl; rfl
  apply oop; rfl; apply Pev.idxB; rfl; exact yes; rfl; exact yes; rfl; intro hcond; omega; rfl
  apply oop; rfl; apply Pev.load_blk; rfl; exact yes; exact .tail _ (.tail _ (.head _)); rfl; assumption
  apply obn; rfl; rfl; rfl; apply Bin.add_in; omega
  apply oop; rfl; apply Pev.idxB; rfl; exact yes; rfl; exact yes; rfl; intro hcond; omega; rfl
  (apply OL.storeI); rfl; rfl; rfl; rfl; rfl; (exact Swap.au); (rw [ints_length]; omega)
  rw [show 0 + (x : Int).toNat * 1 = x by omega, ints_setE]
  apply OL.nil
  exact At.end_ (At.fin0 rfl (fun w' hw' => ⟨rfl, hw'⟩))
theorem RDec_calls (SS : List World) (X : Eng.Item) (bA bM bW B c x : Nat) (O : Nat → Prop) (q : Option Addr) (m l : List Int) (w : World) (hml : m.length = 5) (hx : x < 5) (hb : -1000 ≤ m.getD x 0 ∧ m.getD x 0 ≤ 1000) (hl : l.length ≤ 1000) (hbs : ∃ s ∈ SS, B ≤ s.heap.size) (hc : Cls [X, blk bW 35 [.slice q l.length c], row B O q l.length c 3 1 (ints l), blk bA 35 [.slice (some ⟨bM, 0, none⟩) 5 5], blk bM 3 (ints m)] SS w) :
    Calls Try.prog 132 [.int .i64 (x : Int), .pointer (some ⟨bA, 0, none⟩), .pointer (some ⟨bW, 0, none⟩)].toArray w fun e w' => ∃ O' q' c', e = .returned (.tuple #[]) ∧ Cls [X, blk bW 35 [.slice q' (decS (m, l) x).2.length c'], row B O' q' (decS (m, l) x).2.length c' 3 1 (ints (decS (m, l) x).2), blk bA 35 [.slice (some ⟨bM, 0, none⟩) 5 5], blk bM 3 (ints (decS (m, l) x).1)] SS w' := by
  refine enter Try.func132 rfl Try.ntmps132 rfl hc ?_
  (simp only [argEnv, Nat.zero_add, Nat.reduceAdd])
  have hmx : (ints m)[0 + (x : Int).toNat * 1]? = some (.int .i64 (m.getD x 0)) := by
    rw [show 0 + (x : Int).toNat * 1 = x by omega]
    exact ints_getD hml hx
  obtain ⟨v, hv⟩ : ∃ v, m.getD x 0 = v := ⟨_, rfl⟩
  unfold decS
  simp only [hv] at hmx hb ⊢
  apply W.sr
  apply old; rfl; rfl; apply List.Mem.tail; exact .tail _ (.tail _ (.head _)); rfl; rfl
  apply omv; rfl; rfl
  apply oop; rfl; apply Pev.idxB; rfl; exact yes; rfl; exact yes; rfl; intro hcond; omega; rfl
  apply oop; rfl; apply Pev.load_blk; rfl; exact yes; apply List.Mem.tail; apply List.Mem.tail; exact .tail _ (.tail _ (.head _)); rfl; assumption
  apply obn; rfl; rfl; rfl; apply Bin.sub_in; omega
  apply oop; rfl; apply Pev.idxB; rfl; exact yes; rfl; exact yes; rfl; intro hcond; omega; rfl
  (apply OL.storeI); rfl; rfl; rfl; rfl; rfl; (exact Swap.au); (rw [ints_length]; omega)
  rw [show 0 + (x : Int).toNat * 1 = x by omega, ints_setE]
  have hmx2 : (ints (m.set x (v - 1)))[0 + (x : Int).toNat * 1]? = some (.int .i64 (v - 1)) := by
    rw [show 0 + (x : Int).toNat * 1 = x by omega]
    refine ints_get ?_
    rw [List.getElem?_set_self (by omega)]
  apply OL.nsr
  apply old; rfl; rfl; apply List.Mem.tail; exact .tail _ (.tail _ (.head _)); rfl; rfl
  apply omv; rfl; rfl
  apply oop; rfl; apply Pev.idxB; rfl; exact yes; rfl; exact yes; rfl; intro hcond; omega; rfl
  apply oop; rfl; apply Pev.load_blk; rfl; exact yes; apply List.Mem.tail; apply List.Mem.tail; exact .tail _ (.tail _ (.head _)); rfl; assumption
  apply obn; rfl; rfl; rfl; apply Bin.eql
  apply OL.nx
  by_cases h0 : v - 1 = 0
  · refine W.cond rfl (fun _ => ?_) (fun h => by simp at h; exact absurd h0 h)
    rw [if_pos h0]
    apply W.reg
    apply old; rfl; rfl; exact .tail _ (.head _); rfl; rfl
    apply omv; rfl; rfl
    apply OL.buildSlice; rfl; rfl; rfl; exact Elems.au; rfl; rfl; intro bk hbk
    apply OL.append; rfl; rfl; rfl; rfl; exact Hole.au; exact .head _; exact Take.au; rfl; rfl; assumption; omega; intro O1 g1 cap1
    apply OL.storeB; rfl; rfl; exact CellsL.one rfl; rfl; rfl; rfl; exact Swap.au; exact Put.au
    apply OL.nil
    have hlen : (l ++ [(x : Int)]).length = l.length + 1 := by simp
    exact At.end_ (At.fin0 rfl (fun w' hw' => ⟨O1, some ⟨g1, 0, none⟩, cap1, rfl, by
      rw [hlen, ints_append]
      exact hw'.thin (.any (fun k hk => by rw [show k = bk from hk]; exact hbk) Thin.same)⟩))
  · refine W.cond rfl (fun h => by simp at h; exact absurd h h0) (fun _ => ?_)
    rw [if_neg h0]
    apply W.skip
    exact At.end_ (At.fin0 rfl (fun w' hw' => ⟨O, q, c, rfl, hw'⟩))
theorem RFwd_calls (y : FnY) (s0 : World) (hfn : FnOk s0 (low s0) dia2 y) (b1 b4 : Nat) (hcF : CellsAt s0 ⟨b1, 0, none⟩ (fnC dia2 y)) (hb1 : b1 < s0.heap.size) (qe : Option Addr) (ce : Nat) (E : List (Nat × Nat)) (hcE : s0.cell? ⟨b4, 0, none⟩ = some (.slice qe E.length ce)) (hb4 : b4 < s0.heap.size) (hE : ∀ b h, (b, h) ∈ E ↔ BackE dia2G b h) (hEl : E.length ≤ 128 * 257) (hArr : Arr beR s0 (low s0) (E.map fun p => (p, ())) qe)
    (SS : List World) (hs0 : s0 ∈ SS) {σ : Type} (I : σ → List Eng.Item) (hnoI : ∀ x k, k < s0.heap.size → NotOwned (I x) k) (φ : List Nat → σ → Prop) (f : FuncId) (first caps : List Value) (hf : callable Try.prog f = true)
    (hcl : ∀ (x : Nat) (r : List Nat) (s : σ) (X : Eng.Item) (w' : World), x < 5 → φ (x :: r) s → (∀ k, k < s0.heap.size → ¬ X.own k) → Cls (X :: I s) SS w' → Calls Try.prog f (first ++ [Value.int .i64 (x : Int)] ++ caps).toArray w' fun e w'' => ∃ s', e = .returned (.tuple #[]) ∧ φ r s' ∧ Cls (X :: I s') SS w'')
    (k : Nat) (hk : k < 5) (x0 : σ) (hx0 : φ (fwL k) x0) (w : World) (hc : Cls (I x0) SS w) :
    Calls Try.prog 129 [.int .i64 (k : Int), .func (.func f) first.toArray caps.toArray, .pointer (some ⟨b1, 0, none⟩), .pointer (some ⟨b4, 0, none⟩)].toArray w fun e w' => ∃ s', e = .returned (.tuple #[]) ∧ φ [] s' ∧ Cls (I s') SS w' := by
  obtain ⟨es, hes, he⟩ := hfn.b
  obtain ⟨q, cap⟩ := y
  have hbl := hfn.bl
  simp only [fnC] at hes he hbl hcF
  have hel : es.length = 5 := by rw [← List.length_map (f := Prod.fst), hes]; rfl
  have hdl : dia2.blocks.length = 5 := rfl
  rw [hdl] at hcF
  have hcF1 : s0.cell? ⟨b1, 0 + 1, none⟩ = some (.slice q 5 cap) := hcF 1 _ rfl
  obtain ⟨a, p, hqa, hab, hp, hcell, hok⟩ := he.get (show k < es.length by omega)
  have hab : a.block < s0.heap.size := hab
  have hcell : CellsAt s0 (a.add (k * 7)) [.slice p.2.p.1 p.1.params.length p.2.p.2, .slice p.2.i.1 p.1.ins.length p.2.i.2, .int .i64 p.1.term.kind, .int .i64 p.1.term.arg, .int .i64 p.1.term.n, .slice p.2.t.c.1 p.1.term.cases.length p.2.t.c.2, .slice p.2.t.t.1 p.1.term.to_.length p.2.t.t.2] := hcell
  obtain ⟨ts, hts, harr⟩ := hok.t.t
  have htl2 : p.1.term.to_.length = ts.length := by rw [← hts, List.length_map]
  have hbm : dia2.blocks[k]? = some p.1 := by rw [← hes]; simp [hp]
  obtain ⟨l, hl⟩ : ∃ l, p.1.term.to_.map Ed.block = l := ⟨_, rfl⟩
  have hGk : dia2G[k]? = some l := by rw [← hl]; simp [dia2G, graphB, hbm]
  have hll : l.length = ts.length := by rw [← hl, List.length_map, htl2]
  have hfw : fwL k = fwD k l := by unfold fwL; rw [List.getD_eq_getElem?_getD, hGk]; rfl
  rw [hfw] at hx0
  have hlo : ∀ x ∈ l, 0 ≤ x ∧ x < 5 := dia2G_ok l (List.mem_of_getElem? hGk)
  have hts2 : ts.length ≤ 2 := by
    rw [← hll]
    have : ∀ l ∈ dia2G, l.length ≤ 2 := by rw [dia2G_eq]; decide
    exact this l (List.mem_of_getElem? hGk)
  have hcell6 : s0.cell? ⟨(a.add (k * 7)).block, (a.add (k * 7)).off + 2 + 4, none⟩ = some (.slice p.2.t.t.1 p.1.term.to_.length p.2.t.t.2) := hcell 6 _ rfl
  have habk : (a.add (k * 7)).block < s0.heap.size := by rw [add_block]; exact hab
  have hno := hnoI x0
  subst hqa
  refine enter Try.func129 rfl Try.ntmps129 rfl hc ?_
  (simp only [argEnv, Nat.zero_add, Nat.reduceAdd])
  apply W.sr
  apply ofa; rfl; rfl; rfl
  apply oop; rfl; apply Pev.load_kept; rfl; exact yes; assumption; rfl; intro hcond; assumption; intro hcond; assumption; intro hcond; exact NotOwned.au
  apply omv; rfl; rfl
  apply oop; rfl; apply Pev.idx; rfl; exact yes; rfl; exact yes; rfl; rfl; intro hcond; omega
  apply oop; rfl; apply Pev.fldA; rfl; exact yes; rfl
  apply ofa; rfl; rfl; rfl
  apply oop; rfl; apply Pev.load_kept; rfl; exact yes; assumption; rfl; intro hcond; assumption; intro hcond; assumption; intro hcond; exact NotOwned.au
  apply oop; rfl; apply Pev.len_slice; rfl; exact yes; rfl
  apply omv; rfl; rfl
  apply OL.nx
  apply W.block
  rw [htl2]
  refine W.loop (G := Nat × σ) (fun g => g.1 ≤ ts.length ∧ φ (fwD k (l.drop g.1)) g.2) (fun g => ts.length - g.1)
    (fun g => [(0, true, .int .i64 (k : Int)), (1, true, .func (.func f) first.toArray caps.toArray), (3, true, .pointer (some ⟨b4, 0, none⟩)), (14, true, .slice p.2.t.t.1 ts.length p.2.t.t.2), (15, true, .int .i64 (ts.length : Int)), (16, true, .int .i64 (g.1 : Int))])
    (fun g => Cls (I g.2) SS) (0, x0) ⟨by simp, hx0⟩ (by exact Sub.au) (fun w' hw' => hw') ?_
  rintro ⟨j, s⟩ ⟨hj, hφ⟩
  simp only at hj hφ ⊢
  have hno := hnoI s
  apply W.sr
  apply obn; rfl; rfl; rfl; apply Bin.lss
  apply OL.nx
  apply W.seq
  (refine W.cnd (fun hlt => ?_) (fun hlt => ?_)) <;> (try (exfalso; first | omega | exact hlt trivial | contradiction))
  · have hjl : j < ts.length := by omega
    obtain ⟨ae, u, hqt, hatb, hu, hcu, hoku⟩ := harr.get hjl
    have hatb : ae.block < s0.heap.size := hatb
    have hcu : CellsAt s0 (ae.add (j * 2)) [.int .i64 u.1.block, .slice u.2.1 u.1.args.length u.2.2] := hcu
    have hlj : l[j]? = some u.1.block := by rw [← hl, ← hts]; simp [hu]
    have hx5 := hlo _ (List.mem_of_getElem? hlj)
    obtain ⟨x, hx⟩ : ∃ x : Nat, u.1.block = (x : Int) := ⟨u.1.block.toNat, by omega⟩
    rw [hx] at hcu hlj hx5
    have hdr : l.drop j = (x : Int) :: l.drop (j + 1) := by
      obtain ⟨h1, h2⟩ := List.getElem?_eq_some_iff.1 hlj
      rw [List.drop_eq_getElem_cons h1, h2]
    rw [hdr] at hφ
    rw [hqt]
    apply W.sk
    apply W.sb
    apply W.sr
    apply oop; rfl; apply Pev.idx; rfl; exact yes; rfl; exact yes; rfl; rfl; intro hcond; omega
    apply oop; rfl; apply Pev.load_keptA; rfl; exact yes; assumption; rfl; intro hcond; assumption; rfl; intro hcond; (rw [add_block]; assumption); intro hcond; exact NotOwned.au
    apply OL.alloc; rfl; rfl; exact CellsL.agg; intro bk hbk
    apply OL.storeB; rfl; rfl; exact CellsL.agg; rfl; rfl; rfl; exact Swap.au; exact Put.au
    apply OL.nsr
    revert bk
    intro b7 hb7x
    have hb7 : AllLe SS b7 := by first | exact hb7x | exact hb7x.1
    have hb70 : s0.heap.size ≤ b7 := hb7.mem s0 hs0
    apply oop; rfl; apply Pev.load_kept; rfl; exact yes; assumption; rfl; intro hcond; assumption; intro hcond; assumption; intro hcond; exact NotOwned.au
    apply omv; rfl; rfl
    apply ofa; rfl; rfl; rfl
    apply old; rfl; rfl; exact .head _; rfl; rfl
    apply oop; rfl; apply Pev.build; rfl; exact CellsL.agg; rfl; exact Fill.au; rfl
    (((first | (with_reducible apply OL.op) | (with_reducible apply QL.op)); (exact Guard.au); rfl; rfl); (exact Pev.call (v := .bool (decide ((k, x) ∈ E))) rfl (by exact Args.au) (fun _ w2 hw2 => (EContains_calls qe ce E (k, x) w2 (by omega) (hArr.at hw2 hs0 (fun k hk => NotOwned.blk (by omega) (hno k hk)))).mono (fun e w3 h => ⟨h.1, hw2.ext h.2⟩))))
    apply oop; rfl; apply Pev.not; rfl; exact yes
    apply OL.nx
    have hin : (k, x) ∈ E ↔ k = 3 ∧ x = 3 := by rw [hE, dia2_back]
    by_cases hk3 : k = 3 ∧ x = 3
    · refine W.cond rfl (fun h => by simp [hin.2 hk3] at h) (fun _ => ?_)
      apply W.skip
      with_reducible apply At.in_normal
      with_reducible apply At.next
      apply W.reg
      apply obn; rfl; rfl; rfl; apply Bin.add_in; omega
      apply omv; rfl; rfl
      apply OL.nil
      refine At.again (j + 1, s) ⟨by simp only; omega, ?_⟩ (by simp only; omega) (by exact Sub.au) (fun w' hw' => hw'.thin (.any (fun k hk => by rw [show k = b7 from hk]; exact hb7) Thin.same))
      rw [fwD, List.filterMap_cons_none (by rw [if_pos ⟨hk3.1, by omega⟩])] at hφ
      exact hφ
    · refine W.cond rfl (fun _ => ?_) (fun h => by simp at h; exact absurd (hin.1 h) hk3)
      have hφ2 : φ (x :: fwD k (l.drop (j + 1))) s := by
        rw [fwD, List.filterMap_cons_some (b := x) (by rw [if_neg (fun h => hk3 ⟨h.1, by omega⟩)]; rfl)] at hφ
        exact hφ
      apply W.reg
      apply omv; rfl; rfl
      apply ofa; rfl; rfl; rfl
      apply old; rfl; rfl; exact .head _; rfl; rfl
      refine OL.callvE (α := σ) (first := first) (cap := caps) (vs := [.int .i64 (x : Int)]) (fun _ => .tuple #[]) (fun s' => φ (fwD k (l.drop (j + 1))) s') (fun s' => Cls (blk b7 105 [.int .i64 (x : Int), .slice u.2.1 u.1.args.length u.2.2] :: I s') SS) rfl rfl hf (by exact Args.au) (fun w2 hw2 => (hcl x _ s _ w2 (by omega) hφ2 (fun k hk hX => by have hX : k = b7 := hX; omega) hw2).mono fun e w3 ⟨s', h1, h2, h3⟩ => ⟨s', h1, h2, h3⟩) ?_
      intro s' hs'
      apply OL.nil
      with_reducible apply At.in_normal
      with_reducible apply At.next
      apply W.reg
      apply obn; rfl; rfl; rfl; apply Bin.add_in; omega
      apply omv; rfl; rfl
      apply OL.nil
      exact At.again (j + 1, s') ⟨by simp only; omega, hs'⟩ (by simp only; omega) (by exact Sub.au) (fun w' hw' => hw'.thin (.any (fun k hk => by rw [show k = b7 from hk]; exact hb7) Thin.same))
  · obtain rfl : j = ts.length := by omega
    rw [← hll, List.drop_length] at hφ
    refine W.xt ?_
    exact At.end_ (At.fin0 rfl (fun w' hw' => ⟨s, rfl, hφ, hw'⟩))
theorem Red_calls (y : FnY) (w : World) (hfn : FnOk w (low w) dia2 y) : Calls Try.prog 95 [.agg (fnC dia2 y).toArray].toArray w fun e w' => e = .returned (.tuple #[.bool true, .int .i64 0]) ∧ Ext w w' := by
  obtain ⟨q, cap⟩ := y
  have hF : ∀ (H : List Eng.Item) (S : List World) (w2 : World), Cls H S w2 → w ∈ S → (∀ k, k < w.heap.size → NotOwned H k) → FnOk w2 (low w2) dia2 ⟨q, cap⟩ := fun H S w2 hw2 hs hno => fnR.mono (hw2.up hs) (fnR.stab (hw2.same hs hno) hfn)
  have hRa := fun w2 (H : List Eng.Item) (S : List World) hw2 hs hno => Reachable_ext dia2 ⟨q, cap⟩ w2 (hF H S w2 hw2 hs hno)
  have hBk := fun w2 (H : List Eng.Item) (S : List World) hw2 hs hno => backs_calls dia2 ⟨q, cap⟩ w2 (hF H S w2 hw2 hs hno)
  simp only [dia2_ok, show graphB dia2.blocks = dia2G from rfl, show (fnC dia2 ⟨q, cap⟩) = [.int .i64 (-1), .slice q 5 cap] from rfl, ← rl.eq_1] at hRa hBk ⊢
  refine enter Try.func95 rfl Try.ntmps95 rfl (Cls.start w) ?_
  (simp only [argEnv, Nat.zero_add, Nat.reduceAdd])
  apply W.sr
  apply OL.box; rfl; rfl; exact CellsL.agg; (intro bk hbk; simp only [AllLe, and_true] at hbk)
  apply oas; rfl; rfl
  apply oas; rfl; rfl
  apply OL.nsr
  apply oop; rfl; apply Pev.load_blkA; rfl; exact yes; exact .head _; rfl; exact Take.au
  revert bk
  intro b1 hb1x
  have hb1 : w.heap.size ≤ b1 := by first | exact hb1x | exact hb1x.1
  refine OL.frzD (C' := fun w1 => Cls [] [w1, w]) (fun w1 hc1 => (hc1.thin (.any (fun k hk => by rw [show k = b1 from hk]; exact ⟨hb1, trivial⟩) Thin.nil)).note) (fun w1 hc1 => ?_)
  have hb11 : b1 < w1.heap.size := blk_lt (hc1.item (.head _))
  have hw1 : w.heap.size ≤ w1.heap.size := (hc1.kp w (.head _)).size
  have hcF1 : CellsAt w1 ⟨b1, 0, none⟩ [.int .i64 (-1), .slice q 5 cap] := fun j v hj => by
    rw [add_mid, blk_cell (hc1.item (.head _)), Nat.zero_add]
    exact hj
  refine OL.callE (α := ((Option Addr × Nat) × List (Nat × Nat)) × World) (fun z => .tuple #[.slice z.1.1.1 z.1.2.length z.1.1.2, .int .i64 0]) (fun z => w1.heap.size ≤ z.2.heap.size ∧ Arr beR z.2 (low z.2) (z.1.2.map fun p => (p, ())) z.1.1.1 ∧ z.1.2.length ≤ 128 * 257 ∧ ∀ b h, (b, h) ∈ z.1.2 ↔ BackE dia2G b h) (fun z => Cls [] [z.2, w1, w]) rfl rfl (by exact Args.au) (fun w2 hw2 => (hBk w2 _ _ hw2 (by exact mau) (fun k hk => NotOwned.nil)).mono fun e w3 ⟨h2, h3⟩ => ?_) ?_
  · rcases h3 with ⟨h3, _⟩ | ⟨_, E, q', c', h4, h5⟩
    · exact absurd rfl h3
    · exact ⟨(((q', c'), E), w3), h4, ⟨((hw2.ext h2).kp w1 (by exact mau)).size, h5⟩, (hw2.ext h2).note⟩
  rintro ⟨⟨⟨qe, ce⟩, E⟩, wE⟩ ⟨hwE, hArr, hEl, hE⟩
  simp only at hwE hArr hEl hE ⊢
  apply omv; rfl; rfl
  apply oex; rfl; rfl; rfl
  apply oex; rfl; rfl; rfl
  apply OL.alloc; rfl; rfl; exact CellsL.one rfl; (intro bk hbk; simp only [AllLe, and_true] at hbk)
  apply OL.storeB; rfl; rfl; exact CellsL.one rfl; rfl; rfl; rfl; exact Swap.au; exact Put.au
  apply oas; rfl; rfl
  apply OL.nx
  apply W.seq
  apply W.sr
  apply omv; rfl; rfl
  apply obn; rfl; rfl; rfl; apply Bin.neq
  apply OL.nx
  revert bk
  intro b4 hb4x
  have hb4 : wE.heap.size ≤ b4 := by first | exact hb4x.1 | exact hb4x.2.1
  refine W.cond rfl (fun h => by simp at h) (fun _ => ?_)
  apply W.sk
  apply W.sr
  apply oop; rfl; apply Pev.load_keptA; rfl; exact yes; exact .tail _ (.head _); rfl; intro hcond; assumption; rfl; intro hcond; assumption; intro hcond; exact NotOwned.au
  refine OL.frzD (C' := fun w0 => Cls [] [w0, wE, w1, w]) (fun w0 hc0 => (hc0.thin (.any (fun k hk => by rw [show k = b4 from hk]; exact ⟨hb4x.1, hb4x.2.1, hb4x.2.2, trivial⟩) Thin.nil)).note) (fun w0 hc0 => ?_)
  have hwE0 : wE.heap.size ≤ w0.heap.size := (hc0.kp wE (by exact mau)).size
  have hb10 : b1 < w0.heap.size := by omega
  have hb40 : b4 < w0.heap.size := blk_lt (hc0.item (.head _))
  have hcF : CellsAt w0 ⟨b1, 0, none⟩ [.int .i64 (-1), .slice q 5 cap] := fun j v hj => by
    rw [hc0.cell (s := w1) (by exact mau) (by rw [add_block]; exact hb11) (NotOwned.blk (by rw [add_block]; simp only; omega) NotOwned.nil)]
    exact hcF1 j v hj
  have hcF2 : w0.cell? ⟨b1, 0 + 1, none⟩ = some (.slice q 5 cap) := hcF 1 _ rfl
  have hcE : w0.cell? ⟨b4, 0, none⟩ = some (.slice qe E.length ce) := by rw [blk_cell (hc0.item (.head _))]; rfl
  have hArr0 : Arr beR w0 (low w0) (E.map fun p => (p, ())) qe := hArr.at hc0 (by exact mau) (fun k hk => NotOwned.blk (by omega) NotOwned.nil)
  have hfn0 : FnOk w0 (low w0) dia2 ⟨q, cap⟩ := hF _ _ w0 hc0 (by exact mau) (fun k hk => NotOwned.blk (by omega) NotOwned.nil)
  refine OL.callE (α := (Option Addr × Nat) × World) (fun z => .tuple #[.slice z.1.1 (rl dia2G).length z.1.2, .int .i64 0]) (fun z => w0.heap.size ≤ z.2.heap.size ∧ IntsO z.2 (low z.2) (rl dia2G) z.1.1) (fun z => Cls [] [z.2, w0, wE, w1, w]) rfl rfl (by exact Args.au) (fun w2 hw2 => (hRa w2 _ _ hw2 (by exact mau) (fun k hk => NotOwned.nil)).mono fun e w3 ⟨h2, h3⟩ => ?_) ?_
  · rcases h3 with ⟨h3, _⟩ | ⟨_, q', c', h4, h5⟩
    · exact absurd rfl h3
    · exact ⟨((q', c'), w3), h4, ⟨((hw2.ext h2).kp w0 (by exact mau)).size, h5⟩, (hw2.ext h2).note⟩
  rintro ⟨⟨qr, cr⟩, wR⟩ ⟨hwER, hIR⟩
  simp only [dia2_rl] at hwER hIR ⊢
  apply omv; rfl; rfl
  apply oex; rfl; rfl; rfl
  apply oex; rfl; rfl; rfl
  apply oas; rfl; rfl
  apply oas; rfl; rfl
  apply OL.nsr
  apply ofa; rfl; rfl; rfl
  apply oop; rfl; apply Pev.load_kept; rfl; exact yes; exact .tail _ (.head _); rfl; intro hcond; assumption; intro hcond; assumption; intro hcond; exact NotOwned.au
  apply oop; rfl; apply Pev.len_slice; rfl; exact yes; rfl
  apply OL.makeSlice; rfl; rfl; rfl; rfl; rfl; rfl; rfl; omega; (intro bk hbk; simp only [AllLe, and_true] at hbk)
  apply OL.alloc; rfl; rfl; exact CellsL.one rfl; (intro bk hbk; simp only [AllLe, and_true] at hbk)
  apply OL.storeB; rfl; rfl; exact CellsL.one rfl; rfl; rfl; rfl; exact Swap.au; exact Put.au
  apply OL.nsr
  apply oop; rfl; apply Pev.makeFunc; exact Args.au; exact Args.au
  apply oas; rfl; rfl
  apply OL.nx
  apply W.seq
  apply W.sr
  apply omv; rfl; rfl
  apply oop; rfl; apply Pev.len_slice; rfl; exact yes; rfl
  apply omv; rfl; rfl
  apply OL.nx
  apply W.block
  rename_i bM hbMx
  revert bk
  intro b8 hb8x
  have hbM : wR.heap.size ≤ bM := by first | exact hbMx.1 | exact hbMx.2.1
  have hb8 : wR.heap.size ≤ b8 := by first | exact hb8x.1 | exact hb8x.2.1
  have hA : ∀ b, wR.heap.size ≤ b → AllLe [wR, w0, wE, w1, w] b := fun b hb => by
    have h1 : w0.heap.size ≤ b := Nat.le_trans hwER hb
    have h2 : wE.heap.size ≤ b := Nat.le_trans hwE0 h1
    have h3 : w1.heap.size ≤ b := Nat.le_trans hwE h2
    exact ⟨hb, h1, h2, h3, Nat.le_trans hw1 h3, trivial⟩
  simp only [List.length_cons, List.length_nil, Nat.zero_add, Nat.reduceAdd]
  have hFw := fun (σ : Type) (I : σ → List Eng.Item) h1 φ f fi ca h2 h3 k h4 x0 h5 w2 h6 => RFwd_calls ⟨q, cap⟩ w0 hfn0 b1 b4 hcF hb10 qe ce E hcE hb40 hE hEl hArr0 [wR, w0, wE, w1, w] (.tail _ (.head _)) (σ := σ) I h1 φ f fi ca h2 h3 k h4 x0 h5 w2 h6
  refine W.loop (G := Nat × List Int) (fun g => g.1 ≤ 5 ∧ pInc [0, 1, 1, 2, 1] ((l5.drop g.1).flatMap fwL) g.2) (fun g => 5 - g.1)
    (fun g => [(6, true, .slice qr 5 cr), (8, true, .pointer (some ⟨b8, 0, none⟩)), (9, true, .func (.func 129) #[] #[.pointer (some ⟨b1, 0, none⟩), .pointer (some ⟨b4, 0, none⟩)]), (33, true, .slice qr 5 cr), (34, true, .int .i64 5), (35, true, .int .i64 (g.1 : Int))])
    (fun g => Cls [blk b8 35 [.slice (some ⟨bM, 0, none⟩) 5 5], blk bM 3 (ints g.2)] [wR, w0, wE, w1, w]) (0, [0, 0, 0, 0, 0]) ⟨by simp, l5_start⟩ (by exact Sub.au) (fun w' hw' => hw') ?_
  rintro ⟨i, m⟩ ⟨hi, hm⟩
  simp only at hi hm ⊢
  apply W.sr
  apply obn; rfl; rfl; rfl; apply Bin.lss
  apply OL.nx
  apply W.seq
  (refine W.cnd (fun hlt => ?_) (fun hlt => ?_)) <;> (try (exfalso; first | omega | exact hlt trivial | contradiction))
  · have hil : i < 5 := by omega
    obtain ⟨ar, v, hqr, habr, hv, hcv⟩ := hIR.get (show i < [(0 : Int), 1, 2, 3, 4].length from hil)
    have habr : ar.block < wR.heap.size := habr
    have hvi : v = (i : Int) := by
      have : i = 0 ∨ i = 1 ∨ i = 2 ∨ i = 3 ∨ i = 4 := by omega
      rcases this with rfl | rfl | rfl | rfl | rfl <;> exact (Option.some.inj hv).symm
    subst hvi
    have hdr : (l5.drop i).flatMap fwL = fwL i ++ (l5.drop (i + 1)).flatMap fwL := by
      have : i = 0 ∨ i = 1 ∨ i = 2 ∨ i = 3 ∨ i = 4 := by omega
      rcases this with rfl | rfl | rfl | rfl | rfl <;> rfl
    rw [hdr] at hm
    subst hqr
    apply W.sk
    apply W.sb
    apply W.sr
    apply oop; rfl; apply Pev.idx; rfl; exact yes; rfl; exact yes; rfl; rfl; intro hcond; omega
    apply oop; rfl; apply Pev.load_kept; rfl; exact yes; exact .head _; rfl; intro hcond; assumption; intro hcond; (rw [add_block]; assumption); intro hcond; exact NotOwned.au
    apply oas; rfl; rfl
    apply OL.nx
    apply W.reg
    apply omv; rfl; rfl
    apply omv; rfl; rfl
    apply oop; rfl; apply Pev.makeFunc; exact Args.au; exact Args.au
    refine OL.callvE (α := List Int) (first := []) (cap := [.pointer (some ⟨b1, 0, none⟩), .pointer (some ⟨b4, 0, none⟩)]) (vs := [.int .i64 (i : Int), .func (.func 131) #[] #[.pointer (some ⟨b8, 0, none⟩)]]) (fun _ => .tuple #[]) (fun m' => pInc [0, 1, 1, 2, 1] ((l5.drop (i + 1)).flatMap fwL) m') (fun m' => Cls [blk b8 35 [.slice (some ⟨bM, 0, none⟩) 5 5], blk bM 3 (ints m')] [wR, w0, wE, w1, w]) rfl rfl rfl (by exact Args.au) (fun w2 hw2 => (hFw (List Int) (fun m' => [blk b8 35 [.slice (some ⟨bM, 0, none⟩) 5 5], blk bM 3 (ints m')]) (fun x k hk => NotOwned.blk (by omega) (NotOwned.blk (by omega) NotOwned.nil)) (fun r m' => pInc [0, 1, 1, 2, 1] (r ++ (l5.drop (i + 1)).flatMap fwL) m') 131 [] [.pointer (some ⟨b8, 0, none⟩)] rfl
      (fun x r s X w3 hx hs hX hw3 => (RInc_calls _ X b8 bM x s w3 hs.1.1 hx (by have := hs.1.get hx; omega) hw3).mono fun e w4 h => ⟨_, h.1, hs.step, h.2⟩) i hil m hm w2 hw2).mono fun e w3 ⟨m', h1, h2, h3⟩ => ⟨m', h1, h2, h3⟩) ?_
    intro m' hm'
    apply OL.nil
    with_reducible apply At.in_normal
    with_reducible apply At.next
    apply W.reg
    apply obn; rfl; rfl; rfl; apply Bin.add_in; omega
    apply omv; rfl; rfl
    apply OL.nil
    exact At.again (i + 1, m') ⟨by simp only; omega, hm'⟩ (by simp only; omega) (by exact Sub.au) (fun w' hw' => hw')
  obtain rfl : i = 5 := by omega
  obtain rfl : m = [0, 1, 1, 2, 1] := hm.2.1
  refine W.xt ?_
  with_reducible apply At.next
  apply W.sr
  apply OL.buildSlice; rfl; rfl; rfl; exact Elems.au; rfl; rfl; (intro bk hbk; simp only [AllLe, and_true] at hbk)
  apply OL.alloc; rfl; rfl; exact CellsL.one rfl; (intro bk hbk; simp only [AllLe, and_true] at hbk)
  apply OL.storeB; rfl; rfl; exact CellsL.one rfl; rfl; rfl; rfl; exact Swap.au; exact Put.au
  apply OL.nsr
  apply oas; rfl; rfl
  apply OL.nx
  apply W.sb
  rename_i bL hbLx
  revert bk
  intro bW hbWx
  have hbL : wR.heap.size ≤ bL := by first | exact hbLx.1 | exact hbLx.2.1
  have hbW : wR.heap.size ≤ bW := by first | exact hbWx.1 | exact hbWx.2.1
  refine W.loop (G := Nat × (Nat → Prop) × Option Addr × Nat) (fun g => g.1 ≤ 5) (fun g => 5 - g.1)
    (fun g => [(6, true, .slice qr 5 cr), (8, true, .pointer (some ⟨b8, 0, none⟩)), (9, true, .func (.func 129) #[] #[.pointer (some ⟨b1, 0, none⟩), .pointer (some ⟨b4, 0, none⟩)]), (12, true, .pointer (some ⟨bW, 0, none⟩)), (13, true, .int .i64 (g.1 : Int))])
    (fun g => Cls [blk bW 35 [.slice g.2.2.1 (stT g.1).2.length g.2.2.2], row wR.heap.size g.2.1 g.2.2.1 (stT g.1).2.length g.2.2.2 3 1 (ints (stT g.1).2), blk b8 35 [.slice (some ⟨bM, 0, none⟩) 5 5], blk bM 3 (ints (stT g.1).1)] [wR, w0, wE, w1, w]) (0, fun k => k = bL, some ⟨bL, 0, none⟩, 1) (by simp) (by exact Sub.au) (fun w' hw' => ((hw'.perm (List.Perm.swap _ _ _)).blk_row (m := 1) hbL rfl (by decide)).perm (List.Perm.swap _ _ _)) ?_
  rintro ⟨n, O, ql, cl⟩ hn
  simp only at hn ⊢
  by_cases hn5 : n = 5
  · subst hn5
    apply W.seq
    apply W.sr
    apply old; rfl; rfl; exact .head _; rfl; rfl
    apply oop; rfl; apply Pev.len_slice; rfl; exact yes; rfl
    apply obn; rfl; rfl; rfl; apply Bin.gtr
    apply OL.nx
    refine W.cond rfl (fun h => by simp [stT] at h) (fun _ => ?_)
    refine W.xt ?_
    with_reducible apply At.next
    apply W.sr
    apply omv; rfl; rfl
    apply omv; rfl; rfl
    apply oop; rfl; apply Pev.len_slice; rfl; exact yes; rfl
    apply obn; rfl; rfl; rfl; apply Bin.eql
    apply oas; rfl; rfl
    apply oas; rfl; rfl
    apply OL.nx
    apply W.ret
    ((with_reducible apply At.fin2); rfl; rfl; rfl; intro w' hw')
    exact ⟨by simp, hw'.toExt (by exact mau) (fun k hk => NotOwned.blk (by omega) (NotOwned.row (by omega) (NotOwned.blk (by omega) (NotOwned.blk (by omega) NotOwned.nil))))⟩
  · obtain ⟨hl1, hk5, hdl⟩ := stT_last n (by omega)
    have hstp := stT_step n (by omega)
    generalize knT n = k at *
    generalize hm : (stT n).1 = m at *
    generalize hL : (stT n).2 = L at *
    generalize L.dropLast = l at *
    subst hl1
    have hwl : (l ++ [(k : Int)]).length = l.length + 1 := by simp
    have hrv : (ints (l ++ [(k : Int)]))[0 + (l.length : Int).toNat * 1]? = some (.int .i64 (k : Int)) := by
      rw [show 0 + (l.length : Int).toNat * 1 = l.length by omega]
      exact ints_get (by simp)
    have hI1 : ((l.length + 1 : Nat) : Int) - 1 = (l.length : Int) := by omega
    rw [hwl]
    apply W.seq
    apply W.sr
    apply old; rfl; rfl; exact .head _; rfl; rfl
    apply oop; rfl; apply Pev.len_slice; rfl; exact yes; rfl
    apply obn; rfl; rfl; rfl; apply Bin.gtr
    apply OL.nx
    refine W.cond rfl (fun _ => ?_) (fun h3 => by simp at h3)
    refine W.fact (fun w2 hw2 => row_cap (hw2.item (.tail _ (.head _)))) (fun hcw => ?_)
    refine W.fact (fun w2 hw2 => row_some (hw2.item (.tail _ (.head _))) (by omega)) ?_
    rintro ⟨gw, hgw⟩
    subst hgw
    apply W.sk
    apply W.block
    apply W.sr
    apply old; rfl; rfl; exact .head _; rfl; rfl
    apply old; rfl; rfl; exact .head _; rfl; rfl
    apply oop; rfl; apply Pev.len_slice; rfl; exact yes; rfl
    apply obn; rfl; rfl; rfl; apply Bin.sub_in; omega
    apply oop; rfl; apply Pev.idxB; rfl; exact yes; rfl; exact yes; rfl; intro hcond; omega; rfl
    rw [hI1]
    apply oop; rfl; apply Pev.load_row; rfl; exact yes; exact .tail _ (.head _); rfl; assumption
    apply oas; rfl; rfl
    apply OL.nsr
    apply old; rfl; rfl; exact .head _; rfl; rfl
    apply old; rfl; rfl; exact .head _; rfl; rfl
    apply oop; rfl; apply Pev.len_slice; rfl; exact yes; rfl
    apply obn; rfl; rfl; rfl; apply Bin.sub_in; omega
    apply oop; rfl; apply Pev.slice_hi; rfl; exact yes; rfl; exact yes; rfl; (first | exact (Int.toNat_of_nonneg (by omega)).symm | omega); intro hcond; omega
    apply OL.storeB; rfl; rfl; exact CellsL.one rfl; rfl; rfl; rfl; exact Swap.au; exact Put.au
    apply OL.nsr
    apply omv; rfl; rfl
    apply obn; rfl; rfl; rfl; apply Bin.add_in; omega
    apply oas; rfl; rfl
    apply OL.nx
    apply W.reg
    apply omv; rfl; rfl
    apply omv; rfl; rfl
    apply oop; rfl; apply Pev.makeFunc; exact Args.au; exact Args.au
    rw [hI1, Int.toNat_natCast]
    refine OL.cls (C' := Cls [blk bW 35 [.slice (some ⟨gw, 0, none⟩) l.length cl], row wR.heap.size O (some ⟨gw, 0, none⟩) l.length cl 3 1 (ints l), blk b8 35 [.slice (some ⟨bM, 0, none⟩) 5 5], blk bM 3 (ints m)] [wR, w0, wE, w1, w]) (fun w2 hw2 => hw2.rowPop l.length (ints l) (.s .z) (by omega) (by rw [ints_append, Nat.mul_one, List.take_left' (by rw [ints_length])])) ?_
    refine OL.callvE (α := (List Int × List Int) × (Nat → Prop) × Option Addr × Nat) (first := []) (cap := [.pointer (some ⟨b1, 0, none⟩), .pointer (some ⟨b4, 0, none⟩)]) (vs := [.int .i64 (k : Int), .func (.func 132) #[] #[.pointer (some ⟨b8, 0, none⟩), .pointer (some ⟨bW, 0, none⟩)]]) (fun _ => .tuple #[]) (fun s => pDec (stT (n + 1)) [] s.1) (fun s => Cls [blk bW 35 [.slice s.2.2.1 s.1.2.length s.2.2.2], row wR.heap.size s.2.1 s.2.2.1 s.1.2.length s.2.2.2 3 1 (ints s.1.2), blk b8 35 [.slice (some ⟨bM, 0, none⟩) 5 5], blk bM 3 (ints s.1.1)] [wR, w0, wE, w1, w]) rfl rfl rfl (by exact Args.au)
      (fun w2 hw2 => (hFw ((List Int × List Int) × (Nat → Prop) × Option Addr × Nat) (fun s => [blk bW 35 [.slice s.2.2.1 s.1.2.length s.2.2.2], row wR.heap.size s.2.1 s.2.2.1 s.1.2.length s.2.2.2 3 1 (ints s.1.2), blk b8 35 [.slice (some ⟨bM, 0, none⟩) 5 5], blk bM 3 (ints s.1.1)]) (fun x k hk => NotOwned.blk (by omega) (NotOwned.row (by omega) (NotOwned.blk (by omega) (NotOwned.blk (by omega) NotOwned.nil)))) (fun r s => pDec (stT (n + 1)) r s.1) 132 [] [.pointer (some ⟨b8, 0, none⟩), .pointer (some ⟨bW, 0, none⟩)] rfl
        (fun x r s X w3 hx hs hX hw3 => (RDec_calls _ X b8 bM bW wR.heap.size s.2.2.2 x s.2.1 s.2.2.1 s.1.1 s.1.2 w3 hs.1.1 hx (by have := hs.1.get hx; simp only [List.length_cons] at this; omega) (by have := hs.2.2; simp only [List.length_cons] at this; omega) ⟨wR, .head _, Nat.le_refl _⟩ hw3).mono fun e w4 ⟨O', q', c', h1, h2⟩ => ⟨(decS s.1 x, O', q', c'), h1, hs.step hx, h2⟩) k hk5 ((m, l), O, some ⟨gw, 0, none⟩, cl) hstp w2 hw2).mono fun e w3 ⟨s', h1, h2, h3⟩ => ⟨s', h1, h2, h3⟩) ?_
    rintro ⟨s, O2, q2, c2⟩ hs
    have hs1 : s = stT (n + 1) := hs.2.1
    subst hs1
    apply OL.nil
    with_reducible apply At.in_normal
    exact At.again (n + 1, O2, q2, c2) (by simp only; omega) (by simp only; omega) (by exact Sub.au) (fun w' hw' => hw')
theorem loopsWorks_calls (w : World) : Calls Try.prog 50 #[] w fun e w' => e = .returned (.bool true) ∧ Ext w w' := loopsWorks_of Red_calls w
end Go.Proofs.Ytehelljmaiophaa.ss

/- The law LoopsFinds but for loopsWorks. Conditions: none. -/
namespace Go.Ss
set_option linter.unusedVariables false
set_option linter.unusedSimpArgs false
noncomputable def hdI (G : List (List Int)) (k : Nat) : List Int := (hdrL G k).map fun h : Nat => (h : Int)
theorem hdI_succ (G : List (List Int)) (k : Nat) : hdI G (k + 1) = hdI G k ++ if ihB G k = true then [(k : Int)] else [] := by
  unfold hdI
  by_cases h : IsH G k
  · rw [(hdrL_succ G k).1 h, if_pos (ihB_iff.2 h), List.map_append]; rfl
  · rw [(hdrL_succ G k).2 h, if_neg (fun h2 => h (ihB_iff.1 h2)), List.append_nil]
noncomputable def memK (G : List (List Int)) (h k : Nat) : List Int := ((List.range k).filter fun x => inlB G h x).map fun x : Nat => (x : Int)
theorem memK_all (G : List (List Int)) (h : Nat) : memK G h G.length = memL G h := by
  unfold memK memL
  congr 1
theorem memK_succ (G : List (List Int)) (h k : Nat) : memK G h (k + 1) = memK G h k ++ if inlB G h k = true then [(k : Int)] else [] := by
  unfold memK
  rw [List.range_succ, List.filter_append, List.map_append]
  congr 1
  rw [List.filter_cons]
  split <;> rfl
theorem memK_len (G : List (List Int)) (h k : Nat) : (memK G h k).length ≤ k := by
  unfold memK
  rw [List.length_map]
  exact Nat.le_trans (List.length_filter_le _ _) (by simp)
theorem hdI_len (G : List (List Int)) (k : Nat) : (hdI G k).length ≤ k := by
  unfold hdI
  rw [List.length_map]
  exact hdrL_len G k
end Go.Ss
namespace Go.Proofs.Ytehelljmaiophaa.ss
set_option linter.unusedVariables false
set_option linter.unusedSimpArgs false
set_option maxRecDepth 100000
open Go.Eng Go.RowKit Go.Ss
set_option linter.unusedVariables false
set_option linter.unusedSimpArgs false
theorem loopsFinds_of (hW : ∀ w : World, Calls Try.prog 50 #[] w fun e w' => e = .returned (.bool true) ∧ Ext w w') (fn : Go.Ss.Fn) (y : FnY) (w : World) (hfn : FnOk w (low w) fn y) :
    Calls Try.prog 10 [.agg (fnC fn y).toArray].toArray w fun e w' => e = .returned (.bool true) ∧ Ext w w' := by
  have hfn0 := hfn
  obtain ⟨es, hes, he⟩ := hfn.b
  obtain ⟨nm, bs⟩ := fn
  obtain ⟨q, cap⟩ := y
  have hbl := hfn.bl
  simp only at hes he hbl
  have hbl2 : bs.length = es.length := by rw [← hes, List.length_map]
  have hF : ∀ (H : List Eng.Item) (S : List World) (w2 : World), Cls H S w2 → w ∈ S → (∀ k, k < w.heap.size → NotOwned H k) → FnOk w2 (low w2) ⟨nm, bs⟩ ⟨q, cap⟩ := fun H S w2 hw2 hs hno => fnR.mono (hw2.up hs) (fnR.stab (hw2.same hs hno) hfn0)
  have hcC : (fnC ⟨nm, bs⟩ ⟨q, cap⟩) = [.int .i64 nm, .slice q es.length cap] := by simp only [fnC]; rw [hbl2]
  rw [hcC]
  refine enter Try.func10 rfl Try.ntmps10 rfl (Cls.start w) ?_
  (simp only [argEnv, Nat.zero_add, Nat.reduceAdd])
  apply W.sr
  apply OL.box; rfl; rfl; exact CellsL.agg; (intro bk hbk; simp only [AllLe, and_true] at hbk)
  apply oas; rfl; rfl
  apply OL.nx
  apply W.seq
  apply W.sr
  revert bk
  intro bF hbF
  have hbF1 : w.heap.size ≤ bF := by first | exact hbF | exact hbF.1
  refine OL.frzD (C' := fun w0 => Cls [] [w0, w]) (fun w0 hc0 => (hc0.thin (.any (fun k hk => by rw [show k = bF from hk]; exact ⟨hbF1, trivial⟩) Thin.nil)).note) (fun w0 hc0 => ?_)
  have hbF0 : bF < w0.heap.size := blk_lt (hc0.item (.head _))
  have hcF : CellsAt w0 ⟨bF, 0, none⟩ [.int .i64 nm, .slice q es.length cap] := fun j v hj => by
    rw [add_mid, blk_cell (hc0.item (.head _)), Nat.zero_add]
    exact hj
  have hcF1 : w0.cell? ⟨bF, 0 + 1, none⟩ = some (.slice q es.length cap) := hcF 1 _ rfl
  (((first | (with_reducible apply OL.op) | (with_reducible apply QL.op)); (exact Guard.au); rfl; rfl); (exact Pev.call (v := .bool true) rfl (by exact Args.au) (fun _ w2 hw2 => (hW w2).mono (fun e w3 h => ⟨h.1, hw2.ext h.2⟩))))
  apply oop; rfl; apply Pev.not; rfl; exact yes
  apply OL.nx
  refine W.cond rfl (fun h => by cases h) (fun _ => ?_)
  apply W.sk
  apply W.seq
  apply W.sr
  apply oop; rfl; apply Pev.load_keptA; rfl; exact yes; exact .head _; rfl; intro hcond; assumption; rfl; intro hcond; assumption; intro hcond; exact NotOwned.au
  (((first | (with_reducible apply OL.op) | (with_reducible apply QL.op)); (exact Guard.au); rfl; rfl); (exact Pev.call (v := .bool (decide (es.length ≤ 12) && decide (freshF bs ≤ 200))) rfl (by exact Args.au) (fun _ w2 hw2 => (few_calls es q cap nm w2 (he.at hw2 (by exact mau) (fun k hk => NotOwned.nil)) (by omega)).mono (fun e w3 h => ⟨by rw [h.1, hes], hw2.ext h.2⟩))))
  apply oop; rfl; apply Pev.not; rfl; exact yes
  apply OL.nx
  refine W.cond rfl (fun h1 => ?_) (fun h1 => ?_)
  · apply W.sr
    apply oas; rfl; rfl
    apply OL.nx
    refine W.rt ?_
    ((with_reducible apply At.fin1); rfl; rfl; intro w' hw')
    exact ⟨rfl, by (exact hw'.fr)⟩
  have h12 : es.length ≤ 12 := by simp at h1; omega
  obtain ⟨er, her⟩ : ∃ er, funcE ⟨nm, bs⟩ = er := ⟨_, rfl⟩
  have hFi := fun w2 (H : List Eng.Item) (S : List World) hw2 hs hno => Find_calls ⟨nm, bs⟩ ⟨q, cap⟩ w2 (hF H S w2 hw2 hs hno)
  have hDe := fun w2 (H : List Eng.Item) (S : List World) hw2 hs hno => Depths_calls ⟨nm, bs⟩ ⟨q, cap⟩ w2 (hF H S w2 hw2 hs hno)
  have hFe := fun w2 (H : List Eng.Item) (S : List World) hw2 hs hno => FuncErr_calls ⟨nm, bs⟩ ⟨q, cap⟩ w2 (hF H S w2 hw2 hs hno)
  rw [hcC] at hFi hDe hFe
  simp only [her, hbl2] at hFi hDe hFe
  by_cases hne : er ≠ 0
  · apply W.sk
    apply W.sr
    apply oop; rfl; apply Pev.load_keptA; rfl; exact yes; exact .head _; rfl; intro hcond; assumption; rfl; intro hcond; assumption; intro hcond; exact NotOwned.au
    (((first | (with_reducible apply OL.op) | (with_reducible apply QL.op)); (exact Guard.au); rfl; rfl); (exact Pev.call (v := .tuple #[.slice none 0 0, .int .i64 er]) rfl (by exact Args.au) (fun _ w2 hw2 => (hFi w2 _ _ hw2 (by exact mau) (fun k hk => NotOwned.nil)).mono (fun e w3 h => ⟨by rcases h.2 with h2 | h2; exact h2.2; exact absurd h2.1 hne, hw2.ext h.1⟩))))
    apply omv; rfl; rfl
    apply oex; rfl; rfl; rfl
    apply oex; rfl; rfl; rfl
    apply oas; rfl; rfl
    apply oas; rfl; rfl
    apply OL.nsr
    apply oop; rfl; apply Pev.load_keptA; rfl; exact yes; exact .head _; rfl; intro hcond; assumption; rfl; intro hcond; assumption; intro hcond; exact NotOwned.au
    (((first | (with_reducible apply OL.op) | (with_reducible apply QL.op)); (exact Guard.au); rfl; rfl); (exact Pev.call (v := .tuple #[.slice none 0 0, .int .i64 er]) rfl (by exact Args.au) (fun _ w2 hw2 => (hDe w2 _ _ hw2 (by exact mau) (fun k hk => NotOwned.nil)).mono (fun e w3 h => ⟨by rcases h.2 with h2 | h2; exact h2.2; exact absurd h2.1 hne, hw2.ext h.1⟩))))
    apply omv; rfl; rfl
    apply oex; rfl; rfl; rfl
    apply oex; rfl; rfl; rfl
    apply oas; rfl; rfl
    apply oas; rfl; rfl
    apply OL.nx
    apply W.seq
    apply W.sr
    apply oop; rfl; apply Pev.load_keptA; rfl; exact yes; exact .head _; rfl; intro hcond; assumption; rfl; intro hcond; assumption; intro hcond; exact NotOwned.au
    (((first | (with_reducible apply OL.op) | (with_reducible apply QL.op)); (exact Guard.au); rfl; rfl); (exact Pev.call (v := .int .i64 er) rfl (by exact Args.au) (fun _ w2 hw2 => (hFe w2 _ _ hw2 (by exact mau) (fun k hk => NotOwned.nil)).mono (fun e w3 h => ⟨h.1, hw2.ext h.2⟩))))
    apply oas; rfl; rfl
    apply OL.nsr
    apply omv; rfl; rfl
    apply obn; rfl; rfl; rfl; apply Bin.neq
    apply OL.nx
    refine W.cond rfl (fun _ => ?_) (fun h => by simp at h; exact absurd h hne)
    apply W.sr
    apply omv; rfl; rfl
    apply omv; rfl; rfl
    apply obn; rfl; rfl; rfl; apply Bin.eql
    apply omv; rfl; rfl
    apply oy; rfl; rfl; rfl; apply Pev.move; rfl; exact yes
    apply oy; rfl; rfl; rfl; apply Pev.move; rfl; exact yes
    apply oy; rfl; rfl; rfl; apply Pev.bin; rfl; exact fun h => h; rfl; exact fun h => h; intro hcond; apply Bin.eql
    apply oop; rfl; apply Pev.pick_and; rfl; exact yes; rfl; exact fun h => h
    apply omv; rfl; rfl
    apply oy; rfl; rfl; rfl; apply Pev.move; rfl; exact yes
    apply oy; rfl; rfl; rfl; apply Pev.len_slice; rfl; exact fun h => h; rfl
    apply oy; rfl; rfl; rfl; apply Pev.move; rfl; exact yes
    apply oy; rfl; rfl; rfl; apply Pev.len_slice; rfl; exact fun h => h; rfl
    apply oy; rfl; rfl; rfl; apply Pev.bin; rfl; exact fun h => h; rfl; exact fun h => h; intro hcond; apply Bin.add_in; omega
    apply oy; rfl; rfl; rfl; apply Pev.bin; rfl; exact fun h => h; rfl; exact yes; intro hcond; apply Bin.eql
    apply oop; rfl; apply Pev.pick_and; rfl; exact yes; rfl; exact fun h => h
    apply oas; rfl; rfl
    apply OL.nx
    refine W.rt ?_
    ((with_reducible apply At.fin1); rfl; rfl; intro w' hw')
    exact ⟨by simp, by (exact hw'.fr)⟩
  have he0 : er = 0 := Classical.not_not.1 hne
  subst he0
  obtain ⟨h0, h128, hs0⟩ := func_zero her
  simp only at h0 h128 hs0
  obtain ⟨G, hG⟩ : ∃ G, graphB bs = G := ⟨_, rfl⟩
  have hGl : G.length = es.length := by rw [← hG]; simp [graphB, hbl2]
  have hGE : ∀ l ∈ G, ∀ x ∈ l, 0 ≤ x ∧ x < (G.length : Int) := fun l hl x hx => by
    rw [← hG] at hl
    obtain ⟨b, hb, rfl⟩ := List.mem_map.1 hl
    obtain ⟨e, he, rfl⟩ := List.mem_map.1 hx
    have := shape_edges hs0 b hb e he
    omega
  have hord := ordOk hGE (by omega)
  have hM : ∀ p ∈ es, p.1.term.to_.length ≤ 257 := fun p hp => to_len hs0 (by rw [← hes]; exact List.mem_map_of_mem hp)
  have hM : ∀ p ∈ es, p.1.term.to_.length ≤ 257 := fun p hp => to_len hs0 (by rw [← hes]; exact List.mem_map_of_mem hp)
  have hIh := fun h w2 (H : List Eng.Item) (S : List World) (hw2 : Cls H S w2) (hs : w ∈ S) (hno : ∀ k, k < w.heap.size → NotOwned H k) => IsHeader_ext es q cap nm h w2 (he.at hw2 hs hno) (by omega) hM
  have hIl := fun h x w2 (H : List Eng.Item) (S : List World) (hw2 : Cls H S w2) (hs : w ∈ S) (hno : ∀ k, k < w.heap.size → NotOwned H k) hh hx => InLoop_ext es q cap nm h x w2 (he.at hw2 hs hno) (by omega) hM hh hx (by rw [hes, hG]; exact hGE)
  simp only [hes, hG] at hIh hIl
  rw [hG] at hFi hDe
  apply W.sk
  apply W.sr
  apply oop; rfl; apply Pev.load_keptA; rfl; exact yes; exact .head _; rfl; intro hcond; assumption; rfl; intro hcond; assumption; intro hcond; exact NotOwned.au
  refine OL.callE (α := ((Option Addr × Nat) × List Lp) × World) (fun z => .tuple #[.slice z.1.1.1 z.1.2.length z.1.1.2, .int .i64 0]) (fun z => w0.heap.size ≤ z.2.heap.size ∧ lpL z.1.2 = lpsL G ∧ SlAt z.2 z.2.heap.size z.1.1.1 (lpC (fun i => parF (lpL z.1.2) i z.1.2.length) z.1.2) ∧ ∀ p ∈ z.1.2, IntsO z.2 (low z.2) p.2.1 p.2.2.1) (fun z => Cls [] [z.2, w0, w]) rfl rfl (by exact Args.au) (fun w2 hw2 => (hFi w2 _ _ hw2 (by exact mau) (fun k hk => NotOwned.nil)).mono fun e w3 ⟨h2, h3⟩ => ?_) ?_
  · rcases h3 with ⟨h3, _⟩ | ⟨_, P, q', c', h4, h5⟩
    · exact absurd rfl h3
    · exact ⟨(((q', c'), P), w3), h4, ⟨((hw2.ext h2).kp w0 (by exact mau)).size, h5⟩, (hw2.ext h2).note⟩
  rintro ⟨⟨⟨qp, cp⟩, P⟩, wF⟩ ⟨hw0F, hP, hSl, hMm⟩
  simp only at hw0F hP hSl hMm ⊢
  apply omv; rfl; rfl
  apply oex; rfl; rfl; rfl
  apply oex; rfl; rfl; rfl
  apply oas; rfl; rfl
  apply oas; rfl; rfl
  apply OL.nsr
  apply oop; rfl; apply Pev.load_keptA; rfl; exact yes; exact .tail _ (.head _); rfl; intro hcond; assumption; rfl; intro hcond; assumption; intro hcond; exact NotOwned.au
  refine OL.callE (α := Nat × World) (fun z => .tuple #[.slice (some ⟨z.1, 0, none⟩) es.length es.length, .int .i64 0]) (fun z => wF.heap.size ≤ z.2.heap.size ∧ IntsO z.2 (low z.2) (tabI es.length (cntL (lpsL G))) (some ⟨z.1, 0, none⟩)) (fun z => Cls [] [z.2, wF, w0, w]) rfl rfl (by exact Args.au) (fun w2 hw2 => (hDe w2 _ _ hw2 (by exact mau) (fun k hk => NotOwned.nil)).mono fun e w3 ⟨h2, h3⟩ => ?_) ?_
  · rcases h3 with ⟨h3, _⟩ | ⟨_, bD, h4, h5⟩
    · exact absurd rfl h3
    · exact ⟨(bD, w3), h4, ⟨((hw2.ext h2).kp wF (by exact mau)).size, h5⟩, (hw2.ext h2).note⟩
  rintro ⟨bD, wD⟩ ⟨hwFD, hDI⟩
  simp only at hwFD hDI ⊢
  apply omv; rfl; rfl
  apply oex; rfl; rfl; rfl
  apply oex; rfl; rfl; rfl
  apply oas; rfl; rfl
  apply oas; rfl; rfl
  apply OL.nx
  apply W.seq
  apply W.sr
  apply oop; rfl; apply Pev.load_keptA; rfl; exact yes; exact .tail _ (.tail _ (.head _)); rfl; intro hcond; assumption; rfl; intro hcond; assumption; intro hcond; exact NotOwned.au
  (((first | (with_reducible apply OL.op) | (with_reducible apply QL.op)); (exact Guard.au); rfl; rfl); (exact Pev.call (v := .int .i64 0) rfl (by exact Args.au) (fun _ w2 hw2 => (hFe w2 _ _ hw2 (by exact mau) (fun k hk => NotOwned.nil)).mono (fun e w3 h => ⟨h.1, hw2.ext h.2⟩))))
  apply oas; rfl; rfl
  apply OL.nsr
  apply omv; rfl; rfl
  apply obn; rfl; rfl; rfl; apply Bin.neq
  apply OL.nx
  refine W.cond rfl (fun h => by simp at h) (fun _ => ?_)
  apply W.sk
  apply W.sr
  apply oas; rfl; rfl
  apply OL.nsr
  apply ofa; rfl; rfl; rfl
  apply oop; rfl; apply Pev.load_kept; rfl; exact yes; exact .tail _ (.tail _ (.head _)); rfl; intro hcond; assumption; intro hcond; assumption; intro hcond; exact NotOwned.au
  apply oop; rfl; apply Pev.len_slice; rfl; exact yes; rfl
  apply OL.makeSlice; rfl; rfl; rfl; rfl; rfl; rfl; rfl; omega; (intro bk hbk; simp only [AllLe, and_true] at hbk)
  apply oas; rfl; rfl
  apply OL.nx
  apply W.seq
  apply W.sr
  apply ofa; rfl; rfl; rfl
  apply oop; rfl; apply Pev.load_kept; rfl; exact yes; exact .tail _ (.tail _ (.head _)); rfl; intro hcond; assumption; intro hcond; assumption; intro hcond; exact NotOwned.au
  apply oop; rfl; apply Pev.len_slice; rfl; exact yes; rfl
  apply omv; rfl; rfl
  apply OL.nx
  apply W.block
  revert bk
  intro b9 hb9x
  have hb9 : wD.heap.size ≤ b9 := by first | exact hb9x | exact hb9x.1
  have hA : ∀ b, wD.heap.size ≤ b → AllLe [wD, wF, w0, w] b := fun b hb => ⟨hb, Nat.le_trans hwFD hb, Nat.le_trans (Nat.le_trans hw0F hwFD) hb, Nat.le_trans (Nat.le_trans (Nat.le_trans (hc0.kp w (.head _)).size hw0F) hwFD) hb, trivial⟩
  have hwD := (hA _ (Nat.le_refl _)).2.2.2.1
  rw [← tabI_zeroE]
  refine W.loop (G := Nat × GR) (fun z => z.1 ≤ es.length) (fun z => es.length - z.1)
    (fun z => [(1, true, .pointer (some ⟨bF, 0, none⟩)), (3, true, .slice qp P.length cp), (4, true, .int .i64 0), (5, true, .slice (some ⟨bD, 0, none⟩) es.length es.length), (6, true, .int .i64 0), (8, true, .slice z.2.q (hdI G z.1).length z.2.c), (9, true, .slice (some ⟨b9, 0, none⟩) es.length es.length), (61, true, .int .i64 (es.length : Int)), (62, true, .int .i64 (z.1 : Int))])
    (fun z => Cls [row wD.heap.size z.2.O z.2.q (hdI G z.1).length z.2.c 3 1 (ints (hdI G z.1)), blk b9 3 (ints (tabI es.length fun _ => 0))] [wD, wF, w0, w]) (0, ⟨fun _ => False, none, 0⟩) (by simp) (by exact Sub.au) (fun w' hw' => hw'.row_nil wD.heap.size 3 1) ?_
  rintro ⟨h, ⟨O0, q0, c0⟩⟩ hh
  simp only at hh ⊢
  have hhl := hdI_len G h
  apply W.sr
  apply obn; rfl; rfl; rfl; apply Bin.lss
  apply OL.nx
  apply W.seq
  (refine W.cnd (fun hlt => ?_) (fun hlt => ?_)) <;> (try (exfalso; first | omega | exact hlt trivial | contradiction))
  · have hhl2 : h < es.length := by omega
    have hsucc := hdI_succ G h
    generalize hdI G h = xs at *
    apply W.sk
    apply W.sb
    apply W.sr
    apply omv; rfl; rfl
    apply oas; rfl; rfl
    apply OL.nsr
    apply oop; rfl; apply Pev.load_keptA; rfl; exact yes; exact .tail _ (.tail _ (.head _)); rfl; intro hcond; assumption; rfl; intro hcond; assumption; intro hcond; exact NotOwned.au
    apply omv; rfl; rfl
    (((first | (with_reducible apply OL.op) | (with_reducible apply QL.op)); (exact Guard.au); rfl; rfl); (exact Pev.call (v := .bool (ihB G h)) rfl (by exact Args.au) (fun _ w2 hw2 => (hIh h w2 _ _ hw2 (by exact mau) (fun k hk => NotOwned.row (by omega) (NotOwned.blk (by omega) NotOwned.nil)) hhl2).mono (fun e w3 h => ⟨h.1, hw2.ext h.2⟩))))
    apply OL.nx
    refine W.cond rfl (fun h3 => ?_) (fun h3 => ?_)
    · rw [if_pos h3] at hsucc
      apply W.reg
      apply omv; rfl; rfl
      apply omv; rfl; rfl
      apply OL.buildSlice; rfl; rfl; rfl; exact Elems.au; rfl; rfl; (intro bk hbk; simp only [AllLe, and_true] at hbk)
      apply OL.append; rfl; rfl; rfl; rfl; exact Hole.au; exact .head _; exact Take.au; rfl; rfl; exact ⟨_, .head _, Nat.le_refl _⟩; omega; intro O1 g1 cap1
      apply oas; rfl; rfl
      apply OL.nil
      with_reducible apply At.in_normal
      with_reducible apply At.next
      apply W.reg
      apply obn; rfl; rfl; rfl; apply Bin.add_in; omega
      apply omv; rfl; rfl
      apply OL.nil
      refine At.again (h + 1, ⟨O1, some ⟨g1, 0, none⟩, cap1⟩) (by simp only; omega) (by simp only; omega) (by simp only [hsucc, List.length_append, List.length_cons, List.length_nil]; exact Sub.au) (fun w' hw' => ?_)
      simp only [hsucc, ints_append, List.length_append, List.length_cons, List.length_nil]
      exact hw'.thin (.any (fun k hk => by rw [show k = bk from hk]; exact hA bk hbk.1) (.keep (.keep Thin.nil)))
    · rw [if_neg (by rw [h3]; decide), List.append_nil] at hsucc
      apply W.skip
      with_reducible apply At.in_normal
      with_reducible apply At.next
      apply W.reg
      apply obn; rfl; rfl; rfl; apply Bin.add_in; omega
      apply omv; rfl; rfl
      apply OL.nil
      exact At.again (h + 1, ⟨O0, q0, c0⟩) (by simp only; omega) (by simp only; omega) (by simp only [hsucc]; exact Sub.au) (fun w' hw' => by simp only [hsucc]; exact hw')
  obtain rfl : h = es.length := by omega
  have hHP : (hdI G es.length).length = P.length := by
    have h1 := congrArg List.length hP
    unfold lpL lpsL at h1
    rw [List.length_map, List.length_map, hGl] at h1
    unfold hdI
    rw [List.length_map, h1]
  refine W.xt ?_
  with_reducible apply At.next
  apply W.seq
  apply W.sr
  apply omv; rfl; rfl
  apply obn; rfl; rfl; rfl; apply Bin.neq
  apply omv; rfl; rfl
  apply ono; rfl; rfl; rfl; apply Pev.move; rfl; exact yes
  apply ono; rfl; rfl; rfl; apply Pev.bin; rfl; exact yes; rfl; exact yes; intro hcond; apply Bin.neq
  apply oop; rfl; apply Pev.pick_or; rfl; exact yes; rfl; exact yes
  apply omv; rfl; rfl
  apply ono; rfl; rfl; rfl; apply Pev.move; rfl; exact yes
  apply ono; rfl; rfl; rfl; apply Pev.len_slice; rfl; exact yes; rfl
  apply ono; rfl; rfl; rfl; apply Pev.move; rfl; exact yes
  apply ono; rfl; rfl; rfl; apply Pev.len_slice; rfl; exact yes; rfl
  apply ono; rfl; rfl; rfl; apply Pev.bin; rfl; exact yes; rfl; exact yes; intro hcond; apply Bin.neq
  apply oop; rfl; apply Pev.pick_or; rfl; exact yes; rfl; exact yes
  apply OL.nx
  refine W.cond rfl (fun h3 => by rw [hHP] at h3; simp at h3) (fun _ => ?_)
  apply W.sk
  apply W.seq
  apply W.sr
  apply omv; rfl; rfl
  apply oop; rfl; apply Pev.len_slice; rfl; exact yes; rfl
  apply omv; rfl; rfl
  apply OL.nx
  apply W.block
  refine W.loop (G := Nat) (fun i => i ≤ (hdI G es.length).length) (fun i => (hdI G es.length).length - i)
    (fun i => [(1, true, .pointer (some ⟨bF, 0, none⟩)), (3, true, .slice qp P.length cp), (5, true, .slice (some ⟨bD, 0, none⟩) es.length es.length), (9, true, .slice (some ⟨b9, 0, none⟩) es.length es.length), (86, true, .slice q0 (hdI G es.length).length c0), (87, true, .int .i64 ((hdI G es.length).length : Int)), (88, true, .int .i64 (i : Int))])
    (fun i => Cls [row wD.heap.size O0 q0 (hdI G es.length).length c0 3 1 (ints (hdI G es.length)), blk b9 3 (ints (tabI es.length (cntL ((lpL P).take i))))] [wD, wF, w0, w]) 0 (by omega) (by exact Sub.au) (fun w' hw' => hw') ?_
  intro i hi
  apply W.sr
  apply obn; rfl; rfl; rfl; apply Bin.lss
  apply OL.nx
  apply W.seq
  (refine W.cnd (fun hlt => ?_) (fun hlt => ?_)) <;> (try (exfalso; first | omega | exact hlt trivial | contradiction))
  · have hil : i < P.length := by omega
    obtain ⟨h, hh1, hh2, hhn, _, hLi⟩ := lps_at hP hil
    have hvi : (hdI G es.length)[i]? = some (h : Int) := by
      have h1 := hLi
      rw [hP] at h1
      unfold lpsL at h1
      rw [List.getElem?_map, hGl] at h1
      unfold hdI
      rw [List.getElem?_map]
      cases h2 : (hdrL G es.length)[i]? with
      | none => rw [h2] at h1; cases h1
      | some h' =>
        rw [h2] at h1
        have h3 := congrArg Prod.fst (Option.some.inj h1)
        rw [show h' = h from h3]
        rfl
    have hrv : (ints (hdI G es.length))[0 + i * 1]? = some (.int .i64 (h : Int)) := by
      rw [show 0 + i * 1 = i by omega]
      exact ints_get hvi
    have hhn2 : h < es.length := by omega
    have hcb : ∀ x, 0 ≤ cntL ((lpL P).take i) x ∧ cntL ((lpL P).take i) x ≤ 128 := fun x => by
      have := cntL_le ((lpL P).take i) x
      have h2 : ((lpL P).take i).length ≤ i := by rw [List.length_take]; omega
      have := lps_len hP
      omega
    refine W.fact (fun w2 hw2 => row_some (hw2.item (.head _)) (by omega)) ?_
    rintro ⟨g0, hg0⟩
    subst hg0
    apply W.sk
    apply W.sb
    apply W.sr
    apply omv; rfl; rfl
    apply oop; rfl; apply Pev.idxB; rfl; exact yes; rfl; exact yes; rfl; intro hcond; omega; rfl
    apply oop; rfl; apply Pev.load_row; rfl; exact yes; exact .head _; rfl; assumption
    apply oas; rfl; rfl
    apply oas; rfl; rfl
    apply OL.nsr
    apply oas; rfl; rfl
    apply OL.nx
    apply W.seq
    apply W.sr
    apply ofa; rfl; rfl; rfl
    apply oop; rfl; apply Pev.load_kept; rfl; exact yes; exact .tail _ (.tail _ (.head _)); rfl; intro hcond; assumption; intro hcond; assumption; intro hcond; exact NotOwned.au
    apply oop; rfl; apply Pev.len_slice; rfl; exact yes; rfl
    apply omv; rfl; rfl
    apply OL.nx
    apply W.block
    refine W.loop (G := Nat × GR) (fun z => z.1 ≤ es.length) (fun z => es.length - z.1)
      (fun z => [(1, true, .pointer (some ⟨bF, 0, none⟩)), (3, true, .slice qp P.length cp), (5, true, .slice (some ⟨bD, 0, none⟩) es.length es.length), (9, true, .slice (some ⟨b9, 0, none⟩) es.length es.length), (11, true, .int .i64 (i : Int)), (12, true, .int .i64 (h : Int)), (13, true, .slice z.2.q (memK G h z.1).length z.2.c), (86, true, .slice (some ⟨g0, 0, none⟩) (hdI G es.length).length c0), (87, true, .int .i64 ((hdI G es.length).length : Int)), (88, true, .int .i64 (i : Int)), (95, true, .int .i64 (es.length : Int)), (96, true, .int .i64 (z.1 : Int))])
      (fun z => Cls [row wD.heap.size z.2.O z.2.q (memK G h z.1).length z.2.c 3 1 (ints (memK G h z.1)), row wD.heap.size O0 (some ⟨g0, 0, none⟩) (hdI G es.length).length c0 3 1 (ints (hdI G es.length)), blk b9 3 (ints (tabI es.length fun y => cntL ((lpL P).take i) y + if (y : Int) ∈ memK G h z.1 then 1 else 0))] [wD, wF, w0, w]) (0, ⟨fun _ => False, none, 0⟩) (by simp) (by exact Sub.au) (fun w' hw' => by
        simp only [show memK G h 0 = [] from rfl, List.not_mem_nil, if_false, Int.add_zero]
        exact hw'.row_nil wD.heap.size 3 1) ?_
    rintro ⟨x, ⟨Om, qm, cm⟩⟩ hx
    simp only at hx ⊢
    have hkl := memK_len G h x
    apply W.sr
    apply obn; rfl; rfl; rfl; apply Bin.lss
    apply OL.nx
    apply W.seq
    (refine W.cnd (fun hlt2 => ?_) (fun hlt2 => ?_)) <;> (try (exfalso; first | omega | exact hlt2 trivial | contradiction))
    · have hxl : x < es.length := by omega
      have hsucc := memK_succ G h x
      have hxn : (x : Int) ∉ memK G h x := fun hm => by
        unfold memK at hm
        obtain ⟨y, hy, e⟩ := List.mem_map.1 hm
        have := List.mem_range.1 (List.mem_filter.1 hy).1
        omega
      have hcx := hcb x
      generalize memK G h x = xs at *
      have hrv2 : (ints (tabI es.length fun y => cntL ((lpL P).take i) y + if (y : Int) ∈ xs then 1 else 0))[0 + x * 1]? = some (.int .i64 (cntL ((lpL P).take i) x)) := by
        rw [show 0 + x * 1 = x by omega]
        refine ints_get ?_
        rw [tabI_get hxl, if_neg hxn, Int.add_zero]
      apply W.sk
      apply W.sb
      apply W.sr
      apply omv; rfl; rfl
      apply oas; rfl; rfl
      apply OL.nsr
      apply oop; rfl; apply Pev.load_keptA; rfl; exact yes; exact .tail _ (.tail _ (.head _)); rfl; intro hcond; assumption; rfl; intro hcond; assumption; intro hcond; exact NotOwned.au
      apply omv; rfl; rfl
      apply omv; rfl; rfl
      (((first | (with_reducible apply OL.op) | (with_reducible apply QL.op)); (exact Guard.au); rfl; rfl); (exact Pev.call (v := .bool (inlB G h x)) rfl (by exact Args.au) (fun _ w2 hw2 => (hIl h x w2 _ _ hw2 (by exact mau) (fun k hk => NotOwned.row (by omega) (NotOwned.row (by omega) (NotOwned.blk (by omega) NotOwned.nil))) hhn2 hxl).mono (fun e w3 h => ⟨h.1, hw2.ext h.2⟩))))
      apply OL.nx
      refine W.cond rfl (fun h3 => ?_) (fun h3 => ?_)
      · rw [if_pos h3] at hsucc
        apply W.sr
        apply omv; rfl; rfl
        apply omv; rfl; rfl
        apply OL.buildSlice; rfl; rfl; rfl; exact Elems.au; rfl; rfl; (intro bk hbk; simp only [AllLe, and_true] at hbk)
        apply OL.append; rfl; rfl; rfl; rfl; exact Hole.au; exact .head _; exact Take.au; rfl; rfl; exact ⟨_, .head _, Nat.le_refl _⟩; omega; intro O1 g1 cap1
        apply oas; rfl; rfl
        apply OL.nx
        apply W.reg
        apply omv; rfl; rfl
        apply omv; rfl; rfl
        apply oop; rfl; apply Pev.idxB; rfl; exact yes; rfl; exact yes; rfl; intro hcond; omega; rfl
        apply oop; rfl; apply Pev.load_blk; rfl; exact yes; apply List.Mem.tail; exact .tail _ (.tail _ (.head _)); rfl; assumption
        apply obn; rfl; rfl; rfl; apply Bin.add_in; omega
        apply oop; rfl; apply Pev.idxB; rfl; exact yes; rfl; exact yes; rfl; intro hcond; omega; rfl
        (apply OL.storeI); rfl; rfl; rfl; rfl; rfl; (exact Swap.au); (rw [ints_length, tabI_length]; omega)
        apply OL.nil
        with_reducible apply At.in_normal
        with_reducible apply At.next
        apply W.reg
        apply obn; rfl; rfl; rfl; apply Bin.add_in; omega
        apply omv; rfl; rfl
        apply OL.nil
        refine At.again (x + 1, ⟨O1, some ⟨g1, 0, none⟩, cap1⟩) (by simp only; omega) (by simp only; omega) (by simp only [hsucc, List.length_append, List.length_cons, List.length_nil]; exact Sub.au) (fun w' hw' => ?_)
        rw [show (0 + (x : Int).toNat * 1) = x by omega, ints_setE, tabI_set] at hw'
        simp only [hsucc, ints_append, List.length_append, List.length_cons, List.length_nil]
        rw [show (tabI es.length fun y => cntL ((lpL P).take i) y + if (y : Int) ∈ xs ++ [(x : Int)] then 1 else 0) = tabI es.length fun y => if y = x then cntL ((lpL P).take i) x + 1 else cntL ((lpL P).take i) y + if (y : Int) ∈ xs then 1 else 0 from tabI_congr fun y _ => by
          by_cases e : y = x
          · subst e
            rw [if_pos rfl, if_pos (by simp)]
          · rw [if_neg e]
            have h7 : ((y : Int) ∈ xs ++ [(x : Int)]) ↔ (y : Int) ∈ xs := by
              rw [List.mem_append, List.mem_singleton]
              exact ⟨fun h8 => h8.resolve_right (by omega), .inl⟩
            simp only [h7]]
        exact hw'.thin (.any (fun k hk => by rw [show k = bk from hk]; exact hA bk hbk.1) (.keep (.keep (.keep Thin.nil))))
      · rw [if_neg (by rw [h3]; decide), List.append_nil] at hsucc
        apply W.skip
        with_reducible apply At.in_normal
        with_reducible apply At.next
        apply W.reg
        apply obn; rfl; rfl; rfl; apply Bin.add_in; omega
        apply omv; rfl; rfl
        apply OL.nil
        exact At.again (x + 1, ⟨Om, qm, cm⟩) (by simp only; omega) (by simp only; omega) (by simp only [hsucc]; exact Sub.au) (fun w' hw' => by simp only [hsucc]; exact hw')
    · obtain rfl : x = es.length := by omega
      rw [show memK G h es.length = memL G h by rw [← hGl, memK_all]]
      obtain ⟨a, hqa, hab, hca⟩ := hSl (by rw [lpC_len]; omega)
      have hpm : P.getD i Lp0 ∈ P := by rw [List.getD_eq_getElem?_getD, List.getElem?_eq_getElem hil]; exact List.getElem_mem hil
      have hIm := hMm _ hpm
      have hca3 : CellsAt wF (a.add (i * 3)) [.int .i64 (h : Int), .slice (P.getD i Lp0).2.2.1 (memL G h).length (P.getD i Lp0).2.2.2, .int .i64 (parF (lpL P) i P.length)] := fun j v hj => by
        rw [add_add]
        refine hca (i * 3 + j) v (lpC_get _ P hil ?_)
        rw [← hj]
        unfold lpE
        rw [hh1, hh2]
      rw [hh2] at hIm
      have hml := memL_len G h
      have htk := cntL_take hLi
      simp only at htk
      generalize memL G h = m at *
      rw [hqa]
      refine W.xt ?_
      with_reducible apply At.next
      apply W.sr
      apply omv; rfl; rfl
      apply omv; rfl; rfl
      apply oop; rfl; apply Pev.idx; rfl; exact yes; rfl; exact yes; rfl; rfl; intro hcond; omega
      apply oop; rfl; apply Pev.fldA; rfl; exact yes; rfl
      apply oop; rfl; apply Pev.load_kept; rfl; exact yes; exact .tail _ (.head _); rfl; intro hcond; apply CellsAt.at_ (by assumption) rfl; intro hcond; (simp only [add_block]; assumption); intro hcond; exact NotOwned.au
      apply omv; rfl; rfl
      apply obn; rfl; rfl; rfl; apply Bin.neq
      apply omv; rfl; rfl
      apply ono; rfl; rfl; rfl; apply Pev.move; rfl; exact yes
      apply ono; rfl; rfl; rfl; apply Pev.move; rfl; exact yes
      apply ono; rfl; rfl; rfl; apply Pev.idx; rfl; exact fun h => h; rfl; exact fun h => h; rfl; rfl; intro hcond; omega
      apply ono; rfl; rfl; rfl; apply Pev.fldA; rfl; exact fun h => h; rfl
      apply ono; rfl; rfl; rfl; apply Pev.load_kept; rfl; exact fun h => h; exact .tail _ (.head _); rfl; intro hcond; apply CellsAt.at_ (by assumption) rfl; intro hcond; (simp only [add_block]; assumption); intro hcond; exact NotOwned.au
      apply ono; rfl; rfl; rfl; apply Pev.move; rfl; exact yes
      (((first | (with_reducible apply OL.op) | (with_reducible apply QL.op)); (exact Guard.au); rfl; rfl); (exact Pev.call (v := .bool true) rfl (by exact Args.au) (fun _ w2 hw2 => (SameInts_calls _ qm _ cm m m w2 (by omega) (by omega) (hIm.at hw2 (by exact mau) (fun k hk => NotOwned.row (by omega) (NotOwned.row (by omega) (NotOwned.blk (by omega) NotOwned.nil)))) (rowIntsL hw2 (.head _))).mono fun e w3 h => ⟨by rw [h.1]; simp, hw2.ext h.2⟩)))
      apply ono; rfl; rfl; rfl; apply Pev.not; rfl; exact fun h => h
      apply oop; rfl; apply Pev.pick_or; rfl; exact yes; rfl; exact fun h => h
      apply OL.nx
      refine W.cond rfl (fun h3 => by simp at h3) (fun _ => ?_)
      apply W.skip
      with_reducible apply At.in_normal
      with_reducible apply At.next
      apply W.reg
      apply obn; rfl; rfl; rfl; apply Bin.add_in; omega
      apply omv; rfl; rfl
      apply OL.nil
      refine At.again (i + 1) (by omega) (by omega) (by exact Sub.au) (fun w' hw' => ?_)
      rw [show tabI es.length (cntL ((lpL P).take (i + 1))) = tabI es.length fun y => cntL ((lpL P).take i) y + if (y : Int) ∈ m then 1 else 0 from tabI_congr fun y _ => htk y]
      exact hw'.thin (.any (fun k hk => hA k hk.1) (.keep (.keep Thin.nil)))
  obtain rfl : i = (hdI G es.length).length := by omega
  rw [hHP, List.take_of_length_le (by unfold lpL; rw [List.length_map]; omega), hP]
  refine W.xt ?_
  with_reducible apply At.next
  apply W.seq
  apply W.sr
  apply omv; rfl; rfl
  apply oop; rfl; apply Pev.len_slice; rfl; exact yes; rfl
  apply omv; rfl; rfl
  apply OL.nx
  apply W.block
  refine W.frzD (C' := fun w9 => Cls [] [w9, wD, wF, w0, w]) (fun w9 hc9 => (hc9.thin (.any (fun k hk => hA k hk.1) (.any (fun k hk => by rw [show k = b9 from hk]; exact hA b9 hb9) Thin.nil))).note) (fun w9 hc9 => ?_)
  have hI9 : IntsO w9 (low w9) (tabI es.length (cntL (lpsL G))) (some ⟨b9, 0, none⟩) := blkInts (hc9.item (by exact mau))
  have hD9 : wD.heap.size ≤ w9.heap.size := (hc9.kp wD (by exact mau)).size
  have hA9 : ∀ b, w9.heap.size ≤ b → AllLe [w9, wD, wF, w0, w] b := fun b hb => ⟨hb, hA b (Nat.le_trans hD9 hb)⟩
  have hat : ∀ i, i < P.length → ∃ a : Addr, qp = some a ∧ a.block < wF.heap.size ∧ ∃ h : Nat, CellsAt wF (a.add (i * 3)) [.int .i64 (h : Int), .slice (P.getD i Lp0).2.2.1 (P.getD i Lp0).2.1.length (P.getD i Lp0).2.2.2, .int .i64 (parF (lpL P) i P.length)] ∧ (P.getD i Lp0).1 = h := fun i hil => by
    obtain ⟨a, hqa, hab, hca⟩ := hSl (by rw [lpC_len]; omega)
    refine ⟨a, hqa, hab, (P.getD i Lp0).1, fun j v hj => ?_, rfl⟩
    rw [add_add]
    exact hca (i * 3 + j) v (lpC_get _ P hil hj)
  have hPn := lps_len hP
  refine W.loop (G := Nat) (fun i => i ≤ P.length) (fun i => P.length - i)
    (fun i => [(3, true, .slice qp P.length cp), (5, true, .slice (some ⟨bD, 0, none⟩) es.length es.length), (9, true, .slice (some ⟨b9, 0, none⟩) es.length es.length), (132, true, .slice qp P.length cp), (133, true, .int .i64 (P.length : Int)), (134, true, .int .i64 (i : Int))])
    (fun i => Cls [] [w9, wD, wF, w0, w]) 0 (by omega) (by exact Sub.au) (fun w' hw' => hw') ?_
  intro i hi
  apply W.sr
  apply obn; rfl; rfl; rfl; apply Bin.lss
  apply OL.nx
  apply W.seq
  (refine W.cnd (fun hlt => ?_) (fun hlt => ?_)) <;> (try (exfalso; first | omega | exact hlt trivial | contradiction))
  · have hil : i < P.length := by omega
    obtain ⟨a, hqa, hab, hd, hci, hhd⟩ := hat i hil
    rw [hqa]
    apply W.sk
    apply W.sb
    apply W.sr
    apply omv; rfl; rfl
    apply oop; rfl; apply Pev.idx; rfl; exact yes; rfl; exact yes; rfl; rfl; intro hcond; omega
    apply oop; rfl; apply Pev.load_keptA; rfl; exact yes; exact .tail _ (.tail _ (.head _)); rfl; intro hcond; assumption; rfl; intro hcond; (rw [add_block]; assumption); intro hcond; exact NotOwned.au
    apply OL.alloc; rfl; rfl; exact CellsL.agg; (intro bk hbk; simp only [AllLe, and_true] at hbk)
    apply oas; rfl; rfl
    apply OL.storeB; rfl; rfl; exact CellsL.agg; rfl; rfl; rfl; exact Swap.au; exact Put.au
    apply OL.nsr
    apply oas; rfl; rfl
    apply OL.nx
    apply W.seq
    apply W.sr
    apply omv; rfl; rfl
    apply oop; rfl; apply Pev.len_slice; rfl; exact yes; rfl
    apply omv; rfl; rfl
    apply OL.nx
    apply W.block
    revert bk
    intro b16 hb16x
    have hb16 : w9.heap.size ≤ b16 := by first | exact hb16x | exact hb16x.1
    refine W.loop (G := Nat) (fun j => j ≤ P.length) (fun j => P.length - j)
      (fun j => [(3, true, .slice (some a) P.length cp), (5, true, .slice (some ⟨bD, 0, none⟩) es.length es.length), (9, true, .slice (some ⟨b9, 0, none⟩) es.length es.length), (15, true, .int .i64 (i : Int)), (16, true, .pointer (some ⟨b16, 0, none⟩)), (17, true, .int .i64 (parF (lpL P) i j)), (132, true, .slice (some a) P.length cp), (133, true, .int .i64 (P.length : Int)), (134, true, .int .i64 (i : Int)), (139, true, .slice (some a) P.length cp), (140, true, .int .i64 (P.length : Int)), (141, true, .int .i64 (j : Int))])
      (fun j => Cls [blk b16 83 [.int .i64 (hd : Int), .slice (P.getD i Lp0).2.2.1 (P.getD i Lp0).2.1.length (P.getD i Lp0).2.2.2, .int .i64 (parF (lpL P) i P.length)]] [w9, wD, wF, w0, w]) 0 (by omega) (by exact Sub.au) (fun w' hw' => hw') ?_
    intro j hj
    apply W.sr
    apply obn; rfl; rfl; rfl; apply Bin.lss
    apply OL.nx
    apply W.seq
    (refine W.cnd (fun hlt2 => ?_) (fun hlt2 => ?_)) <;> (try (exfalso; first | omega | exact hlt2 trivial | contradiction))
    · have hjl : j < P.length := by omega
      obtain ⟨a', hqa', _, hdj, hcj, hhdj⟩ := hat j hjl
      rw [hqa] at hqa'
      obtain rfl := Option.some.inj hqa'
      have hpj : P.getD j Lp0 ∈ P := by rw [List.getD_eq_getElem?_getD, List.getElem?_eq_getElem hjl]; exact List.getElem_mem hjl
      have hmj : (P.getD j Lp0).2.1.length ≤ 1000000 := by
        obtain ⟨h', _, hm', _⟩ := lps_at hP hjl
        have := memL_len G h'
        rw [hm']
        omega
      have hb := parF_lt (lpL P) i j
      obtain ⟨a2, hq2, _, hd2, hcb2, _⟩ := hat (parF (lpL P) i j).toNat (by omega)
      rw [hqa] at hq2
      obtain rfl := Option.some.inj hq2
      apply W.sk
      apply W.sb
      apply W.sr
      apply omv; rfl; rfl
      apply oop; rfl; apply Pev.idx; rfl; exact yes; rfl; exact yes; rfl; rfl; intro hcond; omega
      apply oop; rfl; apply Pev.load_keptA; rfl; exact yes; exact .tail _ (.tail _ (.head _)); rfl; intro hcond; assumption; rfl; intro hcond; (rw [add_block]; assumption); intro hcond; exact NotOwned.au
      apply OL.alloc; rfl; rfl; exact CellsL.agg; (intro bk hbk; simp only [AllLe, and_true] at hbk)
      apply oas; rfl; rfl
      apply OL.storeB; rfl; rfl; exact CellsL.agg; rfl; rfl; rfl; exact Swap.au; exact Put.au
      apply OL.nx
      apply W.seq
      apply W.regd0; decide +kernel; kernel_rfl; decide +kernel; exact fun w hw => hw.drew
      apply qmv; rfl; rfl
      apply qmv; rfl; rfl
      apply qbn; rfl; rfl; rfl; apply Bin.neq
      apply qmv; rfl; rfl
      apply qy; rfl; rfl; rfl; apply Pev.fld; rfl; exact yes; rfl
      apply qy; rfl; rfl; rfl; apply Pev.load_blk; rfl; exact fun h => h; exact .head _; rfl; rfl
      apply qy; rfl; rfl; rfl; apply Pev.fld; rfl; exact yes; rfl
      apply qy; rfl; rfl; rfl; apply Pev.load_blk; rfl; exact fun h => h; exact .tail _ (.head _); rfl; rfl
      revert bk
      intro b19 hb19x
      have hb19 : w9.heap.size ≤ b19 := by first | exact hb19x | exact hb19x.1
      (((first | (with_reducible apply OL.op) | (with_reducible apply QL.op)); (exact Guard.au); rfl; rfl); (exact Pev.call (v := .bool (decide ((hd : Int) ∈ (P.getD j Lp0).2.1))) rfl (by exact Args.au) (fun _ w2 hw2 => (HasInt_calls _ _ (P.getD j Lp0).2.1 (hd : Int) w2 (by omega) ((hMm _ hpj).at hw2 (by exact mau) (fun k hk => NotOwned.blk (by omega) (NotOwned.blk (by omega) NotOwned.nil)))).mono (fun e w3 h => ⟨h.1, hw2.ext h.2⟩))))
      apply qop; rfl; apply Pev.pick_and; rfl; exact yes; rfl; exact fun h => h
      apply qmv; rfl; rfl
      apply qy; rfl; rfl; rfl; apply Pev.move; rfl; exact yes
      apply qy; rfl; rfl; rfl; apply Pev.bin; rfl; exact fun h => h; rfl; exact yes; intro hcond; apply Bin.lss
      apply qy; rfl; rfl; rfl; apply Pev.move; rfl; exact fun h => h
      apply QL.op; exact Guard.cno rfl rfl; rfl; rfl; apply Pev.fld; rfl; exact yes; rfl
      apply QL.op; exact Guard.cno rfl rfl; rfl; rfl; apply Pev.load_blk; rfl; exact fun h => h; exact .head _; rfl; rfl
      apply QL.op; exact Guard.cno rfl rfl; rfl; rfl; apply Pev.len_slice; rfl; exact fun h => h; rfl
      apply QL.op; exact Guard.cno rfl rfl; rfl; rfl; apply Pev.move; rfl; exact yes
      apply QL.op; exact Guard.cno rfl rfl; rfl; rfl; apply Pev.move; rfl; exact yes
      apply QL.op; exact Guard.cno rfl rfl; rfl; rfl; apply Pev.idxI; rfl; exact fun h => h; rfl; exact fun h => h; rfl; intro hcond; (simp only [Bool.and_eq_true, Bool.or_eq_true, Bool.not_eq_true', decide_eq_true_eq, decide_eq_false_iff_not] at hcond; omega)
      apply QL.op; exact Guard.cno rfl rfl; rfl; rfl; apply Pev.fldA; rfl; exact fun h => h; rfl
      apply QL.op; exact Guard.cno rfl rfl; rfl; rfl; apply Pev.load_kept; rfl; exact fun h => h; exact .tail _ (.tail _ (.head _)); rfl; intro hcond; apply CellsAt.at_ (by assumption) rfl; intro hcond; (simp only [add_block]; assumption); intro hcond; exact NotOwned.au
      apply QL.op; exact Guard.cno rfl rfl; rfl; rfl; apply Pev.len_slice; rfl; exact fun h => h; rfl
      apply QL.op; exact Guard.cno rfl rfl; rfl; rfl; apply Pev.bin; rfl; exact fun h => h; rfl; exact fun h => h; intro hcond; apply Bin.lss
      apply qy; rfl; rfl; rfl; apply Pev.pick_or; rfl; exact fun h => h; rfl; exact fun h => h
      apply qop; rfl; apply Pev.pick_and; rfl; exact yes; rfl; exact fun h => h
      apply QL.nil
      with_reducible apply At.next
      have hdi := lpL_get P hil
      have hdj := lpL_get P hjl
      have hdb := lpL_get P (show (parF (lpL P) i j).toNat < P.length by omega)
      have hbet : better (lpL P) i (parF (lpL P) i j) j = true ↔ (j ≠ i ∧ (hd : Int) ∈ (P.getD j Lp0).2.1) ∧ (parF (lpL P) i j < 0 ∨ (P.getD j Lp0).2.1.length < (P.getD (parF (lpL P) i j).toNat Lp0).2.1.length) := by
        unfold better
        rw [hdi, hdj, hdb, hhd]
        simp only [Bool.and_eq_true, Bool.or_eq_true, decide_eq_true_eq]
      have hnx : parF (lpL P) i (j + 1) = if better (lpL P) i (parF (lpL P) i j) j = true then (j : Int) else parF (lpL P) i j := rfl
      have hji : (j : Int) = (i : Int) ↔ j = i := by omega
      refine W.cond rfl (fun h3 => ?_) (fun h3 => ?_)
      · rw [if_pos (hbet.2 (by simpa [and_assoc, hji] using h3))] at hnx
        apply W.reg
        apply omv; rfl; rfl
        apply oas; rfl; rfl
        apply OL.nil
        with_reducible apply At.in_normal
        with_reducible apply At.next
        apply W.reg
        apply obn; rfl; rfl; rfl; apply Bin.add_in; omega
        apply omv; rfl; rfl
        apply OL.nil
        exact At.again (j + 1) (by omega) (by omega) (by rw [hnx]; exact Sub.au) (fun w' hw' => hw'.thin (.any (fun k hk => by rw [show k = b19 from hk]; exact hA9 b19 hb19) (.keep Thin.nil)))
      · rw [if_neg (fun h4 => by have h5 := hbet.1 h4; rcases h5.2 with h6 | h6 <;> exact absurd (by simp [-List.getD_eq_getElem?_getD, h5.1.1, h5.1.2, hji, h6]) (Bool.eq_false_iff.1 h3))] at hnx
        apply W.skip
        with_reducible apply At.in_normal
        with_reducible apply At.next
        apply W.reg
        apply obn; rfl; rfl; rfl; apply Bin.add_in; omega
        apply omv; rfl; rfl
        apply OL.nil
        exact At.again (j + 1) (by omega) (by omega) (by rw [hnx]; exact Sub.au) (fun w' hw' => hw'.thin (.any (fun k hk => by rw [show k = b19 from hk]; exact hA9 b19 hb19) (.keep Thin.nil)))
    · obtain rfl : j = P.length := by omega
      refine W.xt ?_
      with_reducible apply At.next
      apply W.sr
      apply ofa; rfl; rfl; rfl
      apply old; rfl; rfl; exact .head _; rfl; rfl
      apply omv; rfl; rfl
      apply obn; rfl; rfl; rfl; apply Bin.neq
      apply OL.nx
      refine W.cond rfl (fun h3 => by simp at h3) (fun _ => ?_)
      apply W.skip
      with_reducible apply At.in_normal
      with_reducible apply At.next
      apply W.reg
      apply obn; rfl; rfl; rfl; apply Bin.add_in; omega
      apply omv; rfl; rfl
      apply OL.nil
      exact At.again (i + 1) (by omega) (by omega) (by exact Sub.au) (fun w' hw' => hw'.thin (.any (fun k hk => by rw [show k = b16 from hk]; exact hA9 b16 hb16) Thin.nil))
  · obtain rfl : i = P.length := by omega
    refine W.xt ?_
    with_reducible apply At.next
    apply W.sr
    apply omv; rfl; rfl
    apply omv; rfl; rfl
    have hSm := fun w2 (h1 : IntsO w2 (low w2) (tabI es.length (cntL (lpsL G))) (some ⟨bD, 0, none⟩)) (h2 : IntsO w2 (low w2) (tabI es.length (cntL (lpsL G))) (some ⟨b9, 0, none⟩)) => SameInts_calls (some ⟨bD, 0, none⟩) (some ⟨b9, 0, none⟩) es.length es.length (tabI es.length (cntL (lpsL G))) (tabI es.length (cntL (lpsL G))) w2 (by rw [tabI_length]; omega) (by rw [tabI_length]; omega) h1 h2
    simp only [tabI_length] at hSm
    (((first | (with_reducible apply OL.op) | (with_reducible apply QL.op)); (exact Guard.au); rfl; rfl); (exact Pev.call (v := .bool true) rfl (by exact Args.au) (fun _ w2 hw2 => (hSm w2 (hDI.at hw2 (by exact mau) (fun k hk => NotOwned.nil)) (hI9.at hw2 (by exact mau) (fun k hk => NotOwned.nil))).mono fun e w3 h => ⟨by rw [h.1]; simp, hw2.ext h.2⟩)))
    apply oas; rfl; rfl
    apply OL.nx
    apply W.ret
    ((with_reducible apply At.fin1); rfl; rfl; intro w' hw')
    exact ⟨rfl, by (exact hw'.fr)⟩
end Go.Proofs.Ytehelljmaiophaa.ss

/- The law LoopsFinds: the answer is true. Conditions: none. -/
namespace Go.Proofs.Ytehelljmaiophaa.ss
set_option linter.unusedVariables false
set_option linter.unusedSimpArgs false
open Go.Eng Go.RowKit Go.Ss
theorem loopsFinds_law (fn : Go.Ss.Fn) (y : FnY) (w : World) (hfn : FnOk w (low w) fn y) :
    Calls Try.prog 10 [.agg (fnC fn y).toArray].toArray w fun e w' => e = .returned (.bool true) ∧ Ext w w' := loopsFinds_of loopsWorks_calls fn y w hfn
end Go.Proofs.Ytehelljmaiophaa.ss

/- Readings with the reach: what a slice's and a struct's parts are, and how much they weigh at most. General. No condition. -/
namespace Go.Eng
set_option linter.unusedVariables false
set_option linter.unusedSimpArgs false
open Go.RowKit Go.ChangeShapes Go.WideShapes Go.ChangeAt
set_option linter.unusedVariables false
set_option linter.unusedSimpArgs false
section
variable {H : Type} {enc : TypeId × Value → H} {P : Program} {w : World} {spare : Nat → Bool} {held : Bool}

/-- a datum within reach -/
def Lt (P : Program) (t : TypeId) (d : DataW H) : Prop := ∀ n ∈ d.weights P t, n ≤ reachBytes
theorem weightsAll_mem {e : TypeId} : ∀ {ds : List (DataW H)} {d : DataW H}, d ∈ ds → ∀ n ∈ d.weights P e, n ∈ DataW.weightsAll P e ds
  | x :: ds, d, hd, n, hn => by
    simp only [DataW.weightsAll, List.mem_append]
    rcases List.mem_cons.1 hd with rfl | hd
    · exact .inl hn
    · exact .inr (weightsAll_mem hd n hn)
theorem Lt.arg {ts : List TypeId} {ds : List (DataW H)} (h : (DataW.weightsEach P ts ds).all (· ≤ reachBytes) = true) {j : Nat} {t : TypeId} {d : DataW H} (ht : ts[j]? = some t) (hd : ds[j]? = some d) : Lt P t d := fun n hn => by
  have := List.all_eq_true.1 h _ (DataW.weights_mem_each ht hd n hn)
  simpa using this
theorem Lt.str {t : TypeId} {b : List UInt8} (h : Lt (H := H) P t (.lit (.string b))) : b.length ≤ reachBytes := h b.length (by simp [DataW.weights])

/-- a struct that reads -/
theorem rd_struct {t : TypeId} {fs : Array Field} {fuel : Nat} {cs : List Value} {x : DataW H × List MemPlace} (ht : P.underlying t = some (.struct fs)) (h : DataW.trod enc P w 0 spare held fuel t cs = some x) (hw : Lt P t x.1) :
    cs.length = P.cellsOf t ∧ ∃ n, n < fuel ∧ ∀ (i : Nat) (f : Field), fs[i]? = some f → ∃ y, DataW.trod enc P w 0 spare held n f.type ((cs.drop f.offset).take (P.cellsOf f.type)) = some y ∧ Lt P f.type y.1 := by
  obtain ⟨xs, n, hfu, rfl, hlen, hxl, hf⟩ := DataW.trod_struct ht h
  refine ⟨hlen, n, by omega, fun i f hi => ?_⟩
  have hlt : i < xs.length := by rw [hxl]; exact (Array.getElem?_eq_some_iff.1 hi).1
  refine ⟨xs[i], by rw [hf i f hi, List.getElem?_eq_getElem hlt], fun k hk => hw k ?_⟩
  simp only [DataW.weights, ht]
  exact DataW.weights_mem_each (j := i) (t := f.type) (d := xs[i].1) (by simpa using ⟨f, by simpa using hi, rfl⟩) (by simp [hlt]) k hk
/-- a slice that reads -/
theorem rd_slice0 {t e : TypeId} {sz fuel : Nat} {cs : List Value} {x : DataW H × List MemPlace} (ht : P.underlying t = some (.slice e)) (hs : P.cellsOf e = sz) (h : DataW.trod enc P w 0 spare held fuel t cs = some x) (hw : Lt P t x.1) :
    ∃ (q : Option Addr) (len cap : Nat), cs = [.slice q len cap] ∧ len ≤ cap ∧ cap ≤ maxLen ∧ len * P.bytesOf e ≤ reachBytes ∧ (q = none → len = 0) ∧
      ∃ n, n < fuel ∧ ∀ a, q = some a → ∀ i, i < len → ∃ cs' y, CellsAt w (a.add (i * sz)) cs' ∧ cs'.length = sz ∧ DataW.trod enc P w 0 spare held n e cs' = some y ∧ Lt P e y.1 := by
  rcases DataW.trod_slice ht h with ⟨rfl, _⟩ | ⟨a, len, cap, elems, rest, n, hf, rfl, rfl, _, hl, hm, hlen, hel, _, _⟩
  · refine ⟨none, 0, 0, rfl, Nat.le_refl _, by simp [maxLen], by simp, fun _ => rfl, 0, ?_, fun a ha => by cases ha⟩
    cases fuel with
    | zero => simp [DataW.trod] at h
    | succ n => omega
  · have hwt : len * P.bytesOf e ≤ reachBytes := by
      have h1 := hw ((elems.map (·.1)).length * P.bytesOf e + (rest.map (·.1)).length * P.bytesOf e) (by simp [DataW.weights, ht, Nat.add_mul])
      rw [List.length_map, hlen] at h1
      omega
    refine ⟨some a, len, cap, rfl, hl, hm, hwt, (fun hn => by cases hn), n, by omega, fun a' ha i hi => ?_⟩
    obtain rfl := Option.some.inj ha
    have h1 := hel i hi
    rw [List.getElem?_eq_getElem (by omega)] at h1
    rw [hs] at h1
    obtain ⟨cs', hc, ht'⟩ := Option.bind_eq_some_iff.1 h1
    obtain ⟨h2, h3⟩ := cellsAt_of hc
    refine ⟨cs', _, h2, h3, ht', fun k hk => hw k ?_⟩
    simp only [DataW.weights, ht]
    exact List.mem_cons_of_mem _ (List.mem_append_left _ (weightsAll_mem (d := elems[i].1) (List.mem_map.2 ⟨_, List.getElem_mem (by omega), rfl⟩) k hk))
variable {α : Type} {f : α → List Value} {sz : Nat} {R : α → Prop}
/-- a slice whose elements read, as a list -/
theorem rd_slice {t e : TypeId} {fuel : Nat} {cs : List Value} {x : DataW H × List MemPlace} (ht : P.underlying t = some (.slice e)) (hs : P.cellsOf e = sz) (hsz : 0 < sz) (hf : ∀ x, (f x).length = sz)
    (he : ∀ (n : Nat) (cs' : List Value) (y : DataW H × List MemPlace), n < fuel → DataW.trod enc P w 0 spare held n e cs' = some y → Lt P e y.1 → ∃ u : α, cs' = f u ∧ R u)
    (h : DataW.trod enc P w 0 spare held fuel t cs = some x) (hw : Lt P t x.1) :
    ∃ (q : Option Addr) (l : List α) (cap : Nat), cs = [.slice q l.length cap] ∧ l.length ≤ cap ∧ cap ≤ maxLen ∧ l.length * P.bytesOf e ≤ reachBytes ∧ SlAt w w.heap.size q (cat f l) ∧ ∀ u ∈ l, R u := by
  obtain ⟨q, len, cap, rfl, hle, hcap, hwt, hq0, m, hm, hel⟩ := rd_slice0 ht hs h hw
  cases q with
  | none =>
    obtain rfl := hq0 rfl
    exact ⟨none, [], cap, rfl, hle, hcap, by simp, SlAt.nil, fun u hu => by cases hu⟩
  | some a =>
    obtain ⟨l, hl, hr⟩ := list_of (fun i (u : α) => CellsAt w (a.add (i * sz)) (f u) ∧ R u) len (fun i hi => by
      obtain ⟨cs', y, hc, hl1, ht', hy⟩ := hel a rfl i hi
      obtain ⟨u, rfl, hR⟩ := he m cs' y hm ht' hy
      exact ⟨u, hc, hR⟩)
    subst hl
    refine ⟨some a, l, cap, rfl, hle, hcap, hwt, fun hv => ⟨a, rfl, ?_, fun j v hj => ?_⟩, fun u hu => ?_⟩
    · rw [cat_length hf] at hv
      have hl0 : 0 < l.length := Nat.pos_of_mul_pos_right hv
      have h0 := (hr 0 _ (List.getElem?_eq_getElem hl0)).1
      rw [Nat.zero_mul, add_zero_] at h0
      have hz : 0 < (f l[0]).length := by rw [hf]; exact hsz
      have := h0 0 _ (List.getElem?_eq_getElem hz)
      rw [add_zero_] at this
      exact cell_lt this
    · have hjl := (List.getElem?_eq_some_iff.1 hj).1
      rw [cat_length hf] at hjl
      have hi : j / sz < l.length := Nat.div_lt_of_lt_mul (by rwa [Nat.mul_comm] at hjl)
      have h0 := (hr (j / sz) _ (List.getElem?_eq_getElem hi)).1
      have hm' : j % sz < (f l[j / sz]).length := by rw [hf]; exact Nat.mod_lt _ hsz
      have h1 := cat_get hf (List.getElem?_eq_getElem hi) (j % sz) _ (List.getElem?_eq_getElem hm')
      have ej : j / sz * sz + j % sz = j := by rw [Nat.mul_comm]; exact Nat.div_add_mod j sz
      rw [ej, hj] at h1
      have h2 := h0 (j % sz) _ (List.getElem?_eq_getElem hm')
      rw [add_add, ej] at h2
      rw [h2, h1]
    · obtain ⟨i, hi, rfl⟩ := List.getElem_of_mem hu
      exact (hr i _ (List.getElem?_eq_getElem hi)).2
end
end Go.Eng

/- Readings with the reach, as relations. General. No condition. Readings of functions in single assignment form. No condition. (Printed by ssw.py.) -/
namespace Go.Eng
set_option linter.unusedVariables false
set_option linter.unusedSimpArgs false
open Go.RowKit Go.ChangeShapes Go.WideShapes Go.ChangeAt
set_option linter.unusedVariables false
set_option linter.unusedSimpArgs false
section
variable {H : Type} {enc : TypeId × Value → H} {P : Program} {w : World} {spare : Nat → Bool} {held : Bool} {α μ : Type} {R : Rel α μ}
theorem rd_arrL {t e : TypeId} {fuel : Nat} {cs : List Value} {x : DataW H × List MemPlace} (ht : P.underlying t = some (.slice e)) (hs : P.cellsOf e = R.sz)
    (he : ∀ (n : Nat) (cs' : List Value) (y : DataW H × List MemPlace), n < fuel → DataW.trod enc P w 0 spare held n e cs' = some y → Lt P e y.1 → ∃ u : α × μ, cs' = R.c u ∧ R.ok w (low w) u.1 u.2)
    (h : DataW.trod enc P w 0 spare held fuel t cs = some x) (hw : Lt P t x.1) :
    ∃ (q : Option Addr) (l : List (α × μ)) (cap : Nat), cs = [.slice q l.length cap] ∧ l.length ≤ cap ∧ cap ≤ maxLen ∧ l.length * P.bytesOf e ≤ reachBytes ∧ Arr R w (low w) l q := by
  obtain ⟨q, l, cap, e1, h1, h2, h3, h4, h5⟩ := rd_slice (α := α × μ) (f := R.c) (R := fun u => R.ok w (low w) u.1 u.2) ht hs R.pos R.clen he h hw
  exact ⟨q, l, cap, e1, h1, h2, h3, fun hl => h4 (by rw [cat_length (f := R.c) R.clen]; exact Nat.mul_pos hl R.pos), h5⟩
end
end Go.Eng
namespace Go.Proofs.Ytehelljmaiophaa.ss
set_option linter.unusedVariables false
set_option linter.unusedSimpArgs false
open Go.RowKit Go.Eng Go.Ss Go.ChangeShapes Go.WideShapes Go.ChangeAt
set_option linter.unusedVariables false
set_option linter.unusedSimpArgs false
set_option maxRecDepth 100000
section
variable {H : Type} {enc : TypeId × Value → H} {w : World} {spare : Nat → Bool} {held : Bool}
theorem list2 {α : Type} {l : List α} (h : l.length = 2) : ∃ a0 a1, l = [a0, a1] := by
  match l, h with
  | [a0, a1], _ => exact ⟨a0, a1, rfl⟩
theorem list4 {α : Type} {l : List α} (h : l.length = 4) : ∃ a0 a1 a2 a3, l = [a0, a1, a2, a3] := by
  match l, h with
  | [a0, a1, a2, a3], _ => exact ⟨a0, a1, a2, a3, rfl⟩
theorem list5 {α : Type} {l : List α} (h : l.length = 5) : ∃ a0 a1 a2 a3 a4, l = [a0, a1, a2, a3, a4] := by
  match l, h with
  | [a0, a1, a2, a3, a4], _ => exact ⟨a0, a1, a2, a3, a4, rfl⟩
theorem list7 {α : Type} {l : List α} (h : l.length = 7) : ∃ a0 a1 a2 a3 a4 a5 a6, l = [a0, a1, a2, a3, a4, a5, a6] := by
  match l, h with
  | [a0, a1, a2, a3, a4, a5, a6], _ => exact ⟨a0, a1, a2, a3, a4, a5, a6, rfl⟩
theorem reach47 : reachBytes ≤ 140737488355328 := by decide
theorem cat_ints (l : List Int) : cat (fun x : Int => [Value.int .i64 x]) l = ints l := by
  induction l with
  | nil => rfl
  | cons x r ih =>
    show [Value.int .i64 x] ++ cat (fun x : Int => [Value.int .i64 x]) r = _
    rw [ih]
    rfl
theorem ints_rd {fuel : Nat} {cs : List Value} {x : DataW H × List MemPlace} (h : DataW.trod enc Try.prog w 0 spare held fuel 35 cs = some x) (hw : Lt Try.prog 35 x.1) :
    ∃ (q : Option Addr) (l : List Int) (cap : Nat), cs = [.slice q l.length cap] ∧ l.length ≤ cap ∧ l.length ≤ 140737488355328 ∧ IntsO w (low w) l q ∧ ∀ n ∈ l, I64 n := by
  obtain ⟨q, l, cap, e1, h1, h2, h3, h4, h5⟩ := rd_slice (α := Int) (f := fun x => [Value.int .i64 x]) (R := fun n => I64 n) Try.underlying35 (by kernel_rfl) (by decide) (fun _ => rfl) (fun n cs' y _ hy _ => by
    obtain ⟨k, e1, hk⟩ := DataW.trod_int Try.underlying3 hy
    exact ⟨k, e1, wf_i64 hk.2⟩) h hw
  rw [cat_ints] at h4
  have hb : Try.prog.bytesOf 3 = 8 := by kernel_rfl
  rw [hb] at h3
  have := reach47
  exact ⟨q, l, cap, e1, h1, by omega, fun hl => h4 (by rw [ints_length]; exact hl), h5⟩
theorem ed_rd {fuel : Nat} {cs : List Value} {x : DataW H × List MemPlace} (h : DataW.trod enc Try.prog w 0 spare held fuel 105 cs = some x) (hw : Lt Try.prog 105 x.1) : ∃ u : Ed × Sc, cs = edC u.1 u.2 ∧ edR.ok w (low w) u.1 u.2 := by
  obtain ⟨hlen, n, hn, hf⟩ := rd_struct Try.underlying105 h hw
  rw [show Try.prog.cellsOf 105 = 2 by kernel_rfl] at hlen
  obtain ⟨a0, a1, rfl⟩ := list2 hlen
  obtain ⟨y0, g0, w0⟩ := hf 0 _ rfl
  obtain ⟨y1, g1, w1⟩ := hf 1 _ rfl
  change DataW.trod enc Try.prog w 0 spare held n 3 ((List.drop 0 [a0, a1]).take (Try.prog.cellsOf 3)) = some y0 at g0
  change DataW.trod enc Try.prog w 0 spare held n 35 ((List.drop 1 [a0, a1]).take (Try.prog.cellsOf 35)) = some y1 at g1
  rw [show Try.prog.cellsOf 3 = 1 by kernel_rfl] at g0
  rw [show Try.prog.cellsOf 35 = 1 by kernel_rfl] at g1
  obtain ⟨i0, e0, j0⟩ := DataW.trod_int Try.underlying3 g0
  obtain ⟨q1, l1, c1, e1, b1, m1, n1, o1⟩ := ints_rd g1 w1
  have h47 := reach47
  simp [tmC] at e0 e1
  refine ⟨(⟨i0, l1⟩, (q1, c1)), ?_, ⟨wf_i64 j0.2, ⟨m1, b1⟩, n1, o1⟩⟩
  simp [edC, e0, e1]
theorem tm_rd {fuel : Nat} {cs : List Value} {x : DataW H × List MemPlace} (h : DataW.trod enc Try.prog w 0 spare held fuel 39 cs = some x) (hw : Lt Try.prog 39 x.1) : ∃ u : Tm × TmY, cs = tmC u.1 u.2 ∧ TmOk w (low w) u.1 u.2 := by
  obtain ⟨hlen, n, hn, hf⟩ := rd_struct Try.underlying39 h hw
  rw [show Try.prog.cellsOf 39 = 5 by kernel_rfl] at hlen
  obtain ⟨a0, a1, a2, a3, a4, rfl⟩ := list5 hlen
  obtain ⟨y0, g0, w0⟩ := hf 0 _ rfl
  obtain ⟨y1, g1, w1⟩ := hf 1 _ rfl
  obtain ⟨y2, g2, w2⟩ := hf 2 _ rfl
  obtain ⟨y3, g3, w3⟩ := hf 3 _ rfl
  obtain ⟨y4, g4, w4⟩ := hf 4 _ rfl
  change DataW.trod enc Try.prog w 0 spare held n 3 ((List.drop 0 [a0, a1, a2, a3, a4]).take (Try.prog.cellsOf 3)) = some y0 at g0
  change DataW.trod enc Try.prog w 0 spare held n 3 ((List.drop 1 [a0, a1, a2, a3, a4]).take (Try.prog.cellsOf 3)) = some y1 at g1
  change DataW.trod enc Try.prog w 0 spare held n 3 ((List.drop 2 [a0, a1, a2, a3, a4]).take (Try.prog.cellsOf 3)) = some y2 at g2
  change DataW.trod enc Try.prog w 0 spare held n 35 ((List.drop 3 [a0, a1, a2, a3, a4]).take (Try.prog.cellsOf 35)) = some y3 at g3
  change DataW.trod enc Try.prog w 0 spare held n 37 ((List.drop 4 [a0, a1, a2, a3, a4]).take (Try.prog.cellsOf 37)) = some y4 at g4
  rw [show Try.prog.cellsOf 3 = 1 by kernel_rfl] at g0 g1 g2
  rw [show Try.prog.cellsOf 35 = 1 by kernel_rfl] at g3
  rw [show Try.prog.cellsOf 37 = 1 by kernel_rfl] at g4
  obtain ⟨i0, e0, j0⟩ := DataW.trod_int Try.underlying3 g0
  obtain ⟨i1, e1, j1⟩ := DataW.trod_int Try.underlying3 g1
  obtain ⟨i2, e2, j2⟩ := DataW.trod_int Try.underlying3 g2
  obtain ⟨q3, l3, c3, e3, b3, m3, n3, o3⟩ := ints_rd g3 w3
  obtain ⟨q4, l4, c4, e4, b4, m4, n4, o4⟩ := rd_arrL (R := edR) Try.underlying37 (by kernel_rfl) (fun n cs' y _ hy hwy => ed_rd hy hwy) g4 w4
  rw [show Try.prog.bytesOf 105 = 32 by kernel_rfl] at n4
  have h47 := reach47
  simp [tmC] at e0 e1 e2 e3 e4
  refine ⟨(⟨i0, i1, i2, l3, l4.map Prod.fst⟩, ⟨(q3, c3), (q4, c4)⟩), ?_, ⟨wf_i64 j0.2, wf_i64 j1.2, wf_i64 j2.2, m3, by simp only [List.length_map]; omega, b3, by simp only [List.length_map]; exact b4, n3, o3, ⟨l4, rfl, o4⟩⟩⟩
  simp [tmC, e0, e1, e2, e3, e4]
theorem in_rd {fuel : Nat} {cs : List Value} {x : DataW H × List MemPlace} (h : DataW.trod enc Try.prog w 0 spare held fuel 85 cs = some x) (hw : Lt Try.prog 85 x.1) : ∃ u : In × Sc, cs = inC u.1 u.2 ∧ InOk w (low w) u.1 u.2 := by
  obtain ⟨hlen, n, hn, hf⟩ := rd_struct Try.underlying85 h hw
  rw [show Try.prog.cellsOf 85 = 4 by kernel_rfl] at hlen
  obtain ⟨a0, a1, a2, a3, rfl⟩ := list4 hlen
  obtain ⟨y0, g0, w0⟩ := hf 0 _ rfl
  obtain ⟨y1, g1, w1⟩ := hf 1 _ rfl
  obtain ⟨y2, g2, w2⟩ := hf 2 _ rfl
  obtain ⟨y3, g3, w3⟩ := hf 3 _ rfl
  change DataW.trod enc Try.prog w 0 spare held n 3 ((List.drop 0 [a0, a1, a2, a3]).take (Try.prog.cellsOf 3)) = some y0 at g0
  change DataW.trod enc Try.prog w 0 spare held n 3 ((List.drop 1 [a0, a1, a2, a3]).take (Try.prog.cellsOf 3)) = some y1 at g1
  change DataW.trod enc Try.prog w 0 spare held n 3 ((List.drop 2 [a0, a1, a2, a3]).take (Try.prog.cellsOf 3)) = some y2 at g2
  change DataW.trod enc Try.prog w 0 spare held n 35 ((List.drop 3 [a0, a1, a2, a3]).take (Try.prog.cellsOf 35)) = some y3 at g3
  rw [show Try.prog.cellsOf 3 = 1 by kernel_rfl] at g0 g1 g2
  rw [show Try.prog.cellsOf 35 = 1 by kernel_rfl] at g3
  obtain ⟨i0, e0, j0⟩ := DataW.trod_int Try.underlying3 g0
  obtain ⟨i1, e1, j1⟩ := DataW.trod_int Try.underlying3 g1
  obtain ⟨i2, e2, j2⟩ := DataW.trod_int Try.underlying3 g2
  obtain ⟨q3, l3, c3, e3, b3, m3, n3, o3⟩ := ints_rd g3 w3
  have h47 := reach47
  simp [tmC] at e0 e1 e2 e3
  refine ⟨(⟨i0, i1, i2, l3⟩, (q3, c3)), ?_, ⟨wf_i64 j0.2, wf_i64 j1.2, wf_i64 j2.2, m3, b3, n3, o3⟩⟩
  simp [inC, e0, e1, e2, e3]
theorem bk_rd {fuel : Nat} {cs : List Value} {x : DataW H × List MemPlace} (h : DataW.trod enc Try.prog w 0 spare held fuel 41 cs = some x) (hw : Lt Try.prog 41 x.1) : ∃ u : Bk × BkY, cs = bkC u.1 u.2 ∧ BkOk w (low w) u.1 u.2 := by
  obtain ⟨hlen, n, hn, hf⟩ := rd_struct Try.underlying41 h hw
  rw [show Try.prog.cellsOf 41 = 7 by kernel_rfl] at hlen
  obtain ⟨a0, a1, a2, a3, a4, a5, a6, rfl⟩ := list7 hlen
  obtain ⟨y0, g0, w0⟩ := hf 0 _ rfl
  obtain ⟨y1, g1, w1⟩ := hf 1 _ rfl
  obtain ⟨y2, g2, w2⟩ := hf 2 _ rfl
  change DataW.trod enc Try.prog w 0 spare held n 35 ((List.drop 0 [a0, a1, a2, a3, a4, a5, a6]).take (Try.prog.cellsOf 35)) = some y0 at g0
  change DataW.trod enc Try.prog w 0 spare held n 36 ((List.drop 1 [a0, a1, a2, a3, a4, a5, a6]).take (Try.prog.cellsOf 36)) = some y1 at g1
  change DataW.trod enc Try.prog w 0 spare held n 39 ((List.drop 2 [a0, a1, a2, a3, a4, a5, a6]).take (Try.prog.cellsOf 39)) = some y2 at g2
  rw [show Try.prog.cellsOf 35 = 1 by kernel_rfl] at g0
  rw [show Try.prog.cellsOf 36 = 1 by kernel_rfl] at g1
  rw [show Try.prog.cellsOf 39 = 5 by kernel_rfl] at g2
  obtain ⟨q0, l0, c0, e0, b0, m0, n0, o0⟩ := ints_rd g0 w0
  obtain ⟨q1, l1, c1, e1, b1, m1, n1, o1⟩ := rd_arrL (R := inR) Try.underlying36 (by kernel_rfl) (fun n cs' y _ hy hwy => in_rd hy hwy) g1 w1
  rw [show Try.prog.bytesOf 85 = 48 by kernel_rfl] at n1
  obtain ⟨u2, e2, o2⟩ := tm_rd g2 w2
  have h47 := reach47
  simp [tmC] at e0 e1 e2
  refine ⟨(⟨l0, l1.map Prod.fst, u2.1⟩, ⟨(q0, c0), (q1, c1), u2.2⟩), ?_, ⟨m0, by simp only [List.length_map]; omega, b0, by simp only [List.length_map]; exact b1, n0, o0, ⟨l1, rfl, o1⟩, o2⟩⟩
  simp [bkC, e0, e1, e2]
theorem fn_rd {fuel : Nat} {cs : List Value} {x : DataW H × List MemPlace} (h : DataW.trod enc Try.prog w 0 spare held fuel 24 cs = some x) (hw : Lt Try.prog 24 x.1) : ∃ u : Go.Ss.Fn × FnY, cs = fnC u.1 u.2 ∧ FnOk w (low w) u.1 u.2 := by
  obtain ⟨hlen, n, hn, hf⟩ := rd_struct Try.underlying24 h hw
  rw [show Try.prog.cellsOf 24 = 2 by kernel_rfl] at hlen
  obtain ⟨a0, a1, rfl⟩ := list2 hlen
  obtain ⟨y0, g0, w0⟩ := hf 0 _ rfl
  obtain ⟨y1, g1, w1⟩ := hf 1 _ rfl
  change DataW.trod enc Try.prog w 0 spare held n 3 ((List.drop 0 [a0, a1]).take (Try.prog.cellsOf 3)) = some y0 at g0
  change DataW.trod enc Try.prog w 0 spare held n 22 ((List.drop 1 [a0, a1]).take (Try.prog.cellsOf 22)) = some y1 at g1
  rw [show Try.prog.cellsOf 3 = 1 by kernel_rfl] at g0
  rw [show Try.prog.cellsOf 22 = 1 by kernel_rfl] at g1
  obtain ⟨i0, e0, j0⟩ := DataW.trod_int Try.underlying3 g0
  obtain ⟨q1, l1, c1, e1, b1, m1, n1, o1⟩ := rd_arrL (R := bkR) Try.underlying22 (by kernel_rfl) (fun n cs' y _ hy hwy => bk_rd hy hwy) g1 w1
  rw [show Try.prog.bytesOf 41 = 120 by kernel_rfl] at n1
  have h47 := reach47
  simp [tmC] at e0 e1
  refine ⟨(⟨i0, l1.map Prod.fst⟩, ⟨q1, c1⟩), ?_, ⟨wf_i64 j0.2, by simp only [List.length_map]; omega, by simp only [List.length_map]; exact b1, ⟨l1, rfl, o1⟩⟩⟩
  simp [fnC, e0, e1]
end
end Go.Proofs.Ytehelljmaiophaa.ss
