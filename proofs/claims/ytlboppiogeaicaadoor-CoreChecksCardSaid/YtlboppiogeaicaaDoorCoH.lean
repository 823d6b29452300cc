/- The walk of core's Grow. Conditions: none. (Printed by coh.py.) -/
import Derived.Test.YtlboppiogeaicaaDoorCoG
import Derived.Test.YtlboppiogeaicaaDoorAny
import Derived.Test.YtlboppiogeaicaaDoorMake
namespace Go.Co
open Go.Eng Go.RowKit
set_option linter.unusedVariables false
set_option linter.unusedSimpArgs false
def nds (tb : Nat → Nat) (i n : Nat) : List Value := (List.range n).map fun k => if k < i then .pointer (some ⟨tb k, 0, none⟩) else .pointer none
theorem nds_length (tb : Nat → Nat) (i n : Nat) : (nds tb i n).length = n := by simp [nds]
theorem nds_zero (tb : Nat → Nat) (n : Nat) : List.replicate n (Value.pointer none) = nds tb 0 n := by
  refine List.ext_getElem? fun k => ?_
  by_cases h : k < n
  · simp [nds, List.getElem?_replicate, h]
  · simp [nds, List.getElem?_replicate, h]
theorem nds_get {tb : Nat → Nat} {i n k : Nat} (hk : k < i) (hn : k < n) : (nds tb i n)[k]? = some (.pointer (some ⟨tb k, 0, none⟩)) := by simp [nds, hk, hn]
theorem nds_set {tb : Nat → Nat} {i n b : Nat} (hi : i < n) : (nds tb i n).set i (.pointer (some ⟨b, 0, none⟩)) = nds (fun k => if k = i then b else tb k) (i + 1) n := by
  refine List.ext_getElem? fun k => ?_
  rw [List.getElem?_set]
  by_cases h : i = k
  · subst h
    simp [nds, hi]
  · rw [if_neg h]
    have h2 : ¬ k = i := fun e => h e.symm
    by_cases hk : k < n
    · have : (k < i) = (k < i + 1) := by simp; omega
      simp [nds, hk, h2, this]
    · rw [List.getElem?_eq_none (by rw [nds_length]; omega), List.getElem?_eq_none (by rw [nds_length]; omega)]
def kp (tb : Nat → Nat) (l : List Int) : List Nat := l.map fun k => tb k.toNat
def alSl (a : Al × Sc) : Sl := ⟨a.2.1, a.2.2, ints a.1.binds⟩
end Go.Co
namespace Go.Proofs.YtlboppiogeaicaaDoor.co
open Go.RowKit Go.Eng Go.Co
set_option linter.unusedVariables false
set_option linter.unusedSimpArgs false
set_option maxRecDepth 100000
structure XG (S : List World) (n B : Nat) where
  O : Nat → Prop
  q : Option Addr
  c : Nat
  hc : n ≤ c
  bt : Nat
  hbt : B ≤ bt
  g1 : Nat
  c1 : Nat
  O1 : Nat → Prop
  b1 : Nat
  hb1 : B ≤ b1
  old : Nat → Value
theorem Grow_calls (es : List (Ex × ExY)) (q : Option Addr) (cap : Nat) (w : World) (he : Arr exR w (low w) es q) (hlen : es.length ≤ 4096) (h0 : 0 < es.length) (hd : Down (es.map Prod.fst)) (hlim : ∀ p ∈ es, Lim p.1) (hkl : ∀ p ∈ es, p.1.kids.length ≤ 4096) :
    Calls Tryd.prog 49 [.slice q es.length cap].toArray w fun e w' => ∃ b, e = .returned (.pointer (some ⟨b, 0, none⟩)) ∧ Ext w w' ∧ TrO w' (low w') (grow (es.map Prod.fst) (es.length - 1)) b := by
  obtain ⟨e, hee⟩ : ∃ e, es.map Prod.fst = e := ⟨_, rfl⟩
  have hel : e.length = es.length := by rw [← hee, List.length_map]
  rw [hee] at hd ⊢
  have hget : ∀ {i : Nat}, i < es.length → ∃ a p, q = some a ∧ a.block < w.heap.size ∧ es[i]? = some p ∧ e[i]? = some p.1 ∧ CellsAt w (a.add (i * 5)) [.int .i64 p.1.op, .int .i64 p.1.n, .slice p.2.b.1 p.1.binds.length p.2.b.2, .slice p.2.k.1 p.1.kids.length p.2.k.2, .slice p.2.a.1 p.1.alts.length p.2.a.2] ∧ ExOk w (low w) p.1 p.2 := fun {i} hi => by
    obtain ⟨a, p, h1, h2, h3, h4, h5⟩ := he.get hi
    exact ⟨a, p, h1, h2, h3, by rw [← hee, List.getElem?_map, h3]; rfl, h4, h5⟩
  refine enter Tryd.func49 rfl Tryd.ntmps49 rfl (Cls.start w) ?_
  (simp only [argEnv, Nat.zero_add, Nat.reduceAdd])
  apply W.seq
  apply W.reg
  apply oas; rfl; rfl
  apply OL.nil
  with_reducible apply At.next
  apply W.seq
  apply W.reg
  apply omv; rfl; rfl
  apply OL.op; exact Guard.none; rfl; rfl; apply Pev.len_slice; rfl; exact yes; rfl
  apply OL.makeSlice; rfl; rfl; rfl; rfl; rfl; rfl; rfl; omega; (intro bk hbk; simp only [AllLe, and_true] at hbk)
  apply oas; rfl; rfl
  apply OL.nil
  with_reducible apply At.next
  apply W.seq
  apply W.seq
  apply W.reg
  apply omv; rfl; rfl
  apply OL.op; exact Guard.none; rfl; rfl; apply Pev.len_slice; rfl; exact yes; rfl
  apply omv; rfl; rfl
  apply OL.nil
  with_reducible apply At.next
  apply W.block
  revert bk
  intro bn hbn
  have hz0 : List.replicate es.length (Value.pointer none) = nds (fun _ => 0) 0 es.length := nds_zero _ _
  refine W.exx (X := { x : World // bn < x.heap.size ∧ w.heap.size ≤ x.heap.size }) (C' := fun x => Cls [blk bn 69 (nds (fun _ => 0) 0 es.length)] [x.1, w]) (fun w2 hw2 => by rw [hz0] at hw2; exact ⟨⟨w2, hw2.lt _ (.head _) bn rfl, (hw2.kp w (.head _)).size⟩, hw2.note⟩) ?_
  rintro ⟨w0, hw0a, hw0b⟩
  simp only
  refine W.loop (G := Nat × World × (Nat → Nat)) (fun g => g.1 ≤ es.length ∧ w.heap.size ≤ g.2.1.heap.size ∧ bn < g.2.1.heap.size ∧ ∀ k, k < g.1 → TrO g.2.1 (fun b => b < g.2.1.heap.size ∧ b ≠ bn) (grow e k) (g.2.2 k)) (fun g => es.length - g.1)
    (fun g => [(0, true, .slice q es.length cap), (3, true, .slice (some ⟨bn, 0, none⟩) es.length es.length), (14, true, .slice q es.length cap), (15, true, .int .i64 (es.length : Int)), (16, true, .int .i64 (g.1 : Int))])
    (fun g => Cls [blk bn 69 (nds g.2.2 g.1 es.length)] [g.2.1, w]) (0, w0, fun _ => 0) ⟨by simp, hw0b, hw0a, fun k hk => by simp at hk⟩ (by (repeat (first | exact Sub.nil | apply Sub.cons rfl | (refine Sub.cons_eq rfl (congrArg (Value.int .i64) (by first | omega | (simp only; omega))) ?_)))) (fun w' hw' => hw') ?_
  rintro ⟨i, wk, tb⟩ ⟨hi, hwk, hbnk, htr⟩
  simp only at hi hwk hbnk htr ⊢
  apply W.seq
  apply W.reg
  apply obn; rfl; rfl; rfl; apply Bin.lss
  apply OL.nil
  with_reducible apply At.next
  apply W.seq
  (refine W.cond rfl (fun hlt => ?_) (fun hlt => ?_)) <;> (try (simp only [Bool.and_eq_true, Bool.or_eq_true, Bool.not_eq_true', Bool.and_eq_false_iff, Bool.or_eq_false_iff, Bool.not_eq_false', decide_eq_true_eq, decide_eq_false_iff_not, Int.not_lt, Int.not_le] at hlt)) <;> (try (exfalso; first | omega | exact hlt trivial | contradiction))
  · have hil : i < es.length := by omega
    obtain ⟨a, p, rfl, hab, hp, hpe, hcell, hok⟩ := hget hil
    have hL := hlim p (List.mem_of_getElem? hp)
    have hLb := hL.b
    have hLa := hL.a
    have hkl1 := hkl p (List.mem_of_getElem? hp)
    have hdn := hd i _ hpe
    apply W.skip
    with_reducible apply At.next
    apply W.seq
    apply W.block
    apply W.seq
    apply W.reg
    apply omv; rfl; rfl
    apply OL.op; exact Guard.none; rfl; rfl; apply Pev.idx; rfl; exact yes; rfl; exact yes; rfl; rfl; intro hcond; omega
    apply OL.op; exact Guard.none; rfl; rfl; apply Pev.load_keptA; rfl; exact yes; exact .tail _ (.head _); rfl; intro hcond; assumption; rfl; intro hcond; (rw [add_block]; assumption); intro hcond; simp only [add_block]; refine NotOwned.blk (by omega) ?_; exact NotOwned.nil
    apply OL.alloc; rfl; rfl; exact CellsL.agg; (intro bk hbk; simp only [AllLe, and_true] at hbk)
    apply oas; rfl; rfl
    apply OL.storeB; rfl; rfl; exact CellsL.agg; rfl; rfl; rfl; apply Swap.z; apply Put.here; apply Over.cons; apply Over.cons; apply Over.cons; apply Over.cons; apply Over.cons; apply Over.nil
    apply OL.nil
    with_reducible apply At.next
    apply W.seq
    revert bk
    intro bx hbx
    refine W.cls (fun w' hw' => Cls.flip hw') ?_
    refine W.regany (X := XG [wk, w] p.1.binds.length wk.heap.size) (fun x e => [(6, true, bif e 9 then .pointer (some ⟨x.bt, 0, none⟩) else x.old 6), (29, true, bif e 8 then .pointer (some ⟨x.bt, 0, none⟩) else x.old 29), (28, true, bif e 7 then .agg [.int .i64 p.1.op, .int .i64 p.1.n, .slice x.q p.1.binds.length x.c, .slice none 0 0, .slice none 0 0].toArray else x.old 28), (27, true, bif e 6 then .slice x.q p.1.binds.length x.c else x.old 27), (26, true, bif e 5 then .slice p.2.b.1 p.1.binds.length p.2.b.2 else x.old 26), (25, true, bif e 4 then .pointer (some ⟨bx, 0 + 2, none⟩) else x.old 25), (24, true, bif e 3 then .int .i64 p.1.n else x.old 24), (23, true, bif e 2 then .pointer (some ⟨bx, 0 + 1, none⟩) else x.old 23), (22, true, bif e 1 then .int .i64 p.1.op else x.old 22), (21, true, bif e 0 then .pointer (some ⟨bx, 0 + 0, none⟩) else x.old 21), (0, true, .slice (some a) es.length cap), (3, true, .slice (some ⟨bn, 0, none⟩) es.length es.length), (4, true, .int .i64 (i : Int)), (14, true, .slice (some a) es.length cap), (15, true, .int .i64 (es.length : Int)), (16, true, .int .i64 (i : Int)), (5, true, .pointer (some ⟨bx, 0, none⟩))])
      (fun x e => (blk bn 69 (nds tb i es.length)) :: (blk bx 28 [.int .i64 p.1.op, .int .i64 p.1.n, .slice p.2.b.1 p.1.binds.length p.2.b.2, .slice p.2.k.1 p.1.kids.length p.2.k.2, .slice p.2.a.1 p.1.alts.length p.2.a.2]) :: (bif e 6 then pile wk.heap.size x.O [⟨x.q, x.c, ints p.1.binds⟩] else nothing) :: (bif e 8 then blk x.bt 91 [.int .i64 p.1.op, .int .i64 p.1.n, .slice x.q p.1.binds.length x.c, .slice none 0 0, .slice none 0 0] else nothing) :: [])
      (fun old => ⟨fun _ => False, none, p.1.binds.length, Nat.le_refl _, wk.heap.size, Nat.le_refl _, 0, 0, fun _ => False, wk.heap.size, Nat.le_refl _, old⟩) (by kernel_rfl) (by kernel_rfl) (fun w hw => hw.drew) (fun old => by repeat (first | exact SubO.nil | apply SubO.cons rfl | refine SubO.old rfl ?_)) (fun old w' hw' => hw'.add_nothing.add_nothing) ?_ ?_
    · intro x e i o ho hei hd hcl
      have hi : i < 10 := (List.getElem?_eq_some_iff.1 ho).1
      obtain rfl | rfl | rfl | rfl | rfl | rfl | rfl | rfl | rfl | rfl : i = 0 ∨ i = 1 ∨ i = 2 ∨ i = 3 ∨ i = 4 ∨ i = 5 ∨ i = 6 ∨ i = 7 ∨ i = 8 ∨ i = 9 := by omega
      · cases ho
        have v0 : Eng.upd e 0 0 = true := upd_eq
        simp only [hei, cond_true, cond_false]
        apply ofa; rfl; rfl; rfl
        apply OL.nil
        exact At.beside x (by repeat (first | exact Sub.nil | apply Sub.cons rfl | refine Sub.cons_eq rfl (by simp only [v0, cond_true, cond_false]) ?_)) (fun w' hw' => by first | exact hw' | (simp only [v0, cond_true, cond_false]; exact hw'))
      · cases ho
        have h0 : e 0 = true := hd ⟨0, .data⟩ (by simp) rfl
        have v1 : Eng.upd e 1 1 = true := upd_eq
        have v0 : Eng.upd e 1 0 = true := upd_mono h0
        simp only [hei, h0, cond_true, cond_false]
        apply old; rfl; rfl; exact .tail _ (.head _); rfl; rfl
        apply OL.nil
        exact At.beside x (by repeat (first | exact Sub.nil | apply Sub.cons rfl | refine Sub.cons_eq rfl (by simp only [v1, v0, cond_true, cond_false]) ?_)) (fun w' hw' => by first | exact hw' | (simp only [v1, v0, cond_true, cond_false]; exact hw'))
      · cases ho
        have v2 : Eng.upd e 2 2 = true := upd_eq
        simp only [hei, cond_true, cond_false]
        apply ofa; rfl; rfl; rfl
        apply OL.nil
        exact At.beside x (by repeat (first | exact Sub.nil | apply Sub.cons rfl | refine Sub.cons_eq rfl (by simp only [v2, cond_true, cond_false]) ?_)) (fun w' hw' => by first | exact hw' | (simp only [v2, cond_true, cond_false]; exact hw'))
      · cases ho
        have h2 : e 2 = true := hd ⟨2, .data⟩ (by simp) rfl
        have v3 : Eng.upd e 3 3 = true := upd_eq
        have v2 : Eng.upd e 3 2 = true := upd_mono h2
        simp only [hei, h2, cond_true, cond_false]
        apply old; rfl; rfl; exact .tail _ (.head _); rfl; rfl
        apply OL.nil
        exact At.beside x (by repeat (first | exact Sub.nil | apply Sub.cons rfl | refine Sub.cons_eq rfl (by simp only [v3, v2, cond_true, cond_false]) ?_)) (fun w' hw' => by first | exact hw' | (simp only [v3, v2, cond_true, cond_false]; exact hw'))
      · cases ho
        have v4 : Eng.upd e 4 4 = true := upd_eq
        simp only [hei, cond_true, cond_false]
        apply ofa; rfl; rfl; rfl
        apply OL.nil
        exact At.beside x (by repeat (first | exact Sub.nil | apply Sub.cons rfl | refine Sub.cons_eq rfl (by simp only [v4, cond_true, cond_false]) ?_)) (fun w' hw' => by first | exact hw' | (simp only [v4, cond_true, cond_false]; exact hw'))
      · cases ho
        have h4 : e 4 = true := hd ⟨4, .data⟩ (by simp) rfl
        have v5 : Eng.upd e 5 5 = true := upd_eq
        have v4 : Eng.upd e 5 4 = true := upd_mono h4
        simp only [hei, h4, cond_true, cond_false]
        apply old; rfl; rfl; exact .tail _ (.head _); rfl; rfl
        apply OL.nil
        exact At.beside x (by repeat (first | exact Sub.nil | apply Sub.cons rfl | refine Sub.cons_eq rfl (by simp only [v5, v4, cond_true, cond_false]) ?_)) (fun w' hw' => by first | exact hw' | (simp only [v5, v4, cond_true, cond_false]; exact hw'))
      · cases ho
        have h5 : e 5 = true := hd ⟨5, .data⟩ (by simp) rfl
        have h7 : e 7 = false := hcl.not (i := 6) (j := 7) rfl hei (by kernel_rfl)
        have h8 : e 8 = false := hcl.not (i := 7) (j := 8) rfl h7 (by kernel_rfl)
        have v6 : Eng.upd e 6 6 = true := upd_eq
        have v5 : Eng.upd e 6 5 = true := upd_mono h5
        have v7 : Eng.upd e 6 7 = false := h7
        have v8 : Eng.upd e 6 8 = false := h8
        simp only [hei, h5, h7, h8, cond_true, cond_false]
        refine OL.callE (α := (Nat → Prop) × Option Addr × Nat) (fun z => .slice z.2.1 p.1.binds.length z.2.2) (fun z => p.1.binds.length ≤ z.2.2) (fun z => Cls (pile wk.heap.size z.1 [⟨z.2.1, z.2.2, ints p.1.binds⟩] :: blk bn 69 (nds tb i es.length) :: blk bx 28 [.int .i64 p.1.op, .int .i64 p.1.n, .slice p.2.b.1 p.1.binds.length p.2.b.2, .slice p.2.k.1 p.1.kids.length p.2.k.2, .slice p.2.a.1 p.1.alts.length p.2.a.2] :: nothing :: nothing :: []) [wk, w]) rfl rfl (by (repeat (first | exact Args.nil | (apply Args.cons rfl; ((first | exact fun _ => rfl | exact fun h => h | (intro h; simp_all; done))))))) (fun w2 hw2 => ?_) ?_
        · exact (Clone_calls p.2.b.1 p.2.b.2 p.1.binds w2 (hok.b.at hw2 (.tail _ (.head _)) (fun k hk => by (focus ((try simp only [add_block]); (repeat (first | exact NotOwned.nil | exact hno _ (by omega) | refine NotOwned.nothing ?_ | refine NotOwned.nds (hlow _ (by omega)) ?_ | refine NotOwned.mapS (by omega) ?_ | apply NotOwned.bif | refine NotOwned.blk (by omega) ?_ | refine NotOwned.row (by omega) ?_ | refine NotOwned.grid (by assumption) (by omega) ?_ | refine NotOwned.pile (by omega) ?_ | refine NotOwned.pool (by omega) ?_ | refine NotOwned.mapI (by omega) ?_ | refine NotOwned.mapX (by omega) ?_ | refine NotOwned.itI (by omega) ?_)); done)))) (by omega)).mono fun e w3 ⟨q', c', h1, h2, h3, h4⟩ => ⟨(_, q', c'), h1, h4, hw2.pile_new (hw2.kp wk (.head _)).size h2 (fun hl => h3 (by rwa [ints_length] at hl))⟩
        rintro ⟨Oc, qc, cc⟩ hcc
        simp only at hcc ⊢
        apply OL.nil
        exact At.beside { x with O := Oc, q := qc, c := cc, hc := hcc } (by repeat (first | exact Sub.nil | apply Sub.cons rfl | refine Sub.cons_eq rfl (by simp only [v6, v5, v7, v8, cond_true, cond_false]) ?_)) (fun w' hw' => by simp only [v6, v5, v7, v8, cond_true, cond_false]; exact Cls.fill (p := 2) (H := _ :: _ :: _ :: _ :: []) (.s (.s .z)) hw')
      · cases ho
        have h1 : e 1 = true := hd ⟨1, .data⟩ (by simp) rfl
        have h3 : e 3 = true := hd ⟨3, .data⟩ (by simp) rfl
        have h6 : e 6 = true := hd ⟨6, .data⟩ (by simp) rfl
        have v7 : Eng.upd e 7 7 = true := upd_eq
        have v1 : Eng.upd e 7 1 = true := upd_mono h1
        have v3 : Eng.upd e 7 3 = true := upd_mono h3
        have v6 : Eng.upd e 7 6 = true := upd_mono h6
        simp only [hei, h1, h3, h6, cond_true, cond_false]
        apply OL.op; exact Guard.none; rfl; rfl; apply Pev.build; rfl; exact CellsL.agg; rfl; apply Fill.cons rfl; exact CellsL.one rfl; rfl; rfl; apply Put.here; apply Over.cons; apply Over.nil; apply Fill.cons rfl; exact CellsL.one rfl; rfl; rfl; apply Put.skip; apply Put.here; apply Over.cons; apply Over.nil; apply Fill.cons rfl; exact CellsL.one rfl; rfl; rfl; apply Put.skip; apply Put.skip; apply Put.here; apply Over.cons; apply Over.nil; apply Fill.nil; rfl
        apply OL.nil
        exact At.beside x (by repeat (first | exact Sub.nil | apply Sub.cons rfl | refine Sub.cons_eq rfl (by simp only [v7, v1, v3, v6, cond_true, cond_false]) ?_)) (fun w' hw' => by first | exact hw' | (simp only [v7, v1, v3, v6, cond_true, cond_false]; exact hw'))
      · cases ho
        have h7 : e 7 = true := hd ⟨7, .data⟩ (by simp) rfl
        have h9 : e 9 = false := hcl.not (i := 8) (j := 9) rfl hei (by kernel_rfl)
        have v8 : Eng.upd e 8 8 = true := upd_eq
        have v7 : Eng.upd e 8 7 = true := upd_mono h7
        have v9 : Eng.upd e 8 9 = false := h9
        simp only [hei, h7, h9, cond_true, cond_false]
        apply OL.box; rfl; rfl; exact CellsL.agg; (intro bk hbk; simp only [AllLe, and_true] at hbk)
        apply OL.nil
        exact At.beside { x with bt := bk, hbt := hbk.1 } (by repeat (first | exact Sub.nil | apply Sub.cons rfl | refine Sub.cons_eq rfl (by simp only [v8, v7, v9, cond_true, cond_false]) ?_)) (fun w' hw' => by simp only [v8, v7, v9, cond_true, cond_false]; exact Cls.fill (p := 3) (H := _ :: _ :: _ :: _ :: []) (.s (.s (.s .z))) hw')
      · cases ho
        have h8 : e 8 = true := hd ⟨8, .data⟩ (by simp) rfl
        have v9 : Eng.upd e 9 9 = true := upd_eq
        have v8 : Eng.upd e 9 8 = true := upd_mono h8
        simp only [hei, h8, cond_true, cond_false]
        apply oas; rfl; rfl
        apply OL.nil
        exact At.beside x (by repeat (first | exact Sub.nil | apply Sub.cons rfl | refine Sub.cons_eq rfl (by simp only [v9, v8, cond_true, cond_false]) ?_)) (fun w' hw' => by first | exact hw' | (simp only [v9, v8, cond_true, cond_false]; exact hw'))
    · intro x e2 hall
      have hx1 := x.hbt
      have hx2 := x.hc
      simp only [hall 0 (by decide), hall 1 (by decide), hall 2 (by decide), hall 3 (by decide), hall 4 (by decide), hall 5 (by decide), hall 6 (by decide), hall 7 (by decide), hall 8 (by decide), hall 9 (by decide), cond_true]
      generalize x.bt = bt at *
      generalize x.O = Ob at *
      generalize x.c = cb at *
      generalize x.q = qb at *
      clear x
      with_reducible apply At.next
      apply W.seq
      apply W.seq
      apply W.reg
      apply ofa; rfl; rfl; rfl
      apply old; rfl; rfl; exact .tail _ (.head _); rfl; rfl
      apply OL.op; exact Guard.none; rfl; rfl; apply Pev.len_slice; rfl; exact yes; rfl
      apply omv; rfl; rfl
      apply OL.nil
      with_reducible apply At.next
      apply W.block
      refine W.loop (G := Nat × GR) (fun g => g.1 ≤ p.1.kids.length) (fun g => p.1.kids.length - g.1)
        (fun g => [(0, true, .slice (some a) es.length cap), (3, true, .slice (some ⟨bn, 0, none⟩) es.length es.length), (4, true, .int .i64 (i : Int)), (5, true, .pointer (some ⟨bx, 0, none⟩)), (6, true, .pointer (some ⟨bt, 0, none⟩)), (14, true, .slice (some a) es.length cap), (15, true, .int .i64 (es.length : Int)), (16, true, .int .i64 (i : Int)), (31, true, .slice p.2.k.1 p.1.kids.length p.2.k.2), (32, true, .int .i64 (p.1.kids.length : Int)), (33, true, .int .i64 (g.1 : Int))])
        (fun g => Cls (blk bn 69 (nds tb i es.length) :: blk bx 28 [.int .i64 p.1.op, .int .i64 p.1.n, .slice p.2.b.1 p.1.binds.length p.2.b.2, .slice p.2.k.1 p.1.kids.length p.2.k.2, .slice p.2.a.1 p.1.alts.length p.2.a.2] :: pile wk.heap.size Ob [⟨qb, cb, ints p.1.binds⟩] :: blk bt 91 [.int .i64 p.1.op, .int .i64 p.1.n, .slice qb p.1.binds.length cb, .slice g.2.q g.1 g.2.c, .slice none 0 0] :: row wk.heap.size g.2.O g.2.q g.1 g.2.c 69 1 (ptrs (kp tb (p.1.kids.take g.1))) :: []) [wk, w]) (0, ⟨fun _ => False, none, 0⟩) (by simp) (by (repeat (first | exact Sub.nil | apply Sub.cons rfl | (refine Sub.cons_eq rfl (congrArg (Value.int .i64) (by first | omega | (simp only; omega))) ?_)))) (fun w' hw' => Cls.mv (A := [_]) (I := [_, _, _, _]) (H := []) (hw'.row_nil wk.heap.size _ 1)) ?_
      rintro ⟨j, ⟨Ok, qk, ck⟩⟩ hj
      simp only at hj ⊢
      apply W.seq
      apply W.reg
      apply obn; rfl; rfl; rfl; apply Bin.lss
      apply OL.nil
      with_reducible apply At.next
      apply W.seq
      (refine W.cond rfl (fun hlt2 => ?_) (fun hlt2 => ?_)) <;> (try (simp only [Bool.and_eq_true, Bool.or_eq_true, Bool.not_eq_true', Bool.and_eq_false_iff, Bool.or_eq_false_iff, Bool.not_eq_false', decide_eq_true_eq, decide_eq_false_iff_not, Int.not_lt, Int.not_le] at hlt2)) <;> (try (exfalso; first | omega | exact hlt2 trivial | contradiction))
      · have hjl : j < p.1.kids.length := by omega
        obtain ⟨ak, k, hqk, habk, hk, hck⟩ := hok.k.get hjl
        have habk : ak.block < w.heap.size := habk
        have hkr := hdn k (List.mem_of_getElem? hk)
        obtain ⟨kn, rfl⟩ : ∃ kn : Nat, k = (kn : Int) := ⟨k.toNat, by omega⟩
        have hkn : (nds tb i es.length)[0 + (kn : Int).toNat * 1]? = some (.pointer (some ⟨tb kn, 0, none⟩)) := by
          have h1 := nds_get (tb := tb) (i := i) (n := es.length) (k := kn) (by omega) (by omega)
          simpa using h1
        rw [hqk]
        apply W.skip
        with_reducible apply At.next
        apply W.seq
        apply W.block
        apply W.seq
        apply W.reg
        apply OL.op; exact Guard.none; rfl; rfl; apply Pev.idx; rfl; exact yes; rfl; exact yes; rfl; rfl; intro hcond; omega
        apply OL.op; exact Guard.none; rfl; rfl; apply Pev.load_kept; rfl; exact yes; exact .tail _ (.head _); rfl; intro hcond; assumption; intro hcond; (rw [add_block]; assumption); intro hcond; simp only [add_block]; refine NotOwned.blk (by omega) ?_; refine NotOwned.blk (by omega) ?_; refine NotOwned.pile (by omega) ?_; refine NotOwned.blk (by omega) ?_; refine NotOwned.row (by omega) ?_; exact NotOwned.nil
        apply oas; rfl; rfl
        apply OL.nil
        with_reducible apply At.next
        refine W.regany (X := XG [wk, w] p.1.binds.length wk.heap.size) (fun x e => [(49, true, bif e 12 then .pointer (some ⟨bt, 0 + 3, none⟩) else x.old 49), (48, true, bif e 11 then .pointer (some ⟨bt, 0, none⟩) else x.old 48), (47, true, bif e 10 then .slice (some ⟨x.g1, 0, none⟩) (j + 1) x.c1 else x.old 47), (46, true, bif e 9 then .slice (some ⟨x.b1, 0, none⟩) 1 1 else x.old 46), (45, true, bif e 8 then Value.pointer (some ⟨tb kn, 0, none⟩) else x.old 45), (44, true, bif e 7 then .pointer (some ⟨bn, 0 + (kn : Int).toNat * 1, none⟩) else x.old 44), (43, true, bif e 6 then .int .i64 (kn : Int) else x.old 43), (42, true, bif e 5 then .slice (some ⟨bn, 0, none⟩) es.length es.length else x.old 42), (41, true, bif e 4 then .slice qk j ck else x.old 41), (40, true, bif e 3 then .pointer (some ⟨bt, 0 + 3, none⟩) else x.old 40), (39, true, bif e 2 then .pointer (some ⟨bt, 0, none⟩) else x.old 39), (38, true, bif e 1 then .pointer (some ⟨bt, 0, none⟩) else x.old 38), (37, true, bif e 0 then .pointer (some ⟨bt, 0, none⟩) else x.old 37), (0, true, .slice (some a) es.length cap), (3, true, .slice (some ⟨bn, 0, none⟩) es.length es.length), (4, true, .int .i64 (i : Int)), (14, true, .slice (some a) es.length cap), (15, true, .int .i64 (es.length : Int)), (16, true, .int .i64 (i : Int)), (5, true, .pointer (some ⟨bx, 0, none⟩)), (6, true, .pointer (some ⟨bt, 0, none⟩)), (8, true, .int .i64 (kn : Int)), (31, true, .slice (some ak) p.1.kids.length p.2.k.2), (32, true, .int .i64 (p.1.kids.length : Int)), (33, true, .int .i64 (j : Int))])
          (fun x e => (blk bn 69 (nds tb i es.length)) :: (blk bx 28 [.int .i64 p.1.op, .int .i64 p.1.n, .slice p.2.b.1 p.1.binds.length p.2.b.2, .slice (some ak) p.1.kids.length p.2.k.2, .slice p.2.a.1 p.1.alts.length p.2.a.2]) :: (pile wk.heap.size Ob [⟨qb, cb, ints p.1.binds⟩]) :: (blk bt 91 [.int .i64 p.1.op, .int .i64 p.1.n, .slice qb p.1.binds.length cb, bif e 13 then .slice (some ⟨x.g1, 0, none⟩) (j + 1) x.c1 else .slice qk j ck, .slice none 0 0]) :: (bif e 10 then row wk.heap.size x.O1 (some ⟨x.g1, 0, none⟩) (j + 1) x.c1 69 1 ((ptrs (kp tb (p.1.kids.take j))) ++ [Value.pointer (some ⟨tb kn, 0, none⟩)]) else row wk.heap.size Ok qk j ck 69 1 (ptrs (kp tb (p.1.kids.take j)))) :: (bif e 9 then blk x.b1 69 [Value.pointer (some ⟨tb kn, 0, none⟩)] else nothing) :: [])
          (fun old => ⟨fun _ => False, none, p.1.binds.length, Nat.le_refl _, wk.heap.size, Nat.le_refl _, 0, 0, fun _ => False, wk.heap.size, Nat.le_refl _, old⟩) (by kernel_rfl) (by kernel_rfl) (fun w hw => hw.drew) (fun old => by repeat (first | exact SubO.nil | apply SubO.cons rfl | refine SubO.old rfl ?_)) (fun old w' hw' => hw'.add_nothing) ?_ ?_
        · intro x e i o ho hei hd hcl
          have hi : i < 14 := (List.getElem?_eq_some_iff.1 ho).1
          obtain rfl | rfl | rfl | rfl | rfl | rfl | rfl | rfl | rfl | rfl | rfl | rfl | rfl | rfl : i = 0 ∨ i = 1 ∨ i = 2 ∨ i = 3 ∨ i = 4 ∨ i = 5 ∨ i = 6 ∨ i = 7 ∨ i = 8 ∨ i = 9 ∨ i = 10 ∨ i = 11 ∨ i = 12 ∨ i = 13 := by omega
          · cases ho
            have v0 : Eng.upd e 0 0 = true := upd_eq
            simp only [hei, cond_true, cond_false]
            apply omv; rfl; rfl
            apply OL.nil
            exact At.beside x (by repeat (first | exact Sub.nil | apply Sub.cons rfl | refine Sub.cons_eq rfl (by simp only [v0, cond_true, cond_false]) ?_)) (fun w' hw' => by first | exact hw' | (simp only [v0, cond_true, cond_false]; exact hw'))
          · cases ho
            have v1 : Eng.upd e 1 1 = true := upd_eq
            simp only [hei, cond_true, cond_false]
            apply omv; rfl; rfl
            apply OL.nil
            exact At.beside x (by repeat (first | exact Sub.nil | apply Sub.cons rfl | refine Sub.cons_eq rfl (by simp only [v1, cond_true, cond_false]) ?_)) (fun w' hw' => by first | exact hw' | (simp only [v1, cond_true, cond_false]; exact hw'))
          · cases ho
            have h1 : e 1 = true := hd ⟨1, .data⟩ (by simp) rfl
            have v2 : Eng.upd e 2 2 = true := upd_eq
            have v1 : Eng.upd e 2 1 = true := upd_mono h1
            simp only [hei, h1, cond_true, cond_false]
            apply OL.op; exact Guard.none; rfl; rfl; apply Pev.nil_ptr; rfl; exact yes
            apply OL.nil
            exact At.beside x (by repeat (first | exact Sub.nil | apply Sub.cons rfl | refine Sub.cons_eq rfl (by simp only [v2, v1, cond_true, cond_false]) ?_)) (fun w' hw' => by first | exact hw' | (simp only [v2, v1, cond_true, cond_false]; exact hw'))
          · cases ho
            have h2 : e 2 = true := hd ⟨2, .data⟩ (by simp) rfl
            have v3 : Eng.upd e 3 3 = true := upd_eq
            have v2 : Eng.upd e 3 2 = true := upd_mono h2
            simp only [hei, h2, cond_true, cond_false]
            apply ofa; rfl; rfl; rfl
            apply OL.nil
            exact At.beside x (by repeat (first | exact Sub.nil | apply Sub.cons rfl | refine Sub.cons_eq rfl (by simp only [v3, v2, cond_true, cond_false]) ?_)) (fun w' hw' => by first | exact hw' | (simp only [v3, v2, cond_true, cond_false]; exact hw'))
          · cases ho
            have h3 : e 3 = true := hd ⟨3, .data⟩ (by simp) rfl
            have h13 : e 13 = false := hcl.not (i := 4) (j := 13) rfl hei (by kernel_rfl)
            have v4 : Eng.upd e 4 4 = true := upd_eq
            have v3 : Eng.upd e 4 3 = true := upd_mono h3
            have v13 : Eng.upd e 4 13 = false := h13
            simp only [hei, h3, h13, cond_true, cond_false]
            apply old; rfl; rfl; apply List.Mem.tail; exact .tail _ (.tail _ (.head _)); rfl; rfl
            apply OL.nil
            exact At.beside x (by repeat (first | exact Sub.nil | apply Sub.cons rfl | refine Sub.cons_eq rfl (by simp only [v4, v3, v13, cond_true, cond_false]) ?_)) (fun w' hw' => by first | exact hw' | (simp only [v4, v3, v13, cond_true, cond_false]; exact hw'))
          · cases ho
            have v5 : Eng.upd e 5 5 = true := upd_eq
            simp only [hei, cond_true, cond_false]
            apply omv; rfl; rfl
            apply OL.nil
            exact At.beside x (by repeat (first | exact Sub.nil | apply Sub.cons rfl | refine Sub.cons_eq rfl (by simp only [v5, cond_true, cond_false]) ?_)) (fun w' hw' => by first | exact hw' | (simp only [v5, cond_true, cond_false]; exact hw'))
          · cases ho
            have v6 : Eng.upd e 6 6 = true := upd_eq
            simp only [hei, cond_true, cond_false]
            apply omv; rfl; rfl
            apply OL.nil
            exact At.beside x (by repeat (first | exact Sub.nil | apply Sub.cons rfl | refine Sub.cons_eq rfl (by simp only [v6, cond_true, cond_false]) ?_)) (fun w' hw' => by first | exact hw' | (simp only [v6, cond_true, cond_false]; exact hw'))
          · cases ho
            have h5 : e 5 = true := hd ⟨5, .data⟩ (by simp) rfl
            have h6 : e 6 = true := hd ⟨6, .data⟩ (by simp) rfl
            have v7 : Eng.upd e 7 7 = true := upd_eq
            have v5 : Eng.upd e 7 5 = true := upd_mono h5
            have v6 : Eng.upd e 7 6 = true := upd_mono h6
            simp only [hei, h5, h6, cond_true, cond_false]
            apply OL.op; exact Guard.none; rfl; rfl; apply Pev.idxB; rfl; exact yes; rfl; exact yes; rfl; intro hcond; omega; rfl
            apply OL.nil
            exact At.beside x (by repeat (first | exact Sub.nil | apply Sub.cons rfl | refine Sub.cons_eq rfl (by simp only [v7, v5, v6, cond_true, cond_false]) ?_)) (fun w' hw' => by first | exact hw' | (simp only [v7, v5, v6, cond_true, cond_false]; exact hw'))
          · cases ho
            have h7 : e 7 = true := hd ⟨7, .data⟩ (by simp) rfl
            have v8 : Eng.upd e 8 8 = true := upd_eq
            have v7 : Eng.upd e 8 7 = true := upd_mono h7
            simp only [hei, h7, cond_true, cond_false]
            apply OL.op; exact Guard.none; rfl; rfl; apply Pev.load_blk; rfl; exact yes; exact .head _; rfl; assumption
            apply OL.nil
            exact At.beside x (by repeat (first | exact Sub.nil | apply Sub.cons rfl | refine Sub.cons_eq rfl (by simp only [v8, v7, cond_true, cond_false]) ?_)) (fun w' hw' => by first | exact hw' | (simp only [v8, v7, cond_true, cond_false]; exact hw'))
          · cases ho
            have h8 : e 8 = true := hd ⟨8, .data⟩ (by simp) rfl
            have v9 : Eng.upd e 9 9 = true := upd_eq
            have v8 : Eng.upd e 9 8 = true := upd_mono h8
            simp only [hei, h8, cond_true, cond_false]
            apply OL.buildSlice; rfl; rfl; rfl; apply Elems.cons rfl; exact CellsL.one rfl; rfl; apply Elems.nil; apply App.cons; apply App.nil; rfl; rfl; (intro bk hbk; simp only [AllLe, and_true] at hbk)
            apply OL.nil
            exact At.beside { x with b1 := bk, hb1 := hbk.1 } (by repeat (first | exact Sub.nil | apply Sub.cons rfl | refine Sub.cons_eq rfl (by simp only [v9, v8, cond_true, cond_false]) ?_)) (fun w' hw' => by simp only [v9, v8, cond_true, cond_false]; exact Cls.fill (p := 5) (H := _ :: _ :: _ :: _ :: _ :: _ :: []) (.s (.s (.s (.s (.s .z))))) hw')
          · cases ho
            have h4 : e 4 = true := hd ⟨4, .data⟩ (by simp) rfl
            have h9 : e 9 = true := hd ⟨9, .data⟩ (by simp) rfl
            have h13 : e 13 = false := hcl.not (i := 10) (j := 13) rfl hei (by kernel_rfl)
            have v10 : Eng.upd e 10 10 = true := upd_eq
            have v4 : Eng.upd e 10 4 = true := upd_mono h4
            have v9 : Eng.upd e 10 9 = true := upd_mono h9
            have v13 : Eng.upd e 10 13 = false := h13
            simp only [hei, h4, h9, h13, cond_true, cond_false]
            apply OL.append
            rfl
            rfl
            rfl
            rfl
            (repeat (first | apply Hole.z | apply Hole.s))
            (repeat (first | exact List.Mem.head _ | apply List.Mem.tail))
            (repeat (first | apply Take.zero | apply Take.succ))
            rfl
            rfl
            exact ⟨wk, .head _, Nat.le_refl _⟩
            omega
            intro O1 g1 cap1
            apply OL.nil
            exact At.beside { x with g1 := g1, c1 := cap1, O1 := O1 } (by repeat (first | exact Sub.nil | apply Sub.cons rfl | refine Sub.cons_eq rfl (by simp only [v10, v4, v9, v13, cond_true, cond_false]) ?_)) (fun w' hw' => by first | exact hw' | (simp only [v10, v4, v9, v13, cond_true, cond_false]; exact hw'))
          · cases ho
            have h0 : e 0 = true := hd ⟨0, .data⟩ (by simp) rfl
            have v11 : Eng.upd e 11 11 = true := upd_eq
            have v0 : Eng.upd e 11 0 = true := upd_mono h0
            simp only [hei, h0, cond_true, cond_false]
            apply OL.op; exact Guard.none; rfl; rfl; apply Pev.nil_ptr; rfl; exact yes
            apply OL.nil
            exact At.beside x (by repeat (first | exact Sub.nil | apply Sub.cons rfl | refine Sub.cons_eq rfl (by simp only [v11, v0, cond_true, cond_false]) ?_)) (fun w' hw' => by first | exact hw' | (simp only [v11, v0, cond_true, cond_false]; exact hw'))
          · cases ho
            have h11 : e 11 = true := hd ⟨11, .data⟩ (by simp) rfl
            have v12 : Eng.upd e 12 12 = true := upd_eq
            have v11 : Eng.upd e 12 11 = true := upd_mono h11
            simp only [hei, h11, cond_true, cond_false]
            apply ofa; rfl; rfl; rfl
            apply OL.nil
            exact At.beside x (by repeat (first | exact Sub.nil | apply Sub.cons rfl | refine Sub.cons_eq rfl (by simp only [v12, v11, cond_true, cond_false]) ?_)) (fun w' hw' => by first | exact hw' | (simp only [v12, v11, cond_true, cond_false]; exact hw'))
          · cases ho
            have h10 : e 10 = true := hd ⟨10, .data⟩ (by simp) rfl
            have h12 : e 12 = true := hd ⟨12, .data⟩ (by simp) rfl
            have v13 : Eng.upd e 13 13 = true := upd_eq
            have v10 : Eng.upd e 13 10 = true := upd_mono h10
            have v12 : Eng.upd e 13 12 = true := upd_mono h12
            simp only [hei, h10, h12, cond_true, cond_false]
            apply OL.storeB; rfl; rfl; exact CellsL.one rfl; rfl; rfl; rfl; apply Swap.s; apply Swap.s; apply Swap.s; apply Swap.z; apply Put.skip; apply Put.skip; apply Put.skip; apply Put.here; apply Over.cons; apply Over.nil
            apply OL.nil
            exact At.beside x (by repeat (first | exact Sub.nil | apply Sub.cons rfl | refine Sub.cons_eq rfl (by simp only [v13, v10, v12, cond_true, cond_false]) ?_)) (fun w' hw' => by first | exact hw' | (simp only [v13, v10, v12, cond_true, cond_false]; exact hw'))
        · intro x e2 hall
          have hx1 := x.hb1
          simp only [hall 0 (by decide), hall 1 (by decide), hall 2 (by decide), hall 3 (by decide), hall 4 (by decide), hall 5 (by decide), hall 6 (by decide), hall 7 (by decide), hall 8 (by decide), hall 9 (by decide), hall 10 (by decide), hall 11 (by decide), hall 12 (by decide), hall 13 (by decide), cond_true]
          have hsn : ptrs (kp tb (p.1.kids.take j)) ++ [.pointer (some ⟨tb kn, 0, none⟩)] = ptrs (kp tb (p.1.kids.take (j + 1))) := by
            rw [List.take_add_one, hk]
            simp [ptrs, kp]
          rw [hsn]
          with_reducible apply At.in_normal
          with_reducible apply At.next
          apply W.reg
          apply obn; rfl; rfl; rfl; apply Bin.add_in; omega
          apply omv; rfl; rfl
          apply OL.nil
          exact At.again (j + 1, ⟨x.O1, some ⟨x.g1, 0, none⟩, x.c1⟩) (by simp only; omega) (by simp only; omega) (by (repeat (first | exact Sub.nil | apply Sub.cons rfl | (refine Sub.cons_eq rfl (congrArg (Value.int .i64) (by first | omega | (simp only; omega))) ?_)))) (fun w' hw' => hw'.thin (.keep (.keep (.keep (.keep (.keep (.blk ⟨hx1, by omega, trivial⟩ Thin.same)))))))
      obtain rfl : j = p.1.kids.length := by omega
      rw [List.take_length]
      obtain ⟨ps, hps, harr⟩ := hok.alts
      have hpl : p.1.alts.length = ps.length := by rw [← hps, List.length_map]
      rw [hpl]
      apply W.exit
      with_reducible apply At.then_exit
      with_reducible apply At.then_exit
      with_reducible apply At.in_exit
      with_reducible apply At.next
      apply W.seq
      apply W.seq
      apply W.reg
      apply ofa; rfl; rfl; rfl
      apply old; rfl; rfl; exact .tail _ (.head _); rfl; rfl
      apply OL.op; exact Guard.none; rfl; rfl; apply Pev.len_slice; rfl; exact yes; rfl
      apply omv; rfl; rfl
      apply OL.nil
      with_reducible apply At.next
      apply W.block
      refine W.loop (G := Nat × GR × (Nat → Prop) × List (Al × Sc)) (fun g => g.1 ≤ ps.length ∧ g.2.2.2.map Prod.fst = (ps.take g.1).map Prod.fst ∧ ∀ s ∈ g.2.2.2, s.1.binds.length ≤ s.2.2) (fun g => ps.length - g.1)
        (fun g => [(0, true, .slice (some a) es.length cap), (3, true, .slice (some ⟨bn, 0, none⟩) es.length es.length), (4, true, .int .i64 (i : Int)), (6, true, .pointer (some ⟨bt, 0, none⟩)), (14, true, .slice (some a) es.length cap), (15, true, .int .i64 (es.length : Int)), (16, true, .int .i64 (i : Int)), (52, true, .slice p.2.a.1 ps.length p.2.a.2), (53, true, .int .i64 (ps.length : Int)), (54, true, .int .i64 (g.1 : Int))])
        (fun g => Cls (blk bn 69 (nds tb i es.length) :: pile wk.heap.size Ob [⟨qb, cb, ints p.1.binds⟩] :: blk bt 91 [.int .i64 p.1.op, .int .i64 p.1.n, .slice qb p.1.binds.length cb, .slice qk p.1.kids.length ck, .slice g.2.1.q g.1 g.2.1.c] :: row wk.heap.size Ok qk p.1.kids.length ck 69 1 (ptrs (kp tb p.1.kids)) :: row wk.heap.size g.2.1.O g.2.1.q g.1 g.2.1.c 132 2 (cat altR_.c g.2.2.2) :: pile wk.heap.size g.2.2.1 (g.2.2.2.map alSl) :: []) [wk, w]) (0, ⟨fun _ => False, none, 0⟩, (fun _ => False), []) ⟨by simp, by simp, fun s hs => by cases hs⟩ (by (repeat (first | exact Sub.nil | apply Sub.cons rfl | (refine Sub.cons_eq rfl (congrArg (Value.int .i64) (by first | omega | (simp only; omega))) ?_)))) (fun w' hw' => ?_) ?_
      · have h1 := hw'.thin (.keep (.blk (by simp only [AllLe, and_true]; omega) Thin.same))
        exact Cls.mv (A := [_]) (I := [_, _, _, _, _]) (H := []) ((Cls.mv (A := [_]) (I := [_, _, _, _]) (H := []) (h1.row_nil wk.heap.size _ 2)).pile_nil wk.heap.size)
      rintro ⟨j, ⟨Oa, qa, ca⟩, Op, az⟩ ⟨hj2, has, hac⟩
      simp only at hj2 has hac ⊢
      have hasl : az.length = j := by
        have := congrArg List.length has
        simp at this
        omega
      apply W.seq
      apply W.reg
      apply obn; rfl; rfl; rfl; apply Bin.lss
      apply OL.nil
      with_reducible apply At.next
      apply W.seq
      (refine W.cond rfl (fun hlt2 => ?_) (fun hlt2 => ?_)) <;> (try (simp only [Bool.and_eq_true, Bool.or_eq_true, Bool.not_eq_true', Bool.and_eq_false_iff, Bool.or_eq_false_iff, Bool.not_eq_false', decide_eq_true_eq, decide_eq_false_iff_not, Int.not_lt, Int.not_le] at hlt2)) <;> (try (exfalso; first | omega | exact hlt2 trivial | contradiction))
      · have hjl : j < ps.length := by omega
        obtain ⟨aa, u, hqa, haba, hu, hca, hok2⟩ := harr.get hjl
        have haba : aa.block < w.heap.size := haba
        have hca : CellsAt w (aa.add (j * 2)) [.int .i64 u.1.tag, .slice u.2.1 u.1.binds.length u.2.2] := hca
        have huo := hok2.2.2
        have hul : u.1.binds.length ≤ 16 := hL.ab u.1 (by rw [← hps]; exact List.mem_map_of_mem (List.mem_of_getElem? hu))
        rw [hqa]
        apply W.skip
        with_reducible apply At.next
        apply W.seq
        apply W.block
        apply W.seq
        apply W.reg
        apply OL.op; exact Guard.none; rfl; rfl; apply Pev.idx; rfl; exact yes; rfl; exact yes; rfl; rfl; intro hcond; omega
        apply OL.op; exact Guard.none; rfl; rfl; apply Pev.load_keptA; rfl; exact yes; exact .tail _ (.head _); rfl; intro hcond; assumption; rfl; intro hcond; (rw [add_block]; assumption); intro hcond; simp only [add_block]; refine NotOwned.blk (by omega) ?_; refine NotOwned.pile (by omega) ?_; refine NotOwned.blk (by omega) ?_; refine NotOwned.row (by omega) ?_; refine NotOwned.row (by omega) ?_; refine NotOwned.pile (by omega) ?_; exact NotOwned.nil
        apply OL.alloc; rfl; rfl; exact CellsL.agg; (intro bk hbk; simp only [AllLe, and_true] at hbk)
        apply OL.storeB; rfl; rfl; exact CellsL.agg; rfl; rfl; rfl; apply Swap.z; apply Put.here; apply Over.cons; apply Over.cons; apply Over.nil
        apply OL.nil
        with_reducible apply At.next
        revert bk
        intro ba hba
        refine W.cls (fun w' hw' => Cls.mv (A := [_]) (I := [_, _, _, _, _, _]) (H := []) hw') ?_
        simp only [List.cons_append, List.nil_append]
        refine W.regany (X := XG [wk, w] u.1.binds.length wk.heap.size) (fun x e => [(72, true, bif e 14 then .pointer (some ⟨bt, 0 + 4, none⟩) else x.old 72), (71, true, bif e 13 then .pointer (some ⟨bt, 0, none⟩) else x.old 71), (70, true, bif e 12 then .slice (some ⟨x.g1, 0, none⟩) (j + 1) x.c1 else x.old 70), (69, true, bif e 11 then .slice (some ⟨x.b1, 0, none⟩) 1 1 else x.old 69), (68, true, bif e 10 then .agg [.int .i64 u.1.tag, .slice x.q u.1.binds.length x.c].toArray else x.old 68), (67, true, bif e 9 then .slice x.q u.1.binds.length x.c else x.old 67), (66, true, bif e 8 then .slice u.2.1 u.1.binds.length u.2.2 else x.old 66), (65, true, bif e 7 then .pointer (some ⟨ba, 0 + 1, none⟩) else x.old 65), (64, true, bif e 6 then .int .i64 u.1.tag else x.old 64), (63, true, bif e 5 then .pointer (some ⟨ba, 0 + 0, none⟩) else x.old 63), (62, true, bif e 4 then .slice qa j ca else x.old 62), (61, true, bif e 3 then .pointer (some ⟨bt, 0 + 4, none⟩) else x.old 61), (60, true, bif e 2 then .pointer (some ⟨bt, 0, none⟩) else x.old 60), (59, true, bif e 1 then .pointer (some ⟨bt, 0, none⟩) else x.old 59), (58, true, bif e 0 then .pointer (some ⟨bt, 0, none⟩) else x.old 58), (0, true, .slice (some a) es.length cap), (3, true, .slice (some ⟨bn, 0, none⟩) es.length es.length), (4, true, .int .i64 (i : Int)), (14, true, .slice (some a) es.length cap), (15, true, .int .i64 (es.length : Int)), (16, true, .int .i64 (i : Int)), (6, true, .pointer (some ⟨bt, 0, none⟩)), (10, true, .pointer (some ⟨ba, 0, none⟩)), (52, true, .slice (some aa) ps.length p.2.a.2), (53, true, .int .i64 (ps.length : Int)), (54, true, .int .i64 (j : Int))])
          (fun x e => (blk bn 69 (nds tb i es.length)) :: (pile wk.heap.size Ob [⟨qb, cb, ints p.1.binds⟩]) :: (blk bt 91 [.int .i64 p.1.op, .int .i64 p.1.n, .slice qb p.1.binds.length cb, .slice qk p.1.kids.length ck, bif e 15 then .slice (some ⟨x.g1, 0, none⟩) (j + 1) x.c1 else .slice qa j ca]) :: (row wk.heap.size Ok qk p.1.kids.length ck 69 1 (ptrs (kp tb p.1.kids))) :: (bif e 12 then row wk.heap.size x.O1 (some ⟨x.g1, 0, none⟩) (j + 1) x.c1 132 2 (cat altR_.c az ++ [.int .i64 u.1.tag, .slice x.q u.1.binds.length x.c]) else row wk.heap.size Oa qa j ca 132 2 (cat altR_.c az)) :: (pile wk.heap.size Op (az.map alSl)) :: (blk ba 132 [.int .i64 u.1.tag, .slice u.2.1 u.1.binds.length u.2.2]) :: (bif e 9 then pile wk.heap.size x.O [⟨x.q, x.c, ints u.1.binds⟩] else nothing) :: (bif e 11 then blk x.b1 132 [.int .i64 u.1.tag, .slice x.q u.1.binds.length x.c] else nothing) :: [])
          (fun old => ⟨fun _ => False, none, u.1.binds.length, Nat.le_refl _, wk.heap.size, Nat.le_refl _, 0, 0, fun _ => False, wk.heap.size, Nat.le_refl _, old⟩) (by kernel_rfl) (by kernel_rfl) (fun w hw => hw.drew) (fun old => by repeat (first | exact SubO.nil | apply SubO.cons rfl | refine SubO.old rfl ?_)) (fun old w' hw' => hw'.add_nothing.add_nothing) ?_ ?_
        · intro x e i o ho hei hd hcl
          have hi : i < 16 := (List.getElem?_eq_some_iff.1 ho).1
          obtain rfl | rfl | rfl | rfl | rfl | rfl | rfl | rfl | rfl | rfl | rfl | rfl | rfl | rfl | rfl | rfl : i = 0 ∨ i = 1 ∨ i = 2 ∨ i = 3 ∨ i = 4 ∨ i = 5 ∨ i = 6 ∨ i = 7 ∨ i = 8 ∨ i = 9 ∨ i = 10 ∨ i = 11 ∨ i = 12 ∨ i = 13 ∨ i = 14 ∨ i = 15 := by omega
          · cases ho
            have v0 : Eng.upd e 0 0 = true := upd_eq
            simp only [hei, cond_true, cond_false]
            apply omv; rfl; rfl
            apply OL.nil
            exact At.beside x (by repeat (first | exact Sub.nil | apply Sub.cons rfl | refine Sub.cons_eq rfl (by simp only [v0, cond_true, cond_false]) ?_)) (fun w' hw' => by first | exact hw' | (simp only [v0, cond_true, cond_false]; exact hw'))
          · cases ho
            have v1 : Eng.upd e 1 1 = true := upd_eq
            simp only [hei, cond_true, cond_false]
            apply omv; rfl; rfl
            apply OL.nil
            exact At.beside x (by repeat (first | exact Sub.nil | apply Sub.cons rfl | refine Sub.cons_eq rfl (by simp only [v1, cond_true, cond_false]) ?_)) (fun w' hw' => by first | exact hw' | (simp only [v1, cond_true, cond_false]; exact hw'))
          · cases ho
            have h1 : e 1 = true := hd ⟨1, .data⟩ (by simp) rfl
            have v2 : Eng.upd e 2 2 = true := upd_eq
            have v1 : Eng.upd e 2 1 = true := upd_mono h1
            simp only [hei, h1, cond_true, cond_false]
            apply OL.op; exact Guard.none; rfl; rfl; apply Pev.nil_ptr; rfl; exact yes
            apply OL.nil
            exact At.beside x (by repeat (first | exact Sub.nil | apply Sub.cons rfl | refine Sub.cons_eq rfl (by simp only [v2, v1, cond_true, cond_false]) ?_)) (fun w' hw' => by first | exact hw' | (simp only [v2, v1, cond_true, cond_false]; exact hw'))
          · cases ho
            have h2 : e 2 = true := hd ⟨2, .data⟩ (by simp) rfl
            have v3 : Eng.upd e 3 3 = true := upd_eq
            have v2 : Eng.upd e 3 2 = true := upd_mono h2
            simp only [hei, h2, cond_true, cond_false]
            apply ofa; rfl; rfl; rfl
            apply OL.nil
            exact At.beside x (by repeat (first | exact Sub.nil | apply Sub.cons rfl | refine Sub.cons_eq rfl (by simp only [v3, v2, cond_true, cond_false]) ?_)) (fun w' hw' => by first | exact hw' | (simp only [v3, v2, cond_true, cond_false]; exact hw'))
          · cases ho
            have h3 : e 3 = true := hd ⟨3, .data⟩ (by simp) rfl
            have h15 : e 15 = false := hcl.not (i := 4) (j := 15) rfl hei (by kernel_rfl)
            have v4 : Eng.upd e 4 4 = true := upd_eq
            have v3 : Eng.upd e 4 3 = true := upd_mono h3
            have v15 : Eng.upd e 4 15 = false := h15
            simp only [hei, h3, h15, cond_true, cond_false]
            apply old; rfl; rfl; exact .tail _ (.tail _ (.head _)); rfl; rfl
            apply OL.nil
            exact At.beside x (by repeat (first | exact Sub.nil | apply Sub.cons rfl | refine Sub.cons_eq rfl (by simp only [v4, v3, v15, cond_true, cond_false]) ?_)) (fun w' hw' => by first | exact hw' | (simp only [v4, v3, v15, cond_true, cond_false]; exact hw'))
          · cases ho
            have v5 : Eng.upd e 5 5 = true := upd_eq
            simp only [hei, cond_true, cond_false]
            apply ofa; rfl; rfl; rfl
            apply OL.nil
            exact At.beside x (by repeat (first | exact Sub.nil | apply Sub.cons rfl | refine Sub.cons_eq rfl (by simp only [v5, cond_true, cond_false]) ?_)) (fun w' hw' => by first | exact hw' | (simp only [v5, cond_true, cond_false]; exact hw'))
          · cases ho
            have h5 : e 5 = true := hd ⟨5, .data⟩ (by simp) rfl
            have v6 : Eng.upd e 6 6 = true := upd_eq
            have v5 : Eng.upd e 6 5 = true := upd_mono h5
            simp only [hei, h5, cond_true, cond_false]
            apply old; rfl; rfl; apply List.Mem.tail; apply List.Mem.tail; apply List.Mem.tail; apply List.Mem.tail; exact .tail _ (.tail _ (.head _)); rfl; rfl
            apply OL.nil
            exact At.beside x (by repeat (first | exact Sub.nil | apply Sub.cons rfl | refine Sub.cons_eq rfl (by simp only [v6, v5, cond_true, cond_false]) ?_)) (fun w' hw' => by first | exact hw' | (simp only [v6, v5, cond_true, cond_false]; exact hw'))
          · cases ho
            have v7 : Eng.upd e 7 7 = true := upd_eq
            simp only [hei, cond_true, cond_false]
            apply ofa; rfl; rfl; rfl
            apply OL.nil
            exact At.beside x (by repeat (first | exact Sub.nil | apply Sub.cons rfl | refine Sub.cons_eq rfl (by simp only [v7, cond_true, cond_false]) ?_)) (fun w' hw' => by first | exact hw' | (simp only [v7, cond_true, cond_false]; exact hw'))
          · cases ho
            have h7 : e 7 = true := hd ⟨7, .data⟩ (by simp) rfl
            have v8 : Eng.upd e 8 8 = true := upd_eq
            have v7 : Eng.upd e 8 7 = true := upd_mono h7
            simp only [hei, h7, cond_true, cond_false]
            apply old; rfl; rfl; apply List.Mem.tail; apply List.Mem.tail; apply List.Mem.tail; apply List.Mem.tail; exact .tail _ (.tail _ (.head _)); rfl; rfl
            apply OL.nil
            exact At.beside x (by repeat (first | exact Sub.nil | apply Sub.cons rfl | refine Sub.cons_eq rfl (by simp only [v8, v7, cond_true, cond_false]) ?_)) (fun w' hw' => by first | exact hw' | (simp only [v8, v7, cond_true, cond_false]; exact hw'))
          · cases ho
            have h8 : e 8 = true := hd ⟨8, .data⟩ (by simp) rfl
            have h10 : e 10 = false := hcl.not (i := 9) (j := 10) rfl hei (by kernel_rfl)
            have h11 : e 11 = false := hcl.not (i := 10) (j := 11) rfl h10 (by kernel_rfl)
            have h12 : e 12 = false := hcl.not (i := 9) (j := 12) rfl hei (by kernel_rfl)
            have h15 : e 15 = false := hcl.not (i := 9) (j := 15) rfl hei (by kernel_rfl)
            have v9 : Eng.upd e 9 9 = true := upd_eq
            have v8 : Eng.upd e 9 8 = true := upd_mono h8
            have v10 : Eng.upd e 9 10 = false := h10
            have v11 : Eng.upd e 9 11 = false := h11
            have v12 : Eng.upd e 9 12 = false := h12
            have v15 : Eng.upd e 9 15 = false := h15
            simp only [hei, h8, h10, h11, h12, h15, cond_true, cond_false]
            refine OL.callE (α := (Nat → Prop) × Option Addr × Nat) (fun z => .slice z.2.1 u.1.binds.length z.2.2) (fun z => u.1.binds.length ≤ z.2.2) (fun z => Cls (pile wk.heap.size z.1 [⟨z.2.1, z.2.2, ints u.1.binds⟩] :: blk bn 69 (nds tb i es.length) :: pile wk.heap.size Ob [⟨qb, cb, ints p.1.binds⟩] :: blk bt 91 [.int .i64 p.1.op, .int .i64 p.1.n, .slice qb p.1.binds.length cb, .slice qk p.1.kids.length ck, .slice qa j ca] :: row wk.heap.size Ok qk p.1.kids.length ck 69 1 (ptrs (kp tb p.1.kids)) :: row wk.heap.size Oa qa j ca 132 2 (cat altR_.c az) :: pile wk.heap.size Op (az.map alSl) :: blk ba 132 [.int .i64 u.1.tag, .slice u.2.1 u.1.binds.length u.2.2] :: nothing :: nothing :: []) [wk, w]) rfl rfl (by (repeat (first | exact Args.nil | (apply Args.cons rfl; ((first | exact fun _ => rfl | exact fun h => h | (intro h; simp_all; done))))))) (fun w2 hw2 => ?_) ?_
            · exact (Clone_calls u.2.1 u.2.2 u.1.binds w2 (huo.at hw2 (.tail _ (.head _)) (fun k hk => by (focus ((try simp only [add_block]); (repeat (first | exact NotOwned.nil | exact hno _ (by omega) | refine NotOwned.nothing ?_ | refine NotOwned.nds (hlow _ (by omega)) ?_ | refine NotOwned.mapS (by omega) ?_ | apply NotOwned.bif | refine NotOwned.blk (by omega) ?_ | refine NotOwned.row (by omega) ?_ | refine NotOwned.grid (by assumption) (by omega) ?_ | refine NotOwned.pile (by omega) ?_ | refine NotOwned.pool (by omega) ?_ | refine NotOwned.mapI (by omega) ?_ | refine NotOwned.mapX (by omega) ?_ | refine NotOwned.itI (by omega) ?_)); done)))) (by omega)).mono fun e w3 ⟨q', c', h1, h2, h3, h4⟩ => ⟨(_, q', c'), h1, h4, hw2.pile_new (hw2.kp wk (.head _)).size h2 (fun hl => h3 (by rwa [ints_length] at hl))⟩
            rintro ⟨Oc, qc, cc⟩ hcc
            simp only at hcc ⊢
            apply OL.nil
            exact At.beside { x with O := Oc, q := qc, c := cc, hc := hcc } (by repeat (first | exact Sub.nil | apply Sub.cons rfl | refine Sub.cons_eq rfl (by simp only [v9, v8, v10, v11, v12, v15, cond_true, cond_false]) ?_)) (fun w' hw' => by simp only [v9, v8, v10, v11, v12, v15, cond_true, cond_false]; exact Cls.fill (p := 7) (H := _ :: _ :: _ :: _ :: _ :: _ :: _ :: _ :: _ :: []) (.s (.s (.s (.s (.s (.s (.s .z))))))) hw')
          · cases ho
            have h6 : e 6 = true := hd ⟨6, .data⟩ (by simp) rfl
            have h9 : e 9 = true := hd ⟨9, .data⟩ (by simp) rfl
            have v10 : Eng.upd e 10 10 = true := upd_eq
            have v6 : Eng.upd e 10 6 = true := upd_mono h6
            have v9 : Eng.upd e 10 9 = true := upd_mono h9
            simp only [hei, h6, h9, cond_true, cond_false]
            apply OL.op; exact Guard.none; rfl; rfl; apply Pev.build; rfl; exact CellsL.agg; rfl; apply Fill.cons rfl; exact CellsL.one rfl; rfl; rfl; apply Put.here; apply Over.cons; apply Over.nil; apply Fill.cons rfl; exact CellsL.one rfl; rfl; rfl; apply Put.skip; apply Put.here; apply Over.cons; apply Over.nil; apply Fill.nil; rfl
            apply OL.nil
            exact At.beside x (by repeat (first | exact Sub.nil | apply Sub.cons rfl | refine Sub.cons_eq rfl (by simp only [v10, v6, v9, cond_true, cond_false]) ?_)) (fun w' hw' => by first | exact hw' | (simp only [v10, v6, v9, cond_true, cond_false]; exact hw'))
          · cases ho
            have h10 : e 10 = true := hd ⟨10, .data⟩ (by simp) rfl
            have h12 : e 12 = false := hcl.not (i := 11) (j := 12) rfl hei (by kernel_rfl)
            have v11 : Eng.upd e 11 11 = true := upd_eq
            have v10 : Eng.upd e 11 10 = true := upd_mono h10
            have v12 : Eng.upd e 11 12 = false := h12
            simp only [hei, h10, h12, cond_true, cond_false]
            apply OL.buildSlice; rfl; rfl; rfl; apply Elems.cons rfl; exact CellsL.agg; rfl; apply Elems.nil; apply App.cons; apply App.cons; apply App.nil; rfl; rfl; (intro bk hbk; simp only [AllLe, and_true] at hbk)
            apply OL.nil
            exact At.beside { x with b1 := bk, hb1 := hbk.1 } (by repeat (first | exact Sub.nil | apply Sub.cons rfl | refine Sub.cons_eq rfl (by simp only [v11, v10, v12, cond_true, cond_false]) ?_)) (fun w' hw' => by simp only [v11, v10, v12, cond_true, cond_false]; exact Cls.fill (p := 8) (H := _ :: _ :: _ :: _ :: _ :: _ :: _ :: _ :: _ :: []) (.s (.s (.s (.s (.s (.s (.s (.s .z)))))))) hw')
          · cases ho
            have h4 : e 4 = true := hd ⟨4, .data⟩ (by simp) rfl
            have h11 : e 11 = true := hd ⟨11, .data⟩ (by simp) rfl
            have h15 : e 15 = false := hcl.not (i := 12) (j := 15) rfl hei (by kernel_rfl)
            have v12 : Eng.upd e 12 12 = true := upd_eq
            have v4 : Eng.upd e 12 4 = true := upd_mono h4
            have v11 : Eng.upd e 12 11 = true := upd_mono h11
            have v15 : Eng.upd e 12 15 = false := h15
            simp only [hei, h4, h11, h15, cond_true, cond_false]
            apply OL.append
            rfl
            rfl
            rfl
            rfl
            (repeat (first | apply Hole.z | apply Hole.s))
            (repeat (first | exact List.Mem.head _ | apply List.Mem.tail))
            (repeat (first | apply Take.zero | apply Take.succ))
            rfl
            rfl
            exact ⟨wk, .head _, Nat.le_refl _⟩
            omega
            intro O1 g1 cap1
            apply OL.nil
            exact At.beside { x with g1 := g1, c1 := cap1, O1 := O1 } (by repeat (first | exact Sub.nil | apply Sub.cons rfl | refine Sub.cons_eq rfl (by simp only [v12, v4, v11, v15, cond_true, cond_false]) ?_)) (fun w' hw' => by first | exact hw' | (simp only [v12, v4, v11, v15, cond_true, cond_false]; exact hw'))
          · cases ho
            have h0 : e 0 = true := hd ⟨0, .data⟩ (by simp) rfl
            have v13 : Eng.upd e 13 13 = true := upd_eq
            have v0 : Eng.upd e 13 0 = true := upd_mono h0
            simp only [hei, h0, cond_true, cond_false]
            apply OL.op; exact Guard.none; rfl; rfl; apply Pev.nil_ptr; rfl; exact yes
            apply OL.nil
            exact At.beside x (by repeat (first | exact Sub.nil | apply Sub.cons rfl | refine Sub.cons_eq rfl (by simp only [v13, v0, cond_true, cond_false]) ?_)) (fun w' hw' => by first | exact hw' | (simp only [v13, v0, cond_true, cond_false]; exact hw'))
          · cases ho
            have h13 : e 13 = true := hd ⟨13, .data⟩ (by simp) rfl
            have v14 : Eng.upd e 14 14 = true := upd_eq
            have v13 : Eng.upd e 14 13 = true := upd_mono h13
            simp only [hei, h13, cond_true, cond_false]
            apply ofa; rfl; rfl; rfl
            apply OL.nil
            exact At.beside x (by repeat (first | exact Sub.nil | apply Sub.cons rfl | refine Sub.cons_eq rfl (by simp only [v14, v13, cond_true, cond_false]) ?_)) (fun w' hw' => by first | exact hw' | (simp only [v14, v13, cond_true, cond_false]; exact hw'))
          · cases ho
            have h12 : e 12 = true := hd ⟨12, .data⟩ (by simp) rfl
            have h14 : e 14 = true := hd ⟨14, .data⟩ (by simp) rfl
            have v15 : Eng.upd e 15 15 = true := upd_eq
            have v12 : Eng.upd e 15 12 = true := upd_mono h12
            have v14 : Eng.upd e 15 14 = true := upd_mono h14
            simp only [hei, h12, h14, cond_true, cond_false]
            apply OL.storeB; rfl; rfl; exact CellsL.one rfl; rfl; rfl; rfl; apply Swap.s; apply Swap.s; apply Swap.z; apply Put.skip; apply Put.skip; apply Put.skip; apply Put.skip; apply Put.here; apply Over.cons; apply Over.nil
            apply OL.nil
            exact At.beside x (by repeat (first | exact Sub.nil | apply Sub.cons rfl | refine Sub.cons_eq rfl (by simp only [v15, v12, v14, cond_true, cond_false]) ?_)) (fun w' hw' => by first | exact hw' | (simp only [v15, v12, v14, cond_true, cond_false]; exact hw'))
        · intro x e2 hall
          have hx1 := x.hb1
          have hx2 := x.hc
          simp only [hall 0 (by decide), hall 1 (by decide), hall 2 (by decide), hall 3 (by decide), hall 4 (by decide), hall 5 (by decide), hall 6 (by decide), hall 7 (by decide), hall 8 (by decide), hall 9 (by decide), hall 10 (by decide), hall 11 (by decide), hall 12 (by decide), hall 13 (by decide), hall 14 (by decide), hall 15 (by decide), cond_true]
          have hsn : cat altR_.c az ++ [.int .i64 u.1.tag, .slice x.q u.1.binds.length x.c] = cat altR_.c (az ++ [(u.1, (x.q, x.c))]) := by
            rw [cat_append, cat_one]
            rfl
          rw [hsn]
          with_reducible apply At.in_normal
          with_reducible apply At.next
          apply W.reg
          apply obn; rfl; rfl; rfl; apply Bin.add_in; omega
          apply omv; rfl; rfl
          apply OL.nil
          have hax : (az ++ [(u.1, (x.q, x.c))]).map alSl = az.map alSl ++ [⟨x.q, x.c, ints u.1.binds⟩] := by rw [List.map_append]; rfl
          refine At.again (j + 1, ⟨x.O1, some ⟨x.g1, 0, none⟩, x.c1⟩, (fun k => x.O k ∨ Op k), az ++ [(u.1, (x.q, x.c))]) ⟨by simp only; omega, ?_, fun s hs => ?_⟩ (by simp only; omega) (by (repeat (first | exact Sub.nil | apply Sub.cons rfl | (refine Sub.cons_eq rfl (congrArg (Value.int .i64) (by first | omega | (simp only; omega))) ?_)))) (fun w' hw' => ?_)
          · simp only
            rw [List.map_append, has, List.take_add_one, hu]
            simp
          · simp only at hs
            rcases List.mem_append.1 hs with hs | hs
            · exact hac s hs
            · obtain rfl := List.mem_singleton.1 hs
              exact hx2
          · simp only [hax]
            have h1 := hw'.thin (.keep (.keep (.keep (.keep (.keep (.keep (.blk (by simp only [AllLe, and_true]; omega) (.keep (.blk ⟨hx1, by omega, trivial⟩ Thin.nil)))))))))
            exact Cls.mv (A := [_]) (I := [_, _, _, _, _]) (H := []) (Cls.pile_merge (Cls.flip (Cls.mv (A := [_, _, _, _, _, _]) (I := [_]) (H := []) (Cls.mv (A := [_, _, _, _, _, _]) (I := [_]) (H := []) h1))))
      obtain rfl : j = ps.length := by omega
      rw [List.take_length, hps] at has
      rw [← hpl] at *
      apply W.exit
      with_reducible apply At.then_exit
      with_reducible apply At.then_exit
      with_reducible apply At.in_exit
      with_reducible apply At.next
      apply W.reg
      apply omv; rfl; rfl
      apply omv; rfl; rfl
      apply omv; rfl; rfl
      apply OL.op; exact Guard.none; rfl; rfl; apply Pev.idxB; rfl; exact yes; rfl; exact yes; rfl; intro hcond; omega; rfl
      (apply OL.storeI); rfl; rfl; rfl; rfl; rfl; ((repeat (first | apply Swap.z | apply Swap.s))); (rw [nds_length]; omega)
      have hset : (nds tb i es.length).set (0 + (i : Int).toNat * 1) (.pointer (some ⟨bt, 0, none⟩)) = nds (fun k => if k = i then bt else tb k) (i + 1) es.length := by
        rw [show 0 + (i : Int).toNat * 1 = i by simp, nds_set hil]
      rw [hset]
      apply OL.nil
      with_reducible apply At.in_normal
      with_reducible apply At.next
      apply W.reg
      apply obn; rfl; rfl; rfl; apply Bin.add_in; omega
      apply omv; rfl; rfl
      apply OL.nil
      refine At.againE (fun w' hw' => ⟨(i + 1, w', fun k => if k = i then bt else tb k), ⟨by simp only; omega, Nat.le_trans hwk (hw'.kp wk (.head _)).size, Nat.lt_of_lt_of_le hbnk (hw'.kp wk (.head _)).size, ?_⟩, by simp only; omega, (by (repeat (first | exact Sub.nil | apply Sub.cons rfl | (refine Sub.cons_eq rfl (congrArg (Value.int .i64) (by first | omega | (simp only; omega))) ?_)))), ?_⟩)
      · intro k hk
        simp only at hk ⊢
        have hsz := (hw'.kp wk (.head _)).size
        have hold : ∀ m, m < i → TrO w' (fun b => b < w'.heap.size ∧ b ≠ bn) (grow e m) (tb m) := fun m hm =>
          TrO.mono (fun b hb => ⟨Nat.lt_of_lt_of_le hb.1 hsz, hb.2⟩) (TrO.stab (fun b hb => (hw'.kp wk (.head _)).block b hb.1 (NotOwned.not (by have h1 := hb.1; have h2 := hb.2; (focus ((try simp only [add_block]); (repeat (first | exact NotOwned.nil | exact hno _ (by omega) | refine NotOwned.nothing ?_ | refine NotOwned.nds (hlow _ (by omega)) ?_ | refine NotOwned.mapS (by omega) ?_ | apply NotOwned.bif | refine NotOwned.blk (by omega) ?_ | refine NotOwned.row (by omega) ?_ | refine NotOwned.grid (by assumption) (by omega) ?_ | refine NotOwned.pile (by omega) ?_ | refine NotOwned.pool (by omega) ?_ | refine NotOwned.mapI (by omega) ?_ | refine NotOwned.mapX (by omega) ?_ | refine NotOwned.itI (by omega) ?_)); done))))) (htr m hm))
        have hup : ∀ (j : Eng.Item) (b : Nat), j ∈ (blk bn 69 (nds (fun k => if k = i then bt else tb k) (i + 1) es.length) :: pile wk.heap.size Ob [⟨qb, cb, ints p.1.binds⟩] :: blk bt 91 [.int .i64 p.1.op, .int .i64 p.1.n, .slice qb p.1.binds.length cb, .slice qk p.1.kids.length ck, .slice qa p.1.alts.length ca] :: row wk.heap.size Ok qk p.1.kids.length ck 69 1 (ptrs (kp tb p.1.kids)) :: row wk.heap.size Oa qa p.1.alts.length ca 132 2 (cat altR_.c az) :: pile wk.heap.size Op (az.map alSl) :: [] : List Eng.Item) → j.own b → wk.heap.size ≤ b → b < w'.heap.size ∧ b ≠ bn := fun j b hj hb hle => ⟨hw'.lt j hj b hb, by omega⟩
        by_cases hki : k = i
        · subst hki
          rw [if_pos rfl, grow_eq hd hpe]
          have hbt := hw'.item (i := blk bt 91 [.int .i64 p.1.op, .int .i64 p.1.n, .slice qb p.1.binds.length cb, .slice qk p.1.kids.length ck, .slice qa p.1.alts.length ca]) (by (repeat (first | exact List.Mem.head _ | apply List.Mem.tail)))
          have hpb := hw'.item (i := pile wk.heap.size Ob [⟨qb, cb, ints p.1.binds⟩]) (by (repeat (first | exact List.Mem.head _ | apply List.Mem.tail)))
          have hrk := hw'.item (i := row wk.heap.size Ok qk p.1.kids.length ck 69 1 (ptrs (kp tb p.1.kids))) (by (repeat (first | exact List.Mem.head _ | apply List.Mem.tail)))
          have hra := hw'.item (i := row wk.heap.size Oa qa p.1.alts.length ca 132 2 (cat altR_.c az)) (by (repeat (first | exact List.Mem.head _ | apply List.Mem.tail)))
          have hpa := hw'.item (i := pile wk.heap.size Op (az.map alSl)) (by (repeat (first | exact List.Mem.head _ | apply List.Mem.tail)))
          simp only [TrO]
          refine ⟨⟨(qb, cb), (qk, ck), (qa, ca)⟩, ⟨hup _ bt (.tail _ (.tail _ (.head _))) rfl hx1, fun j v hj => ?_, hLb, hLa, hL.ab, fun hl => ?_, ⟨az, has, fun hl => ?_, fun s hs => ?_⟩⟩, by rw [List.length_map]; exact hkl1, fun hl => ?_⟩
          · rw [add_mid, blk_cell hbt, Nat.zero_add]
            rw [List.length_map] at hj
            exact hj
          · obtain ⟨a, h1, h2, h3⟩ := hpb _ (.head _) (by rw [ints_length]; exact hl)
            exact ⟨a, h1, hup (pile wk.heap.size Ob [⟨qb, cb, ints p.1.binds⟩]) _ (.tail _ (.head _)) h2 h2.1, h3⟩
          · obtain ⟨a, h1, h2, h3⟩ := row_at hra (by rw [cat_length (f := altR_.c) altR_.clen]; exact Nat.mul_pos hl (by decide))
            exact ⟨a, h1, hup (row wk.heap.size Oa qa p.1.alts.length ca 132 2 (cat altR_.c az)) _ (.tail _ (.tail _ (.tail _ (.tail _ (.head _))))) h2 h2.1, h3⟩
          · have hs1 : s.1 ∈ p.1.alts := by rw [← has]; exact List.mem_map_of_mem hs
            obtain ⟨u, hu, hus⟩ : ∃ u ∈ ps, u.1 = s.1 := by
              rw [← hps] at hs1
              obtain ⟨u, hu, hus⟩ := List.mem_map.1 hs1
              exact ⟨u, hu, hus⟩
            have hou := (harr.el u hu).1
            rw [hus] at hou
            refine ⟨hou, ⟨Nat.le_trans (hL.ab _ hs1) (by decide), hac s hs⟩, fun hl => ?_⟩
            obtain ⟨a, h1, h2, h3⟩ := hpa (alSl s) (List.mem_map_of_mem hs) (by show 0 < (ints s.1.binds).length; rw [ints_length]; exact hl)
            exact ⟨a, h1, hup (pile wk.heap.size Op (az.map alSl)) _ (.tail _ (.tail _ (.tail _ (.tail _ (.tail _ (.head _)))))) h2 h2.1, h3⟩
          · rw [List.length_map] at hl
            obtain ⟨a, h1, h2, h3⟩ := row_at hrk (by simpa [ptrs, kp] using hl)
            refine ⟨a, h1, hup (row wk.heap.size Ok qk p.1.kids.length ck 69 1 (ptrs (kp tb p.1.kids))) _ (.tail _ (.tail _ (.tail _ (.head _)))) h2 h2.1, TrsO.of (bs := kp tb p.1.kids) (by simp [kp]) h3 (fun m t b h4 h5 => ?_)⟩
            simp only [kp, List.getElem?_map] at h4 h5
            cases hkm : p.1.kids[m]? with
            | none => rw [hkm] at h4; cases h4
            | some kv =>
              simp only [hkm, Option.map_some, Option.some.injEq] at h4 h5
              subst h4 h5
              have hkr := hdn kv (List.mem_of_getElem? hkm)
              exact hold kv.toNat (by omega)
        · rw [if_neg hki]
          exact hold k (by omega)
      · simp only
        have hany : ∀ (j : Eng.Item), (∀ k, j.own k → wk.heap.size ≤ k) → ∀ k, j.own k → AllLe [wk, w] k := fun j hj k hk => ⟨hj k hk, Nat.le_trans hwk (hj k hk), trivial⟩
        exact ((hw'.thin (.keep (.any (hany _ fun k hk => hk.1) (.blk ⟨hx1, Nat.le_trans hwk hx1, trivial⟩ (.any (hany _ fun k hk => hk.1) (.any (hany _ fun k hk => hk.1) (.any (hany _ fun k hk => hk.1) Thin.nil))))))).note).forget (fun s hs => by simp at hs ⊢; rcases hs with rfl | rfl <;> simp)
  · obtain rfl : i = es.length := by omega
    have hlast : (nds tb es.length es.length)[0 + ((es.length : Int) - 1).toNat * 1]? = some (.pointer (some ⟨tb (es.length - 1), 0, none⟩)) := by
      rw [show 0 + ((es.length : Int) - 1).toNat * 1 = es.length - 1 by omega]
      exact nds_get (by omega) (by omega)
    apply W.exit
    with_reducible apply At.then_exit
    with_reducible apply At.then_exit
    with_reducible apply At.in_exit
    with_reducible apply At.next
    apply W.seq
    apply W.reg
    apply omv; rfl; rfl
    apply omv; rfl; rfl
    apply OL.op; exact Guard.none; rfl; rfl; apply Pev.len_slice; rfl; exact yes; rfl
    apply obn; rfl; rfl; rfl; apply Bin.sub_in; omega
    apply OL.op; exact Guard.none; rfl; rfl; apply Pev.idxB; rfl; exact yes; rfl; exact yes; rfl; intro hcond; omega; rfl
    apply OL.op; exact Guard.none; rfl; rfl; apply Pev.load_blk; rfl; exact yes; exact .head _; rfl; assumption
    apply oas; rfl; rfl
    apply OL.nil
    with_reducible apply At.next
    apply W.ret
    ((with_reducible apply At.fin1); rfl; rfl; intro w' hw')
    have hsz := (hw'.kp wk (.head _)).size
    exact ⟨tb (es.length - 1), rfl, by (exact hw'.toExt (by (repeat (first | exact List.Mem.head _ | apply List.Mem.tail))) (fun k hk => by (focus ((try simp only [add_block]); (repeat (first | exact NotOwned.nil | exact hno _ (by omega) | refine NotOwned.nothing ?_ | refine NotOwned.nds (hlow _ (by omega)) ?_ | refine NotOwned.mapS (by omega) ?_ | apply NotOwned.bif | refine NotOwned.blk (by omega) ?_ | refine NotOwned.row (by omega) ?_ | refine NotOwned.grid (by assumption) (by omega) ?_ | refine NotOwned.pile (by omega) ?_ | refine NotOwned.pool (by omega) ?_ | refine NotOwned.mapI (by omega) ?_ | refine NotOwned.mapX (by omega) ?_ | refine NotOwned.itI (by omega) ?_)); done)))), TrO.mono (fun b hb => Nat.lt_of_lt_of_le hb.1 hsz) (TrO.stab (fun b hb => (hw'.kp wk (.head _)).block b hb.1 (NotOwned.not (by have h1 := hb.1; have h2 := hb.2; (focus ((try simp only [add_block]); (repeat (first | exact NotOwned.nil | exact hno _ (by omega) | refine NotOwned.nothing ?_ | refine NotOwned.nds (hlow _ (by omega)) ?_ | refine NotOwned.mapS (by omega) ?_ | apply NotOwned.bif | refine NotOwned.blk (by omega) ?_ | refine NotOwned.row (by omega) ?_ | refine NotOwned.grid (by assumption) (by omega) ?_ | refine NotOwned.pile (by omega) ?_ | refine NotOwned.pool (by omega) ?_ | refine NotOwned.mapI (by omega) ?_ | refine NotOwned.mapX (by omega) ?_ | refine NotOwned.itI (by omega) ?_)); done))))) (htr _ (by omega)))⟩
end Go.Proofs.YtlboppiogeaicaaDoor.co
