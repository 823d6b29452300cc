/- Texts of the proof of PuritySays, part 3: rules of a calculus for walking, plain laws, and walks of the functions that the law reaches. No condition. -/
import Derived.Sort.Grow
import Derived.Test.YtlboppiogeaicaaDoorProg
import Derived.Shelf.Lays
import Derived.Shelf.Sort.Plain
import Derived.Shelf.Slices.In.SortNone
import Derived.Test.YtlboppiogeaicaaDoorPuritySays2
/- The walk of core's Grow. Conditions: none. (Printed by coh.py.) -/
namespace Go.Co
open Go.Eng Go.RowKit
set_option linter.unusedVariables false
set_option linter.unusedSimpArgs false
def nds (tb : Nat → Nat) (i n : Nat) : List Value := (List.range n).map fun k => if k < i then .pointer (some ⟨tb k, 0, none⟩) else .pointer none
theorem nds_length (tb : Nat → Nat) (i n : Nat) : (nds tb i n).length = n := by simp [nds]
theorem nds_zero (tb : Nat → Nat) (n : Nat) : List.replicate n (Value.pointer none) = nds tb 0 n := by
  refine List.ext_getElem? fun k => ?_
  by_cases h : k < n
  · simp [nds, List.getElem?_replicate, h]
  · simp [nds, List.getElem?_replicate, h]
theorem nds_get {tb : Nat → Nat} {i n k : Nat} (hk : k < i) (hn : k < n) : (nds tb i n)[k]? = some (.pointer (some ⟨tb k, 0, none⟩)) := by simp [nds, hk, hn]
theorem nds_set {tb : Nat → Nat} {i n b : Nat} (hi : i < n) : (nds tb i n).set i (.pointer (some ⟨b, 0, none⟩)) = nds (fun k => if k = i then b else tb k) (i + 1) n := by
  refine List.ext_getElem? fun k => ?_
  rw [List.getElem?_set]
  by_cases h : i = k
  · subst h
    simp [nds, hi]
  · rw [if_neg h]
    have h2 : ¬ k = i := fun e => h e.symm
    by_cases hk : k < n
    · have : (k < i) = (k < i + 1) := by simp; omega
      simp [nds, hk, h2, this]
    · rw [List.getElem?_eq_none (by rw [nds_length]; omega), List.getElem?_eq_none (by rw [nds_length]; omega)]
def kp (tb : Nat → Nat) (l : List Int) : List Nat := l.map fun k => tb k.toNat
def alSl (a : Al × Sc) : Sl := ⟨a.2.1, a.2.2, ints a.1.binds⟩
end Go.Co
namespace Go.Proofs.YtlboppiogeaicaaDoor.co
open Go.RowKit Go.Eng Go.Co
set_option linter.unusedVariables false
set_option linter.unusedSimpArgs false
set_option maxRecDepth 100000
structure XG (S : List World) (n B : Nat) where
  O : Nat → Prop
  q : Option Addr
  c : Nat
  hc : n ≤ c
  bt : Nat
  hbt : B ≤ bt
  g1 : Nat
  c1 : Nat
  O1 : Nat → Prop
  b1 : Nat
  hb1 : B ≤ b1
  old : Nat → Value
theorem Grow_calls (es : List (Ex × ExY)) (q : Option Addr) (cap : Nat) (w : World) (he : Arr exR w (low w) es q) (hlen : es.length ≤ 4096) (h0 : 0 < es.length) (hd : Down (es.map Prod.fst)) (hlim : ∀ p ∈ es, Lim p.1) (hkl : ∀ p ∈ es, p.1.kids.length ≤ 4096) :
    Calls Tryd.prog 49 [.slice q es.length cap].toArray w fun e w' => ∃ b, e = .returned (.pointer (some ⟨b, 0, none⟩)) ∧ Ext w w' ∧ TrO w' (low w') (grow (es.map Prod.fst) (es.length - 1)) b := by
  obtain ⟨e, hee⟩ : ∃ e, es.map Prod.fst = e := ⟨_, rfl⟩
  have hel : e.length = es.length := by rw [← hee, List.length_map]
  rw [hee] at hd ⊢
  have hget : ∀ {i : Nat}, i < es.length → ∃ a p, q = some a ∧ a.block < w.heap.size ∧ es[i]? = some p ∧ e[i]? = some p.1 ∧ CellsAt w (a.add (i * 5)) [.int .i64 p.1.op, .int .i64 p.1.n, .slice p.2.b.1 p.1.binds.length p.2.b.2, .slice p.2.k.1 p.1.kids.length p.2.k.2, .slice p.2.a.1 p.1.alts.length p.2.a.2] ∧ ExOk w (low w) p.1 p.2 := fun {i} hi => by
    obtain ⟨a, p, h1, h2, h3, h4, h5⟩ := he.get hi
    exact ⟨a, p, h1, h2, h3, by rw [← hee, List.getElem?_map, h3]; rfl, h4, h5⟩
  refine enter Tryd.func49 rfl Tryd.ntmps49 rfl (Cls.start w) ?_
  (simp only [argEnv, Nat.zero_add, Nat.reduceAdd])
  apply W.sr
  apply oas; rfl; rfl
  apply OL.nsr
  apply omv; rfl; rfl
  apply oop; rfl; apply Pev.len_slice; rfl; exact yes; rfl
  apply OL.makeSlice; rfl; rfl; rfl; rfl; rfl; rfl; rfl; omega; (intro bk hbk; simp only [AllLe, and_true] at hbk)
  apply oas; rfl; rfl
  apply OL.nx
  apply W.seq
  apply W.sr
  apply omv; rfl; rfl
  apply oop; rfl; apply Pev.len_slice; rfl; exact yes; rfl
  apply omv; rfl; rfl
  apply OL.nx
  apply W.block
  revert bk
  intro bn hbn
  have hz0 : List.replicate es.length (Value.pointer none) = nds (fun _ => 0) 0 es.length := nds_zero _ _
  refine W.exx (X := { x : World // bn < x.heap.size ∧ w.heap.size ≤ x.heap.size }) (C' := fun x => Cls [blk bn 69 (nds (fun _ => 0) 0 es.length)] [x.1, w]) (fun w2 hw2 => by rw [hz0] at hw2; exact ⟨⟨w2, hw2.lt _ (.head _) bn rfl, (hw2.kp w (.head _)).size⟩, hw2.note⟩) ?_
  rintro ⟨w0, hw0a, hw0b⟩
  simp only
  refine W.loop (G := Nat × World × (Nat → Nat)) (fun g => g.1 ≤ es.length ∧ w.heap.size ≤ g.2.1.heap.size ∧ bn < g.2.1.heap.size ∧ ∀ k, k < g.1 → TrO g.2.1 (fun b => b < g.2.1.heap.size ∧ b ≠ bn) (grow e k) (g.2.2 k)) (fun g => es.length - g.1)
    (fun g => [(0, true, .slice q es.length cap), (3, true, .slice (some ⟨bn, 0, none⟩) es.length es.length), (14, true, .slice q es.length cap), (15, true, .int .i64 (es.length : Int)), (16, true, .int .i64 (g.1 : Int))])
    (fun g => Cls [blk bn 69 (nds g.2.2 g.1 es.length)] [g.2.1, w]) (0, w0, fun _ => 0) ⟨by simp, hw0b, hw0a, fun k hk => by simp at hk⟩ (by exact Sub.au) (fun w' hw' => hw') ?_
  rintro ⟨i, wk, tb⟩ ⟨hi, hwk, hbnk, htr⟩
  simp only at hi hwk hbnk htr ⊢
  apply W.sr
  apply obn; rfl; rfl; rfl; apply Bin.lss
  apply OL.nx
  apply W.seq
  (refine W.cnd (fun hlt => ?_) (fun hlt => ?_)) <;> (try (exfalso; first | omega | exact hlt trivial | contradiction))
  · have hil : i < es.length := by omega
    obtain ⟨a, p, rfl, hab, hp, hpe, hcell, hok⟩ := hget hil
    have hL := hlim p (List.mem_of_getElem? hp)
    have hLb := hL.b
    have hLa := hL.a
    have hkl1 := hkl p (List.mem_of_getElem? hp)
    have hdn := hd i _ hpe
    apply W.sk
    apply W.sb
    apply W.sr
    apply omv; rfl; rfl
    apply oop; rfl; apply Pev.idx; rfl; exact yes; rfl; exact yes; rfl; rfl; intro hcond; omega
    apply oop; rfl; apply Pev.load_keptA; rfl; exact yes; exact .tail _ (.head _); rfl; intro hcond; assumption; rfl; intro hcond; (rw [add_block]; assumption); intro hcond; exact NotOwned.au
    apply OL.alloc; rfl; rfl; exact CellsL.agg; (intro bk hbk; simp only [AllLe, and_true] at hbk)
    apply oas; rfl; rfl
    apply OL.storeB; rfl; rfl; exact CellsL.agg; rfl; rfl; rfl; exact Swap.au; exact Put.au
    apply OL.nx
    apply W.seq
    revert bk
    intro bx hbx
    refine W.cls (fun w' hw' => Cls.flip hw') ?_
    refine W.regany (X := XG [wk, w] p.1.binds.length wk.heap.size) (fun x e => [(6, true, bif e 9 then .pointer (some ⟨x.bt, 0, none⟩) else x.old 6), (29, true, bif e 8 then .pointer (some ⟨x.bt, 0, none⟩) else x.old 29), (28, true, bif e 7 then .agg [.int .i64 p.1.op, .int .i64 p.1.n, .slice x.q p.1.binds.length x.c, .slice none 0 0, .slice none 0 0].toArray else x.old 28), (27, true, bif e 6 then .slice x.q p.1.binds.length x.c else x.old 27), (26, true, bif e 5 then .slice p.2.b.1 p.1.binds.length p.2.b.2 else x.old 26), (25, true, bif e 4 then .pointer (some ⟨bx, 0 + 2, none⟩) else x.old 25), (24, true, bif e 3 then .int .i64 p.1.n else x.old 24), (23, true, bif e 2 then .pointer (some ⟨bx, 0 + 1, none⟩) else x.old 23), (22, true, bif e 1 then .int .i64 p.1.op else x.old 22), (21, true, bif e 0 then .pointer (some ⟨bx, 0 + 0, none⟩) else x.old 21), (0, true, .slice (some a) es.length cap), (3, true, .slice (some ⟨bn, 0, none⟩) es.length es.length), (4, true, .int .i64 (i : Int)), (14, true, .slice (some a) es.length cap), (15, true, .int .i64 (es.length : Int)), (16, true, .int .i64 (i : Int)), (5, true, .pointer (some ⟨bx, 0, none⟩))])
      (fun x e => (blk bn 69 (nds tb i es.length)) :: (blk bx 28 [.int .i64 p.1.op, .int .i64 p.1.n, .slice p.2.b.1 p.1.binds.length p.2.b.2, .slice p.2.k.1 p.1.kids.length p.2.k.2, .slice p.2.a.1 p.1.alts.length p.2.a.2]) :: (bif e 6 then pile wk.heap.size x.O [⟨x.q, x.c, ints p.1.binds⟩] else nothing) :: (bif e 8 then blk x.bt 91 [.int .i64 p.1.op, .int .i64 p.1.n, .slice x.q p.1.binds.length x.c, .slice none 0 0, .slice none 0 0] else nothing) :: [])
      (fun old => ⟨fun _ => False, none, p.1.binds.length, Nat.le_refl _, wk.heap.size, Nat.le_refl _, 0, 0, fun _ => False, wk.heap.size, Nat.le_refl _, old⟩) (by kernel_rfl) (by kernel_rfl) (fun w hw => hw.drew) (fun old => by repeat (first | exact SubO.nil | apply SubO.cons rfl | refine SubO.old rfl ?_)) (fun old w' hw' => hw'.add_nothing.add_nothing) ?_ ?_
    · intro x e i o ho hei hd hcl
      have hi : i < 10 := (List.getElem?_eq_some_iff.1 ho).1
      obtain rfl | rfl | rfl | rfl | rfl | rfl | rfl | rfl | rfl | rfl : i = 0 ∨ i = 1 ∨ i = 2 ∨ i = 3 ∨ i = 4 ∨ i = 5 ∨ i = 6 ∨ i = 7 ∨ i = 8 ∨ i = 9 := by omega
      · cases ho
        have v0 : Eng.upd e 0 0 = true := upd_eq
        simp only [hei, cond_true, cond_false]
        apply ofa; rfl; rfl; rfl
        apply OL.nil
        exact At.beside x (by repeat (first | exact Sub.nil | apply Sub.cons rfl | refine Sub.cons_eq rfl (by simp only [v0, cond_true, cond_false]) ?_)) (fun w' hw' => by first | exact hw' | (simp only [v0, cond_true, cond_false]; exact hw'))
      · cases ho
        have h0 : e 0 = true := hd ⟨0, .data⟩ (by simp) rfl
        have v1 : Eng.upd e 1 1 = true := upd_eq
        have v0 : Eng.upd e 1 0 = true := upd_mono h0
        simp only [hei, h0, cond_true, cond_false]
        apply old; rfl; rfl; exact .tail _ (.head _); rfl; rfl
        apply OL.nil
        exact At.beside x (by repeat (first | exact Sub.nil | apply Sub.cons rfl | refine Sub.cons_eq rfl (by simp only [v1, v0, cond_true, cond_false]) ?_)) (fun w' hw' => by first | exact hw' | (simp only [v1, v0, cond_true, cond_false]; exact hw'))
      · cases ho
        have v2 : Eng.upd e 2 2 = true := upd_eq
        simp only [hei, cond_true, cond_false]
        apply ofa; rfl; rfl; rfl
        apply OL.nil
        exact At.beside x (by repeat (first | exact Sub.nil | apply Sub.cons rfl | refine Sub.cons_eq rfl (by simp only [v2, cond_true, cond_false]) ?_)) (fun w' hw' => by first | exact hw' | (simp only [v2, cond_true, cond_false]; exact hw'))
      · cases ho
        have h2 : e 2 = true := hd ⟨2, .data⟩ (by simp) rfl
        have v3 : Eng.upd e 3 3 = true := upd_eq
        have v2 : Eng.upd e 3 2 = true := upd_mono h2
        simp only [hei, h2, cond_true, cond_false]
        apply old; rfl; rfl; exact .tail _ (.head _); rfl; rfl
        apply OL.nil
        exact At.beside x (by repeat (first | exact Sub.nil | apply Sub.cons rfl | refine Sub.cons_eq rfl (by simp only [v3, v2, cond_true, cond_false]) ?_)) (fun w' hw' => by first | exact hw' | (simp only [v3, v2, cond_true, cond_false]; exact hw'))
      · cases ho
        have v4 : Eng.upd e 4 4 = true := upd_eq
        simp only [hei, cond_true, cond_false]
        apply ofa; rfl; rfl; rfl
        apply OL.nil
        exact At.beside x (by repeat (first | exact Sub.nil | apply Sub.cons rfl | refine Sub.cons_eq rfl (by simp only [v4, cond_true, cond_false]) ?_)) (fun w' hw' => by first | exact hw' | (simp only [v4, cond_true, cond_false]; exact hw'))
      · cases ho
        have h4 : e 4 = true := hd ⟨4, .data⟩ (by simp) rfl
        have v5 : Eng.upd e 5 5 = true := upd_eq
        have v4 : Eng.upd e 5 4 = true := upd_mono h4
        simp only [hei, h4, cond_true, cond_false]
        apply old; rfl; rfl; exact .tail _ (.head _); rfl; rfl
        apply OL.nil
        exact At.beside x (by repeat (first | exact Sub.nil | apply Sub.cons rfl | refine Sub.cons_eq rfl (by simp only [v5, v4, cond_true, cond_false]) ?_)) (fun w' hw' => by first | exact hw' | (simp only [v5, v4, cond_true, cond_false]; exact hw'))
      · cases ho
        have h5 : e 5 = true := hd ⟨5, .data⟩ (by simp) rfl
        have h7 : e 7 = false := hcl.not (i := 6) (j := 7) rfl hei (by kernel_rfl)
        have h8 : e 8 = false := hcl.not (i := 7) (j := 8) rfl h7 (by kernel_rfl)
        have v6 : Eng.upd e 6 6 = true := upd_eq
        have v5 : Eng.upd e 6 5 = true := upd_mono h5
        have v7 : Eng.upd e 6 7 = false := h7
        have v8 : Eng.upd e 6 8 = false := h8
        simp only [hei, h5, h7, h8, cond_true, cond_false]
        refine OL.callE (α := (Nat → Prop) × Option Addr × Nat) (fun z => .slice z.2.1 p.1.binds.length z.2.2) (fun z => p.1.binds.length ≤ z.2.2) (fun z => Cls (pile wk.heap.size z.1 [⟨z.2.1, z.2.2, ints p.1.binds⟩] :: blk bn 69 (nds tb i es.length) :: blk bx 28 [.int .i64 p.1.op, .int .i64 p.1.n, .slice p.2.b.1 p.1.binds.length p.2.b.2, .slice p.2.k.1 p.1.kids.length p.2.k.2, .slice p.2.a.1 p.1.alts.length p.2.a.2] :: nothing :: nothing :: []) [wk, w]) rfl rfl (by exact Args.au) (fun w2 hw2 => ?_) ?_
        · exact (Clone_calls p.2.b.1 p.2.b.2 p.1.binds w2 (hok.b.at hw2 (.tail _ (.head _)) (fun k hk => by exact NotOwned.au)) (by omega)).mono fun e w3 ⟨q', c', h1, h2, h3, h4⟩ => ⟨(_, q', c'), h1, h4, hw2.pile_new (hw2.kp wk (.head _)).size h2 (fun hl => h3 (by rwa [ints_length] at hl))⟩
        rintro ⟨Oc, qc, cc⟩ hcc
        simp only at hcc ⊢
        apply OL.nil
        exact At.beside { x with O := Oc, q := qc, c := cc, hc := hcc } (by repeat (first | exact Sub.nil | apply Sub.cons rfl | refine Sub.cons_eq rfl (by simp only [v6, v5, v7, v8, cond_true, cond_false]) ?_)) (fun w' hw' => by simp only [v6, v5, v7, v8, cond_true, cond_false]; exact Cls.fill (p := 2) (H := _ :: _ :: _ :: _ :: []) (.s (.s .z)) hw')
      · cases ho
        have h1 : e 1 = true := hd ⟨1, .data⟩ (by simp) rfl
        have h3 : e 3 = true := hd ⟨3, .data⟩ (by simp) rfl
        have h6 : e 6 = true := hd ⟨6, .data⟩ (by simp) rfl
        have v7 : Eng.upd e 7 7 = true := upd_eq
        have v1 : Eng.upd e 7 1 = true := upd_mono h1
        have v3 : Eng.upd e 7 3 = true := upd_mono h3
        have v6 : Eng.upd e 7 6 = true := upd_mono h6
        simp only [hei, h1, h3, h6, cond_true, cond_false]
        apply oop; rfl; apply Pev.build; rfl; exact CellsL.agg; rfl; exact Fill.au; rfl
        apply OL.nil
        exact At.beside x (by repeat (first | exact Sub.nil | apply Sub.cons rfl | refine Sub.cons_eq rfl (by simp only [v7, v1, v3, v6, cond_true, cond_false]) ?_)) (fun w' hw' => by first | exact hw' | (simp only [v7, v1, v3, v6, cond_true, cond_false]; exact hw'))
      · cases ho
        have h7 : e 7 = true := hd ⟨7, .data⟩ (by simp) rfl
        have h9 : e 9 = false := hcl.not (i := 8) (j := 9) rfl hei (by kernel_rfl)
        have v8 : Eng.upd e 8 8 = true := upd_eq
        have v7 : Eng.upd e 8 7 = true := upd_mono h7
        have v9 : Eng.upd e 8 9 = false := h9
        simp only [hei, h7, h9, cond_true, cond_false]
        apply OL.box; rfl; rfl; exact CellsL.agg; (intro bk hbk; simp only [AllLe, and_true] at hbk)
        apply OL.nil
        exact At.beside { x with bt := bk, hbt := hbk.1 } (by repeat (first | exact Sub.nil | apply Sub.cons rfl | refine Sub.cons_eq rfl (by simp only [v8, v7, v9, cond_true, cond_false]) ?_)) (fun w' hw' => by simp only [v8, v7, v9, cond_true, cond_false]; exact Cls.fill (p := 3) (H := _ :: _ :: _ :: _ :: []) (.s (.s (.s .z))) hw')
      · cases ho
        have h8 : e 8 = true := hd ⟨8, .data⟩ (by simp) rfl
        have v9 : Eng.upd e 9 9 = true := upd_eq
        have v8 : Eng.upd e 9 8 = true := upd_mono h8
        simp only [hei, h8, cond_true, cond_false]
        apply oas; rfl; rfl
        apply OL.nil
        exact At.beside x (by repeat (first | exact Sub.nil | apply Sub.cons rfl | refine Sub.cons_eq rfl (by simp only [v9, v8, cond_true, cond_false]) ?_)) (fun w' hw' => by first | exact hw' | (simp only [v9, v8, cond_true, cond_false]; exact hw'))
    · intro x e2 hall
      have hx1 := x.hbt
      have hx2 := x.hc
      simp only [hall 0 (by decide), hall 1 (by decide), hall 2 (by decide), hall 3 (by decide), hall 4 (by decide), hall 5 (by decide), hall 6 (by decide), hall 7 (by decide), hall 8 (by decide), hall 9 (by decide), cond_true]
      generalize x.bt = bt at *
      generalize x.O = Ob at *
      generalize x.c = cb at *
      generalize x.q = qb at *
      clear x
      with_reducible apply At.next
      apply W.seq
      apply W.sr
      apply ofa; rfl; rfl; rfl
      apply old; rfl; rfl; exact .tail _ (.head _); rfl; rfl
      apply oop; rfl; apply Pev.len_slice; rfl; exact yes; rfl
      apply omv; rfl; rfl
      apply OL.nx
      apply W.block
      refine W.loop (G := Nat × GR) (fun g => g.1 ≤ p.1.kids.length) (fun g => p.1.kids.length - g.1)
        (fun g => [(0, true, .slice (some a) es.length cap), (3, true, .slice (some ⟨bn, 0, none⟩) es.length es.length), (4, true, .int .i64 (i : Int)), (5, true, .pointer (some ⟨bx, 0, none⟩)), (6, true, .pointer (some ⟨bt, 0, none⟩)), (14, true, .slice (some a) es.length cap), (15, true, .int .i64 (es.length : Int)), (16, true, .int .i64 (i : Int)), (31, true, .slice p.2.k.1 p.1.kids.length p.2.k.2), (32, true, .int .i64 (p.1.kids.length : Int)), (33, true, .int .i64 (g.1 : Int))])
        (fun g => Cls (blk bn 69 (nds tb i es.length) :: blk bx 28 [.int .i64 p.1.op, .int .i64 p.1.n, .slice p.2.b.1 p.1.binds.length p.2.b.2, .slice p.2.k.1 p.1.kids.length p.2.k.2, .slice p.2.a.1 p.1.alts.length p.2.a.2] :: pile wk.heap.size Ob [⟨qb, cb, ints p.1.binds⟩] :: blk bt 91 [.int .i64 p.1.op, .int .i64 p.1.n, .slice qb p.1.binds.length cb, .slice g.2.q g.1 g.2.c, .slice none 0 0] :: row wk.heap.size g.2.O g.2.q g.1 g.2.c 69 1 (ptrs (kp tb (p.1.kids.take g.1))) :: []) [wk, w]) (0, ⟨fun _ => False, none, 0⟩) (by simp) (by exact Sub.au) (fun w' hw' => Cls.mv (A := [_]) (I := [_, _, _, _]) (H := []) (hw'.row_nil wk.heap.size _ 1)) ?_
      rintro ⟨j, ⟨Ok, qk, ck⟩⟩ hj
      simp only at hj ⊢
      apply W.sr
      apply obn; rfl; rfl; rfl; apply Bin.lss
      apply OL.nx
      apply W.seq
      (refine W.cnd (fun hlt2 => ?_) (fun hlt2 => ?_)) <;> (try (exfalso; first | omega | exact hlt2 trivial | contradiction))
      · have hjl : j < p.1.kids.length := by omega
        obtain ⟨ak, k, hqk, habk, hk, hck⟩ := hok.k.get hjl
        have habk : ak.block < w.heap.size := habk
        have hkr := hdn k (List.mem_of_getElem? hk)
        obtain ⟨kn, rfl⟩ : ∃ kn : Nat, k = (kn : Int) := ⟨k.toNat, by omega⟩
        have hkn : (nds tb i es.length)[0 + (kn : Int).toNat * 1]? = some (.pointer (some ⟨tb kn, 0, none⟩)) := by
          have h1 := nds_get (tb := tb) (i := i) (n := es.length) (k := kn) (by omega) (by omega)
          simpa using h1
        rw [hqk]
        apply W.sk
        apply W.sb
        apply W.sr
        apply oop; rfl; apply Pev.idx; rfl; exact yes; rfl; exact yes; rfl; rfl; intro hcond; omega
        apply oop; rfl; apply Pev.load_kept; rfl; exact yes; exact .tail _ (.head _); rfl; intro hcond; assumption; intro hcond; (rw [add_block]; assumption); intro hcond; exact NotOwned.au
        apply oas; rfl; rfl
        apply OL.nx
        refine W.regany (X := XG [wk, w] p.1.binds.length wk.heap.size) (fun x e => [(49, true, bif e 12 then .pointer (some ⟨bt, 0 + 3, none⟩) else x.old 49), (48, true, bif e 11 then .pointer (some ⟨bt, 0, none⟩) else x.old 48), (47, true, bif e 10 then .slice (some ⟨x.g1, 0, none⟩) (j + 1) x.c1 else x.old 47), (46, true, bif e 9 then .slice (some ⟨x.b1, 0, none⟩) 1 1 else x.old 46), (45, true, bif e 8 then Value.pointer (some ⟨tb kn, 0, none⟩) else x.old 45), (44, true, bif e 7 then .pointer (some ⟨bn, 0 + (kn : Int).toNat * 1, none⟩) else x.old 44), (43, true, bif e 6 then .int .i64 (kn : Int) else x.old 43), (42, true, bif e 5 then .slice (some ⟨bn, 0, none⟩) es.length es.length else x.old 42), (41, true, bif e 4 then .slice qk j ck else x.old 41), (40, true, bif e 3 then .pointer (some ⟨bt, 0 + 3, none⟩) else x.old 40), (39, true, bif e 2 then .pointer (some ⟨bt, 0, none⟩) else x.old 39), (38, true, bif e 1 then .pointer (some ⟨bt, 0, none⟩) else x.old 38), (37, true, bif e 0 then .pointer (some ⟨bt, 0, none⟩) else x.old 37), (0, true, .slice (some a) es.length cap), (3, true, .slice (some ⟨bn, 0, none⟩) es.length es.length), (4, true, .int .i64 (i : Int)), (14, true, .slice (some a) es.length cap), (15, true, .int .i64 (es.length : Int)), (16, true, .int .i64 (i : Int)), (5, true, .pointer (some ⟨bx, 0, none⟩)), (6, true, .pointer (some ⟨bt, 0, none⟩)), (8, true, .int .i64 (kn : Int)), (31, true, .slice (some ak) p.1.kids.length p.2.k.2), (32, true, .int .i64 (p.1.kids.length : Int)), (33, true, .int .i64 (j : Int))])
          (fun x e => (blk bn 69 (nds tb i es.length)) :: (blk bx 28 [.int .i64 p.1.op, .int .i64 p.1.n, .slice p.2.b.1 p.1.binds.length p.2.b.2, .slice (some ak) p.1.kids.length p.2.k.2, .slice p.2.a.1 p.1.alts.length p.2.a.2]) :: (pile wk.heap.size Ob [⟨qb, cb, ints p.1.binds⟩]) :: (blk bt 91 [.int .i64 p.1.op, .int .i64 p.1.n, .slice qb p.1.binds.length cb, bif e 13 then .slice (some ⟨x.g1, 0, none⟩) (j + 1) x.c1 else .slice qk j ck, .slice none 0 0]) :: (bif e 10 then row wk.heap.size x.O1 (some ⟨x.g1, 0, none⟩) (j + 1) x.c1 69 1 ((ptrs (kp tb (p.1.kids.take j))) ++ [Value.pointer (some ⟨tb kn, 0, none⟩)]) else row wk.heap.size Ok qk j ck 69 1 (ptrs (kp tb (p.1.kids.take j)))) :: (bif e 9 then blk x.b1 69 [Value.pointer (some ⟨tb kn, 0, none⟩)] else nothing) :: [])
          (fun old => ⟨fun _ => False, none, p.1.binds.length, Nat.le_refl _, wk.heap.size, Nat.le_refl _, 0, 0, fun _ => False, wk.heap.size, Nat.le_refl _, old⟩) (by kernel_rfl) (by kernel_rfl) (fun w hw => hw.drew) (fun old => by repeat (first | exact SubO.nil | apply SubO.cons rfl | refine SubO.old rfl ?_)) (fun old w' hw' => hw'.add_nothing) ?_ ?_
        · intro x e i o ho hei hd hcl
          have hi : i < 14 := (List.getElem?_eq_some_iff.1 ho).1
          obtain rfl | rfl | rfl | rfl | rfl | rfl | rfl | rfl | rfl | rfl | rfl | rfl | rfl | rfl : i = 0 ∨ i = 1 ∨ i = 2 ∨ i = 3 ∨ i = 4 ∨ i = 5 ∨ i = 6 ∨ i = 7 ∨ i = 8 ∨ i = 9 ∨ i = 10 ∨ i = 11 ∨ i = 12 ∨ i = 13 := by omega
          · cases ho
            have v0 : Eng.upd e 0 0 = true := upd_eq
            simp only [hei, cond_true, cond_false]
            apply omv; rfl; rfl
            apply OL.nil
            exact At.beside x (by repeat (first | exact Sub.nil | apply Sub.cons rfl | refine Sub.cons_eq rfl (by simp only [v0, cond_true, cond_false]) ?_)) (fun w' hw' => by first | exact hw' | (simp only [v0, cond_true, cond_false]; exact hw'))
          · cases ho
            have v1 : Eng.upd e 1 1 = true := upd_eq
            simp only [hei, cond_true, cond_false]
            apply omv; rfl; rfl
            apply OL.nil
            exact At.beside x (by repeat (first | exact Sub.nil | apply Sub.cons rfl | refine Sub.cons_eq rfl (by simp only [v1, cond_true, cond_false]) ?_)) (fun w' hw' => by first | exact hw' | (simp only [v1, cond_true, cond_false]; exact hw'))
          · cases ho
            have h1 : e 1 = true := hd ⟨1, .data⟩ (by simp) rfl
            have v2 : Eng.upd e 2 2 = true := upd_eq
            have v1 : Eng.upd e 2 1 = true := upd_mono h1
            simp only [hei, h1, cond_true, cond_false]
            apply oop; rfl; apply Pev.nil_ptr; rfl; exact yes
            apply OL.nil
            exact At.beside x (by repeat (first | exact Sub.nil | apply Sub.cons rfl | refine Sub.cons_eq rfl (by simp only [v2, v1, cond_true, cond_false]) ?_)) (fun w' hw' => by first | exact hw' | (simp only [v2, v1, cond_true, cond_false]; exact hw'))
          · cases ho
            have h2 : e 2 = true := hd ⟨2, .data⟩ (by simp) rfl
            have v3 : Eng.upd e 3 3 = true := upd_eq
            have v2 : Eng.upd e 3 2 = true := upd_mono h2
            simp only [hei, h2, cond_true, cond_false]
            apply ofa; rfl; rfl; rfl
            apply OL.nil
            exact At.beside x (by repeat (first | exact Sub.nil | apply Sub.cons rfl | refine Sub.cons_eq rfl (by simp only [v3, v2, cond_true, cond_false]) ?_)) (fun w' hw' => by first | exact hw' | (simp only [v3, v2, cond_true, cond_false]; exact hw'))
          · cases ho
            have h3 : e 3 = true := hd ⟨3, .data⟩ (by simp) rfl
            have h13 : e 13 = false := hcl.not (i := 4) (j := 13) rfl hei (by kernel_rfl)
            have v4 : Eng.upd e 4 4 = true := upd_eq
            have v3 : Eng.upd e 4 3 = true := upd_mono h3
            have v13 : Eng.upd e 4 13 = false := h13
            simp only [hei, h3, h13, cond_true, cond_false]
            apply old; rfl; rfl; apply List.Mem.tail; exact .tail _ (.tail _ (.head _)); rfl; rfl
            apply OL.nil
            exact At.beside x (by repeat (first | exact Sub.nil | apply Sub.cons rfl | refine Sub.cons_eq rfl (by simp only [v4, v3, v13, cond_true, cond_false]) ?_)) (fun w' hw' => by first | exact hw' | (simp only [v4, v3, v13, cond_true, cond_false]; exact hw'))
          · cases ho
            have v5 : Eng.upd e 5 5 = true := upd_eq
            simp only [hei, cond_true, cond_false]
            apply omv; rfl; rfl
            apply OL.nil
            exact At.beside x (by repeat (first | exact Sub.nil | apply Sub.cons rfl | refine Sub.cons_eq rfl (by simp only [v5, cond_true, cond_false]) ?_)) (fun w' hw' => by first | exact hw' | (simp only [v5, cond_true, cond_false]; exact hw'))
          · cases ho
            have v6 : Eng.upd e 6 6 = true := upd_eq
            simp only [hei, cond_true, cond_false]
            apply omv; rfl; rfl
            apply OL.nil
            exact At.beside x (by repeat (first | exact Sub.nil | apply Sub.cons rfl | refine Sub.cons_eq rfl (by simp only [v6, cond_true, cond_false]) ?_)) (fun w' hw' => by first | exact hw' | (simp only [v6, cond_true, cond_false]; exact hw'))
          · cases ho
            have h5 : e 5 = true := hd ⟨5, .data⟩ (by simp) rfl
            have h6 : e 6 = true := hd ⟨6, .data⟩ (by simp) rfl
            have v7 : Eng.upd e 7 7 = true := upd_eq
            have v5 : Eng.upd e 7 5 = true := upd_mono h5
            have v6 : Eng.upd e 7 6 = true := upd_mono h6
            simp only [hei, h5, h6, cond_true, cond_false]
            apply oop; rfl; apply Pev.idxB; rfl; exact yes; rfl; exact yes; rfl; intro hcond; omega; rfl
            apply OL.nil
            exact At.beside x (by repeat (first | exact Sub.nil | apply Sub.cons rfl | refine Sub.cons_eq rfl (by simp only [v7, v5, v6, cond_true, cond_false]) ?_)) (fun w' hw' => by first | exact hw' | (simp only [v7, v5, v6, cond_true, cond_false]; exact hw'))
          · cases ho
            have h7 : e 7 = true := hd ⟨7, .data⟩ (by simp) rfl
            have v8 : Eng.upd e 8 8 = true := upd_eq
            have v7 : Eng.upd e 8 7 = true := upd_mono h7
            simp only [hei, h7, cond_true, cond_false]
            apply oop; rfl; apply Pev.load_blk; rfl; exact yes; exact .head _; rfl; assumption
            apply OL.nil
            exact At.beside x (by repeat (first | exact Sub.nil | apply Sub.cons rfl | refine Sub.cons_eq rfl (by simp only [v8, v7, cond_true, cond_false]) ?_)) (fun w' hw' => by first | exact hw' | (simp only [v8, v7, cond_true, cond_false]; exact hw'))
          · cases ho
            have h8 : e 8 = true := hd ⟨8, .data⟩ (by simp) rfl
            have v9 : Eng.upd e 9 9 = true := upd_eq
            have v8 : Eng.upd e 9 8 = true := upd_mono h8
            simp only [hei, h8, cond_true, cond_false]
            apply OL.buildSlice; rfl; rfl; rfl; exact Elems.au; rfl; rfl; (intro bk hbk; simp only [AllLe, and_true] at hbk)
            apply OL.nil
            exact At.beside { x with b1 := bk, hb1 := hbk.1 } (by repeat (first | exact Sub.nil | apply Sub.cons rfl | refine Sub.cons_eq rfl (by simp only [v9, v8, cond_true, cond_false]) ?_)) (fun w' hw' => by simp only [v9, v8, cond_true, cond_false]; exact Cls.fill (p := 5) (H := _ :: _ :: _ :: _ :: _ :: _ :: []) (.s (.s (.s (.s (.s .z))))) hw')
          · cases ho
            have h4 : e 4 = true := hd ⟨4, .data⟩ (by simp) rfl
            have h9 : e 9 = true := hd ⟨9, .data⟩ (by simp) rfl
            have h13 : e 13 = false := hcl.not (i := 10) (j := 13) rfl hei (by kernel_rfl)
            have v10 : Eng.upd e 10 10 = true := upd_eq
            have v4 : Eng.upd e 10 4 = true := upd_mono h4
            have v9 : Eng.upd e 10 9 = true := upd_mono h9
            have v13 : Eng.upd e 10 13 = false := h13
            simp only [hei, h4, h9, h13, cond_true, cond_false]
            apply OL.append
            rfl
            rfl
            rfl
            rfl
            (repeat (first | apply Hole.z | apply Hole.s))
            (repeat (first | exact List.Mem.head _ | apply List.Mem.tail))
            (repeat (first | apply Take.zero | apply Take.succ))
            rfl
            rfl
            exact ⟨wk, .head _, Nat.le_refl _⟩
            omega
            intro O1 g1 cap1
            apply OL.nil
            exact At.beside { x with g1 := g1, c1 := cap1, O1 := O1 } (by repeat (first | exact Sub.nil | apply Sub.cons rfl | refine Sub.cons_eq rfl (by simp only [v10, v4, v9, v13, cond_true, cond_false]) ?_)) (fun w' hw' => by first | exact hw' | (simp only [v10, v4, v9, v13, cond_true, cond_false]; exact hw'))
          · cases ho
            have h0 : e 0 = true := hd ⟨0, .data⟩ (by simp) rfl
            have v11 : Eng.upd e 11 11 = true := upd_eq
            have v0 : Eng.upd e 11 0 = true := upd_mono h0
            simp only [hei, h0, cond_true, cond_false]
            apply oop; rfl; apply Pev.nil_ptr; rfl; exact yes
            apply OL.nil
            exact At.beside x (by repeat (first | exact Sub.nil | apply Sub.cons rfl | refine Sub.cons_eq rfl (by simp only [v11, v0, cond_true, cond_false]) ?_)) (fun w' hw' => by first | exact hw' | (simp only [v11, v0, cond_true, cond_false]; exact hw'))
          · cases ho
            have h11 : e 11 = true := hd ⟨11, .data⟩ (by simp) rfl
            have v12 : Eng.upd e 12 12 = true := upd_eq
            have v11 : Eng.upd e 12 11 = true := upd_mono h11
            simp only [hei, h11, cond_true, cond_false]
            apply ofa; rfl; rfl; rfl
            apply OL.nil
            exact At.beside x (by repeat (first | exact Sub.nil | apply Sub.cons rfl | refine Sub.cons_eq rfl (by simp only [v12, v11, cond_true, cond_false]) ?_)) (fun w' hw' => by first | exact hw' | (simp only [v12, v11, cond_true, cond_false]; exact hw'))
          · cases ho
            have h10 : e 10 = true := hd ⟨10, .data⟩ (by simp) rfl
            have h12 : e 12 = true := hd ⟨12, .data⟩ (by simp) rfl
            have v13 : Eng.upd e 13 13 = true := upd_eq
            have v10 : Eng.upd e 13 10 = true := upd_mono h10
            have v12 : Eng.upd e 13 12 = true := upd_mono h12
            simp only [hei, h10, h12, cond_true, cond_false]
            apply OL.storeB; rfl; rfl; exact CellsL.one rfl; rfl; rfl; rfl; exact Swap.au; exact Put.au
            apply OL.nil
            exact At.beside x (by repeat (first | exact Sub.nil | apply Sub.cons rfl | refine Sub.cons_eq rfl (by simp only [v13, v10, v12, cond_true, cond_false]) ?_)) (fun w' hw' => by first | exact hw' | (simp only [v13, v10, v12, cond_true, cond_false]; exact hw'))
        · intro x e2 hall
          have hx1 := x.hb1
          simp only [hall 0 (by decide), hall 1 (by decide), hall 2 (by decide), hall 3 (by decide), hall 4 (by decide), hall 5 (by decide), hall 6 (by decide), hall 7 (by decide), hall 8 (by decide), hall 9 (by decide), hall 10 (by decide), hall 11 (by decide), hall 12 (by decide), hall 13 (by decide), cond_true]
          have hsn : ptrs (kp tb (p.1.kids.take j)) ++ [.pointer (some ⟨tb kn, 0, none⟩)] = ptrs (kp tb (p.1.kids.take (j + 1))) := by
            rw [List.take_add_one, hk]
            simp [ptrs, kp]
          rw [hsn]
          with_reducible apply At.in_normal
          with_reducible apply At.next
          apply W.reg
          apply obn; rfl; rfl; rfl; apply Bin.add_in; omega
          apply omv; rfl; rfl
          apply OL.nil
          exact At.again (j + 1, ⟨x.O1, some ⟨x.g1, 0, none⟩, x.c1⟩) (by simp only; omega) (by simp only; omega) (by exact Sub.au) (fun w' hw' => hw'.thin (.keep (.keep (.keep (.keep (.keep (.blk ⟨hx1, by omega, trivial⟩ Thin.same)))))))
      obtain rfl : j = p.1.kids.length := by omega
      rw [List.take_length]
      obtain ⟨ps, hps, harr⟩ := hok.alts
      have hpl : p.1.alts.length = ps.length := by rw [← hps, List.length_map]
      rw [hpl]
      refine W.xt ?_
      with_reducible apply At.next
      apply W.seq
      apply W.sr
      apply ofa; rfl; rfl; rfl
      apply old; rfl; rfl; exact .tail _ (.head _); rfl; rfl
      apply oop; rfl; apply Pev.len_slice; rfl; exact yes; rfl
      apply omv; rfl; rfl
      apply OL.nx
      apply W.block
      refine W.loop (G := Nat × GR × (Nat → Prop) × List (Al × Sc)) (fun g => g.1 ≤ ps.length ∧ g.2.2.2.map Prod.fst = (ps.take g.1).map Prod.fst ∧ ∀ s ∈ g.2.2.2, s.1.binds.length ≤ s.2.2) (fun g => ps.length - g.1)
        (fun g => [(0, true, .slice (some a) es.length cap), (3, true, .slice (some ⟨bn, 0, none⟩) es.length es.length), (4, true, .int .i64 (i : Int)), (6, true, .pointer (some ⟨bt, 0, none⟩)), (14, true, .slice (some a) es.length cap), (15, true, .int .i64 (es.length : Int)), (16, true, .int .i64 (i : Int)), (52, true, .slice p.2.a.1 ps.length p.2.a.2), (53, true, .int .i64 (ps.length : Int)), (54, true, .int .i64 (g.1 : Int))])
        (fun g => Cls (blk bn 69 (nds tb i es.length) :: pile wk.heap.size Ob [⟨qb, cb, ints p.1.binds⟩] :: blk bt 91 [.int .i64 p.1.op, .int .i64 p.1.n, .slice qb p.1.binds.length cb, .slice qk p.1.kids.length ck, .slice g.2.1.q g.1 g.2.1.c] :: row wk.heap.size Ok qk p.1.kids.length ck 69 1 (ptrs (kp tb p.1.kids)) :: row wk.heap.size g.2.1.O g.2.1.q g.1 g.2.1.c 132 2 (cat altR_.c g.2.2.2) :: pile wk.heap.size g.2.2.1 (g.2.2.2.map alSl) :: []) [wk, w]) (0, ⟨fun _ => False, none, 0⟩, (fun _ => False), []) ⟨by simp, by simp, fun s hs => by cases hs⟩ (by exact Sub.au) (fun w' hw' => ?_) ?_
      · have h1 := hw'.thin (.keep (.blk (by simp only [AllLe, and_true]; omega) Thin.same))
        exact Cls.mv (A := [_]) (I := [_, _, _, _, _]) (H := []) ((Cls.mv (A := [_]) (I := [_, _, _, _]) (H := []) (h1.row_nil wk.heap.size _ 2)).pile_nil wk.heap.size)
      rintro ⟨j, ⟨Oa, qa, ca⟩, Op, az⟩ ⟨hj2, has, hac⟩
      simp only at hj2 has hac ⊢
      have hasl : az.length = j := by
        have := congrArg List.length has
        simp at this
        omega
      apply W.sr
      apply obn; rfl; rfl; rfl; apply Bin.lss
      apply OL.nx
      apply W.seq
      (refine W.cnd (fun hlt2 => ?_) (fun hlt2 => ?_)) <;> (try (exfalso; first | omega | exact hlt2 trivial | contradiction))
      · have hjl : j < ps.length := by omega
        obtain ⟨aa, u, hqa, haba, hu, hca, hok2⟩ := harr.get hjl
        have haba : aa.block < w.heap.size := haba
        have hca : CellsAt w (aa.add (j * 2)) [.int .i64 u.1.tag, .slice u.2.1 u.1.binds.length u.2.2] := hca
        have huo := hok2.2.2
        have hul : u.1.binds.length ≤ 16 := hL.ab u.1 (by rw [← hps]; exact List.mem_map_of_mem (List.mem_of_getElem? hu))
        rw [hqa]
        apply W.sk
        apply W.sb
        apply W.sr
        apply oop; rfl; apply Pev.idx; rfl; exact yes; rfl; exact yes; rfl; rfl; intro hcond; omega
        apply oop; rfl; apply Pev.load_keptA; rfl; exact yes; exact .tail _ (.head _); rfl; intro hcond; assumption; rfl; intro hcond; (rw [add_block]; assumption); intro hcond; exact NotOwned.au
        apply OL.alloc; rfl; rfl; exact CellsL.agg; (intro bk hbk; simp only [AllLe, and_true] at hbk)
        apply OL.storeB; rfl; rfl; exact CellsL.agg; rfl; rfl; rfl; exact Swap.au; exact Put.au
        apply OL.nx
        revert bk
        intro ba hba
        refine W.cls (fun w' hw' => Cls.mv (A := [_]) (I := [_, _, _, _, _, _]) (H := []) hw') ?_
        simp only [List.cons_append, List.nil_append]
        refine W.regany (X := XG [wk, w] u.1.binds.length wk.heap.size) (fun x e => [(72, true, bif e 14 then .pointer (some ⟨bt, 0 + 4, none⟩) else x.old 72), (71, true, bif e 13 then .pointer (some ⟨bt, 0, none⟩) else x.old 71), (70, true, bif e 12 then .slice (some ⟨x.g1, 0, none⟩) (j + 1) x.c1 else x.old 70), (69, true, bif e 11 then .slice (some ⟨x.b1, 0, none⟩) 1 1 else x.old 69), (68, true, bif e 10 then .agg [.int .i64 u.1.tag, .slice x.q u.1.binds.length x.c].toArray else x.old 68), (67, true, bif e 9 then .slice x.q u.1.binds.length x.c else x.old 67), (66, true, bif e 8 then .slice u.2.1 u.1.binds.length u.2.2 else x.old 66), (65, true, bif e 7 then .pointer (some ⟨ba, 0 + 1, none⟩) else x.old 65), (64, true, bif e 6 then .int .i64 u.1.tag else x.old 64), (63, true, bif e 5 then .pointer (some ⟨ba, 0 + 0, none⟩) else x.old 63), (62, true, bif e 4 then .slice qa j ca else x.old 62), (61, true, bif e 3 then .pointer (some ⟨bt, 0 + 4, none⟩) else x.old 61), (60, true, bif e 2 then .pointer (some ⟨bt, 0, none⟩) else x.old 60), (59, true, bif e 1 then .pointer (some ⟨bt, 0, none⟩) else x.old 59), (58, true, bif e 0 then .pointer (some ⟨bt, 0, none⟩) else x.old 58), (0, true, .slice (some a) es.length cap), (3, true, .slice (some ⟨bn, 0, none⟩) es.length es.length), (4, true, .int .i64 (i : Int)), (14, true, .slice (some a) es.length cap), (15, true, .int .i64 (es.length : Int)), (16, true, .int .i64 (i : Int)), (6, true, .pointer (some ⟨bt, 0, none⟩)), (10, true, .pointer (some ⟨ba, 0, none⟩)), (52, true, .slice (some aa) ps.length p.2.a.2), (53, true, .int .i64 (ps.length : Int)), (54, true, .int .i64 (j : Int))])
          (fun x e => (blk bn 69 (nds tb i es.length)) :: (pile wk.heap.size Ob [⟨qb, cb, ints p.1.binds⟩]) :: (blk bt 91 [.int .i64 p.1.op, .int .i64 p.1.n, .slice qb p.1.binds.length cb, .slice qk p.1.kids.length ck, bif e 15 then .slice (some ⟨x.g1, 0, none⟩) (j + 1) x.c1 else .slice qa j ca]) :: (row wk.heap.size Ok qk p.1.kids.length ck 69 1 (ptrs (kp tb p.1.kids))) :: (bif e 12 then row wk.heap.size x.O1 (some ⟨x.g1, 0, none⟩) (j + 1) x.c1 132 2 (cat altR_.c az ++ [.int .i64 u.1.tag, .slice x.q u.1.binds.length x.c]) else row wk.heap.size Oa qa j ca 132 2 (cat altR_.c az)) :: (pile wk.heap.size Op (az.map alSl)) :: (blk ba 132 [.int .i64 u.1.tag, .slice u.2.1 u.1.binds.length u.2.2]) :: (bif e 9 then pile wk.heap.size x.O [⟨x.q, x.c, ints u.1.binds⟩] else nothing) :: (bif e 11 then blk x.b1 132 [.int .i64 u.1.tag, .slice x.q u.1.binds.length x.c] else nothing) :: [])
          (fun old => ⟨fun _ => False, none, u.1.binds.length, Nat.le_refl _, wk.heap.size, Nat.le_refl _, 0, 0, fun _ => False, wk.heap.size, Nat.le_refl _, old⟩) (by kernel_rfl) (by kernel_rfl) (fun w hw => hw.drew) (fun old => by repeat (first | exact SubO.nil | apply SubO.cons rfl | refine SubO.old rfl ?_)) (fun old w' hw' => hw'.add_nothing.add_nothing) ?_ ?_
        · intro x e i o ho hei hd hcl
          have hi : i < 16 := (List.getElem?_eq_some_iff.1 ho).1
          obtain rfl | rfl | rfl | rfl | rfl | rfl | rfl | rfl | rfl | rfl | rfl | rfl | rfl | rfl | rfl | rfl : i = 0 ∨ i = 1 ∨ i = 2 ∨ i = 3 ∨ i = 4 ∨ i = 5 ∨ i = 6 ∨ i = 7 ∨ i = 8 ∨ i = 9 ∨ i = 10 ∨ i = 11 ∨ i = 12 ∨ i = 13 ∨ i = 14 ∨ i = 15 := by omega
          · cases ho
            have v0 : Eng.upd e 0 0 = true := upd_eq
            simp only [hei, cond_true, cond_false]
            apply omv; rfl; rfl
            apply OL.nil
            exact At.beside x (by repeat (first | exact Sub.nil | apply Sub.cons rfl | refine Sub.cons_eq rfl (by simp only [v0, cond_true, cond_false]) ?_)) (fun w' hw' => by first | exact hw' | (simp only [v0, cond_true, cond_false]; exact hw'))
          · cases ho
            have v1 : Eng.upd e 1 1 = true := upd_eq
            simp only [hei, cond_true, cond_false]
            apply omv; rfl; rfl
            apply OL.nil
            exact At.beside x (by repeat (first | exact Sub.nil | apply Sub.cons rfl | refine Sub.cons_eq rfl (by simp only [v1, cond_true, cond_false]) ?_)) (fun w' hw' => by first | exact hw' | (simp only [v1, cond_true, cond_false]; exact hw'))
          · cases ho
            have h1 : e 1 = true := hd ⟨1, .data⟩ (by simp) rfl
            have v2 : Eng.upd e 2 2 = true := upd_eq
            have v1 : Eng.upd e 2 1 = true := upd_mono h1
            simp only [hei, h1, cond_true, cond_false]
            apply oop; rfl; apply Pev.nil_ptr; rfl; exact yes
            apply OL.nil
            exact At.beside x (by repeat (first | exact Sub.nil | apply Sub.cons rfl | refine Sub.cons_eq rfl (by simp only [v2, v1, cond_true, cond_false]) ?_)) (fun w' hw' => by first | exact hw' | (simp only [v2, v1, cond_true, cond_false]; exact hw'))
          · cases ho
            have h2 : e 2 = true := hd ⟨2, .data⟩ (by simp) rfl
            have v3 : Eng.upd e 3 3 = true := upd_eq
            have v2 : Eng.upd e 3 2 = true := upd_mono h2
            simp only [hei, h2, cond_true, cond_false]
            apply ofa; rfl; rfl; rfl
            apply OL.nil
            exact At.beside x (by repeat (first | exact Sub.nil | apply Sub.cons rfl | refine Sub.cons_eq rfl (by simp only [v3, v2, cond_true, cond_false]) ?_)) (fun w' hw' => by first | exact hw' | (simp only [v3, v2, cond_true, cond_false]; exact hw'))
          · cases ho
            have h3 : e 3 = true := hd ⟨3, .data⟩ (by simp) rfl
            have h15 : e 15 = false := hcl.not (i := 4) (j := 15) rfl hei (by kernel_rfl)
            have v4 : Eng.upd e 4 4 = true := upd_eq
            have v3 : Eng.upd e 4 3 = true := upd_mono h3
            have v15 : Eng.upd e 4 15 = false := h15
            simp only [hei, h3, h15, cond_true, cond_false]
            apply old; rfl; rfl; exact .tail _ (.tail _ (.head _)); rfl; rfl
            apply OL.nil
            exact At.beside x (by repeat (first | exact Sub.nil | apply Sub.cons rfl | refine Sub.cons_eq rfl (by simp only [v4, v3, v15, cond_true, cond_false]) ?_)) (fun w' hw' => by first | exact hw' | (simp only [v4, v3, v15, cond_true, cond_false]; exact hw'))
          · cases ho
            have v5 : Eng.upd e 5 5 = true := upd_eq
            simp only [hei, cond_true, cond_false]
            apply ofa; rfl; rfl; rfl
            apply OL.nil
            exact At.beside x (by repeat (first | exact Sub.nil | apply Sub.cons rfl | refine Sub.cons_eq rfl (by simp only [v5, cond_true, cond_false]) ?_)) (fun w' hw' => by first | exact hw' | (simp only [v5, cond_true, cond_false]; exact hw'))
          · cases ho
            have h5 : e 5 = true := hd ⟨5, .data⟩ (by simp) rfl
            have v6 : Eng.upd e 6 6 = true := upd_eq
            have v5 : Eng.upd e 6 5 = true := upd_mono h5
            simp only [hei, h5, cond_true, cond_false]
            apply old; rfl; rfl; apply List.Mem.tail; apply List.Mem.tail; apply List.Mem.tail; apply List.Mem.tail; exact .tail _ (.tail _ (.head _)); rfl; rfl
            apply OL.nil
            exact At.beside x (by repeat (first | exact Sub.nil | apply Sub.cons rfl | refine Sub.cons_eq rfl (by simp only [v6, v5, cond_true, cond_false]) ?_)) (fun w' hw' => by first | exact hw' | (simp only [v6, v5, cond_true, cond_false]; exact hw'))
          · cases ho
            have v7 : Eng.upd e 7 7 = true := upd_eq
            simp only [hei, cond_true, cond_false]
            apply ofa; rfl; rfl; rfl
            apply OL.nil
            exact At.beside x (by repeat (first | exact Sub.nil | apply Sub.cons rfl | refine Sub.cons_eq rfl (by simp only [v7, cond_true, cond_false]) ?_)) (fun w' hw' => by first | exact hw' | (simp only [v7, cond_true, cond_false]; exact hw'))
          · cases ho
            have h7 : e 7 = true := hd ⟨7, .data⟩ (by simp) rfl
            have v8 : Eng.upd e 8 8 = true := upd_eq
            have v7 : Eng.upd e 8 7 = true := upd_mono h7
            simp only [hei, h7, cond_true, cond_false]
            apply old; rfl; rfl; apply List.Mem.tail; apply List.Mem.tail; apply List.Mem.tail; apply List.Mem.tail; exact .tail _ (.tail _ (.head _)); rfl; rfl
            apply OL.nil
            exact At.beside x (by repeat (first | exact Sub.nil | apply Sub.cons rfl | refine Sub.cons_eq rfl (by simp only [v8, v7, cond_true, cond_false]) ?_)) (fun w' hw' => by first | exact hw' | (simp only [v8, v7, cond_true, cond_false]; exact hw'))
          · cases ho
            have h8 : e 8 = true := hd ⟨8, .data⟩ (by simp) rfl
            have h10 : e 10 = false := hcl.not (i := 9) (j := 10) rfl hei (by kernel_rfl)
            have h11 : e 11 = false := hcl.not (i := 10) (j := 11) rfl h10 (by kernel_rfl)
            have h12 : e 12 = false := hcl.not (i := 9) (j := 12) rfl hei (by kernel_rfl)
            have h15 : e 15 = false := hcl.not (i := 9) (j := 15) rfl hei (by kernel_rfl)
            have v9 : Eng.upd e 9 9 = true := upd_eq
            have v8 : Eng.upd e 9 8 = true := upd_mono h8
            have v10 : Eng.upd e 9 10 = false := h10
            have v11 : Eng.upd e 9 11 = false := h11
            have v12 : Eng.upd e 9 12 = false := h12
            have v15 : Eng.upd e 9 15 = false := h15
            simp only [hei, h8, h10, h11, h12, h15, cond_true, cond_false]
            refine OL.callE (α := (Nat → Prop) × Option Addr × Nat) (fun z => .slice z.2.1 u.1.binds.length z.2.2) (fun z => u.1.binds.length ≤ z.2.2) (fun z => Cls (pile wk.heap.size z.1 [⟨z.2.1, z.2.2, ints u.1.binds⟩] :: blk bn 69 (nds tb i es.length) :: pile wk.heap.size Ob [⟨qb, cb, ints p.1.binds⟩] :: blk bt 91 [.int .i64 p.1.op, .int .i64 p.1.n, .slice qb p.1.binds.length cb, .slice qk p.1.kids.length ck, .slice qa j ca] :: row wk.heap.size Ok qk p.1.kids.length ck 69 1 (ptrs (kp tb p.1.kids)) :: row wk.heap.size Oa qa j ca 132 2 (cat altR_.c az) :: pile wk.heap.size Op (az.map alSl) :: blk ba 132 [.int .i64 u.1.tag, .slice u.2.1 u.1.binds.length u.2.2] :: nothing :: nothing :: []) [wk, w]) rfl rfl (by exact Args.au) (fun w2 hw2 => ?_) ?_
            · exact (Clone_calls u.2.1 u.2.2 u.1.binds w2 (huo.at hw2 (.tail _ (.head _)) (fun k hk => by exact NotOwned.au)) (by omega)).mono fun e w3 ⟨q', c', h1, h2, h3, h4⟩ => ⟨(_, q', c'), h1, h4, hw2.pile_new (hw2.kp wk (.head _)).size h2 (fun hl => h3 (by rwa [ints_length] at hl))⟩
            rintro ⟨Oc, qc, cc⟩ hcc
            simp only at hcc ⊢
            apply OL.nil
            exact At.beside { x with O := Oc, q := qc, c := cc, hc := hcc } (by repeat (first | exact Sub.nil | apply Sub.cons rfl | refine Sub.cons_eq rfl (by simp only [v9, v8, v10, v11, v12, v15, cond_true, cond_false]) ?_)) (fun w' hw' => by simp only [v9, v8, v10, v11, v12, v15, cond_true, cond_false]; exact Cls.fill (p := 7) (H := _ :: _ :: _ :: _ :: _ :: _ :: _ :: _ :: _ :: []) (.s (.s (.s (.s (.s (.s (.s .z))))))) hw')
          · cases ho
            have h6 : e 6 = true := hd ⟨6, .data⟩ (by simp) rfl
            have h9 : e 9 = true := hd ⟨9, .data⟩ (by simp) rfl
            have v10 : Eng.upd e 10 10 = true := upd_eq
            have v6 : Eng.upd e 10 6 = true := upd_mono h6
            have v9 : Eng.upd e 10 9 = true := upd_mono h9
            simp only [hei, h6, h9, cond_true, cond_false]
            apply oop; rfl; apply Pev.build; rfl; exact CellsL.agg; rfl; exact Fill.au; rfl
            apply OL.nil
            exact At.beside x (by repeat (first | exact Sub.nil | apply Sub.cons rfl | refine Sub.cons_eq rfl (by simp only [v10, v6, v9, cond_true, cond_false]) ?_)) (fun w' hw' => by first | exact hw' | (simp only [v10, v6, v9, cond_true, cond_false]; exact hw'))
          · cases ho
            have h10 : e 10 = true := hd ⟨10, .data⟩ (by simp) rfl
            have h12 : e 12 = false := hcl.not (i := 11) (j := 12) rfl hei (by kernel_rfl)
            have v11 : Eng.upd e 11 11 = true := upd_eq
            have v10 : Eng.upd e 11 10 = true := upd_mono h10
            have v12 : Eng.upd e 11 12 = false := h12
            simp only [hei, h10, h12, cond_true, cond_false]
            apply OL.buildSlice; rfl; rfl; rfl; exact Elems.au; rfl; rfl; (intro bk hbk; simp only [AllLe, and_true] at hbk)
            apply OL.nil
            exact At.beside { x with b1 := bk, hb1 := hbk.1 } (by repeat (first | exact Sub.nil | apply Sub.cons rfl | refine Sub.cons_eq rfl (by simp only [v11, v10, v12, cond_true, cond_false]) ?_)) (fun w' hw' => by simp only [v11, v10, v12, cond_true, cond_false]; exact Cls.fill (p := 8) (H := _ :: _ :: _ :: _ :: _ :: _ :: _ :: _ :: _ :: []) (.s (.s (.s (.s (.s (.s (.s (.s .z)))))))) hw')
          · cases ho
            have h4 : e 4 = true := hd ⟨4, .data⟩ (by simp) rfl
            have h11 : e 11 = true := hd ⟨11, .data⟩ (by simp) rfl
            have h15 : e 15 = false := hcl.not (i := 12) (j := 15) rfl hei (by kernel_rfl)
            have v12 : Eng.upd e 12 12 = true := upd_eq
            have v4 : Eng.upd e 12 4 = true := upd_mono h4
            have v11 : Eng.upd e 12 11 = true := upd_mono h11
            have v15 : Eng.upd e 12 15 = false := h15
            simp only [hei, h4, h11, h15, cond_true, cond_false]
            apply OL.append
            rfl
            rfl
            rfl
            rfl
            (repeat (first | apply Hole.z | apply Hole.s))
            (repeat (first | exact List.Mem.head _ | apply List.Mem.tail))
            (repeat (first | apply Take.zero | apply Take.succ))
            rfl
            rfl
            exact ⟨wk, .head _, Nat.le_refl _⟩
            omega
            intro O1 g1 cap1
            apply OL.nil
            exact At.beside { x with g1 := g1, c1 := cap1, O1 := O1 } (by repeat (first | exact Sub.nil | apply Sub.cons rfl | refine Sub.cons_eq rfl (by simp only [v12, v4, v11, v15, cond_true, cond_false]) ?_)) (fun w' hw' => by first | exact hw' | (simp only [v12, v4, v11, v15, cond_true, cond_false]; exact hw'))
          · cases ho
            have h0 : e 0 = true := hd ⟨0, .data⟩ (by simp) rfl
            have v13 : Eng.upd e 13 13 = true := upd_eq
            have v0 : Eng.upd e 13 0 = true := upd_mono h0
            simp only [hei, h0, cond_true, cond_false]
            apply oop; rfl; apply Pev.nil_ptr; rfl; exact yes
            apply OL.nil
            exact At.beside x (by repeat (first | exact Sub.nil | apply Sub.cons rfl | refine Sub.cons_eq rfl (by simp only [v13, v0, cond_true, cond_false]) ?_)) (fun w' hw' => by first | exact hw' | (simp only [v13, v0, cond_true, cond_false]; exact hw'))
          · cases ho
            have h13 : e 13 = true := hd ⟨13, .data⟩ (by simp) rfl
            have v14 : Eng.upd e 14 14 = true := upd_eq
            have v13 : Eng.upd e 14 13 = true := upd_mono h13
            simp only [hei, h13, cond_true, cond_false]
            apply ofa; rfl; rfl; rfl
            apply OL.nil
            exact At.beside x (by repeat (first | exact Sub.nil | apply Sub.cons rfl | refine Sub.cons_eq rfl (by simp only [v14, v13, cond_true, cond_false]) ?_)) (fun w' hw' => by first | exact hw' | (simp only [v14, v13, cond_true, cond_false]; exact hw'))
          · cases ho
            have h12 : e 12 = true := hd ⟨12, .data⟩ (by simp) rfl
            have h14 : e 14 = true := hd ⟨14, .data⟩ (by simp) rfl
            have v15 : Eng.upd e 15 15 = true := upd_eq
            have v12 : Eng.upd e 15 12 = true := upd_mono h12
            have v14 : Eng.upd e 15 14 = true := upd_mono h14
            simp only [hei, h12, h14, cond_true, cond_false]
            apply OL.storeB; rfl; rfl; exact CellsL.one rfl; rfl; rfl; rfl; exact Swap.au; exact Put.au
            apply OL.nil
            exact At.beside x (by repeat (first | exact Sub.nil | apply Sub.cons rfl | refine Sub.cons_eq rfl (by simp only [v15, v12, v14, cond_true, cond_false]) ?_)) (fun w' hw' => by first | exact hw' | (simp only [v15, v12, v14, cond_true, cond_false]; exact hw'))
        · intro x e2 hall
          have hx1 := x.hb1
          have hx2 := x.hc
          simp only [hall 0 (by decide), hall 1 (by decide), hall 2 (by decide), hall 3 (by decide), hall 4 (by decide), hall 5 (by decide), hall 6 (by decide), hall 7 (by decide), hall 8 (by decide), hall 9 (by decide), hall 10 (by decide), hall 11 (by decide), hall 12 (by decide), hall 13 (by decide), hall 14 (by decide), hall 15 (by decide), cond_true]
          have hsn : cat altR_.c az ++ [.int .i64 u.1.tag, .slice x.q u.1.binds.length x.c] = cat altR_.c (az ++ [(u.1, (x.q, x.c))]) := by
            rw [cat_append, cat_one]
            rfl
          rw [hsn]
          with_reducible apply At.in_normal
          with_reducible apply At.next
          apply W.reg
          apply obn; rfl; rfl; rfl; apply Bin.add_in; omega
          apply omv; rfl; rfl
          apply OL.nil
          have hax : (az ++ [(u.1, (x.q, x.c))]).map alSl = az.map alSl ++ [⟨x.q, x.c, ints u.1.binds⟩] := by rw [List.map_append]; rfl
          refine At.again (j + 1, ⟨x.O1, some ⟨x.g1, 0, none⟩, x.c1⟩, (fun k => x.O k ∨ Op k), az ++ [(u.1, (x.q, x.c))]) ⟨by simp only; omega, ?_, fun s hs => ?_⟩ (by simp only; omega) (by exact Sub.au) (fun w' hw' => ?_)
          · simp only
            rw [List.map_append, has, List.take_add_one, hu]
            simp
          · simp only at hs
            rcases List.mem_append.1 hs with hs | hs
            · exact hac s hs
            · obtain rfl := List.mem_singleton.1 hs
              exact hx2
          · simp only [hax]
            have h1 := hw'.thin (.keep (.keep (.keep (.keep (.keep (.keep (.blk (by simp only [AllLe, and_true]; omega) (.keep (.blk ⟨hx1, by omega, trivial⟩ Thin.nil)))))))))
            exact Cls.mv (A := [_]) (I := [_, _, _, _, _]) (H := []) (Cls.pile_merge (Cls.flip (Cls.mv (A := [_, _, _, _, _, _]) (I := [_]) (H := []) (Cls.mv (A := [_, _, _, _, _, _]) (I := [_]) (H := []) h1))))
      obtain rfl : j = ps.length := by omega
      rw [List.take_length, hps] at has
      rw [← hpl] at *
      refine W.xt ?_
      with_reducible apply At.next
      apply W.reg
      apply omv; rfl; rfl
      apply omv; rfl; rfl
      apply omv; rfl; rfl
      apply oop; rfl; apply Pev.idxB; rfl; exact yes; rfl; exact yes; rfl; intro hcond; omega; rfl
      (apply OL.storeI); rfl; rfl; rfl; rfl; rfl; (exact Swap.au); (rw [nds_length]; omega)
      have hset : (nds tb i es.length).set (0 + (i : Int).toNat * 1) (.pointer (some ⟨bt, 0, none⟩)) = nds (fun k => if k = i then bt else tb k) (i + 1) es.length := by
        rw [show 0 + (i : Int).toNat * 1 = i by simp, nds_set hil]
      rw [hset]
      apply OL.nil
      with_reducible apply At.in_normal
      with_reducible apply At.next
      apply W.reg
      apply obn; rfl; rfl; rfl; apply Bin.add_in; omega
      apply omv; rfl; rfl
      apply OL.nil
      refine At.againE (fun w' hw' => ⟨(i + 1, w', fun k => if k = i then bt else tb k), ⟨by simp only; omega, Nat.le_trans hwk (hw'.kp wk (.head _)).size, Nat.lt_of_lt_of_le hbnk (hw'.kp wk (.head _)).size, ?_⟩, by simp only; omega, (by exact Sub.au), ?_⟩)
      · intro k hk
        simp only at hk ⊢
        have hsz := (hw'.kp wk (.head _)).size
        have hold : ∀ m, m < i → TrO w' (fun b => b < w'.heap.size ∧ b ≠ bn) (grow e m) (tb m) := fun m hm =>
          TrO.mono (fun b hb => ⟨Nat.lt_of_lt_of_le hb.1 hsz, hb.2⟩) (TrO.stab (fun b hb => (hw'.kp wk (.head _)).block b hb.1 (NotOwned.not (by have h1 := hb.1; have h2 := hb.2; exact NotOwned.au))) (htr m hm))
        have hup : ∀ (j : Eng.Item) (b : Nat), j ∈ (blk bn 69 (nds (fun k => if k = i then bt else tb k) (i + 1) es.length) :: pile wk.heap.size Ob [⟨qb, cb, ints p.1.binds⟩] :: blk bt 91 [.int .i64 p.1.op, .int .i64 p.1.n, .slice qb p.1.binds.length cb, .slice qk p.1.kids.length ck, .slice qa p.1.alts.length ca] :: row wk.heap.size Ok qk p.1.kids.length ck 69 1 (ptrs (kp tb p.1.kids)) :: row wk.heap.size Oa qa p.1.alts.length ca 132 2 (cat altR_.c az) :: pile wk.heap.size Op (az.map alSl) :: [] : List Eng.Item) → j.own b → wk.heap.size ≤ b → b < w'.heap.size ∧ b ≠ bn := fun j b hj hb hle => ⟨hw'.lt j hj b hb, by omega⟩
        by_cases hki : k = i
        · subst hki
          rw [if_pos rfl, grow_eq hd hpe]
          have hbt := hw'.item (i := blk bt 91 [.int .i64 p.1.op, .int .i64 p.1.n, .slice qb p.1.binds.length cb, .slice qk p.1.kids.length ck, .slice qa p.1.alts.length ca]) (by exact mau)
          have hpb := hw'.item (i := pile wk.heap.size Ob [⟨qb, cb, ints p.1.binds⟩]) (by exact mau)
          have hrk := hw'.item (i := row wk.heap.size Ok qk p.1.kids.length ck 69 1 (ptrs (kp tb p.1.kids))) (by exact mau)
          have hra := hw'.item (i := row wk.heap.size Oa qa p.1.alts.length ca 132 2 (cat altR_.c az)) (by exact mau)
          have hpa := hw'.item (i := pile wk.heap.size Op (az.map alSl)) (by exact mau)
          simp only [TrO]
          refine ⟨⟨(qb, cb), (qk, ck), (qa, ca)⟩, ⟨hup _ bt (.tail _ (.tail _ (.head _))) rfl hx1, fun j v hj => ?_, hLb, hLa, hL.ab, fun hl => ?_, ⟨az, has, fun hl => ?_, fun s hs => ?_⟩⟩, by rw [List.length_map]; exact hkl1, fun hl => ?_⟩
          · rw [add_mid, blk_cell hbt, Nat.zero_add]
            rw [List.length_map] at hj
            exact hj
          · obtain ⟨a, h1, h2, h3⟩ := hpb _ (.head _) (by rw [ints_length]; exact hl)
            exact ⟨a, h1, hup (pile wk.heap.size Ob [⟨qb, cb, ints p.1.binds⟩]) _ (.tail _ (.head _)) h2 h2.1, h3⟩
          · obtain ⟨a, h1, h2, h3⟩ := row_at hra (by rw [cat_length (f := altR_.c) altR_.clen]; exact Nat.mul_pos hl (by decide))
            exact ⟨a, h1, hup (row wk.heap.size Oa qa p.1.alts.length ca 132 2 (cat altR_.c az)) _ (.tail _ (.tail _ (.tail _ (.tail _ (.head _))))) h2 h2.1, h3⟩
          · have hs1 : s.1 ∈ p.1.alts := by rw [← has]; exact List.mem_map_of_mem hs
            obtain ⟨u, hu, hus⟩ : ∃ u ∈ ps, u.1 = s.1 := by
              rw [← hps] at hs1
              obtain ⟨u, hu, hus⟩ := List.mem_map.1 hs1
              exact ⟨u, hu, hus⟩
            have hou := (harr.el u hu).1
            rw [hus] at hou
            refine ⟨hou, ⟨Nat.le_trans (hL.ab _ hs1) (by decide), hac s hs⟩, fun hl => ?_⟩
            obtain ⟨a, h1, h2, h3⟩ := hpa (alSl s) (List.mem_map_of_mem hs) (by show 0 < (ints s.1.binds).length; rw [ints_length]; exact hl)
            exact ⟨a, h1, hup (pile wk.heap.size Op (az.map alSl)) _ (.tail _ (.tail _ (.tail _ (.tail _ (.tail _ (.head _)))))) h2 h2.1, h3⟩
          · rw [List.length_map] at hl
            obtain ⟨a, h1, h2, h3⟩ := row_at hrk (by simpa [ptrs, kp] using hl)
            refine ⟨a, h1, hup (row wk.heap.size Ok qk p.1.kids.length ck 69 1 (ptrs (kp tb p.1.kids))) _ (.tail _ (.tail _ (.tail _ (.head _)))) h2 h2.1, TrsO.of (bs := kp tb p.1.kids) (by simp [kp]) h3 (fun m t b h4 h5 => ?_)⟩
            simp only [kp, List.getElem?_map] at h4 h5
            cases hkm : p.1.kids[m]? with
            | none => rw [hkm] at h4; cases h4
            | some kv =>
              simp only [hkm, Option.map_some, Option.some.injEq] at h4 h5
              subst h4 h5
              have hkr := hdn kv (List.mem_of_getElem? hkm)
              exact hold kv.toNat (by omega)
        · rw [if_neg hki]
          exact hold k (by omega)
      · simp only
        have hany : ∀ (j : Eng.Item), (∀ k, j.own k → wk.heap.size ≤ k) → ∀ k, j.own k → AllLe [wk, w] k := fun j hj k hk => ⟨hj k hk, Nat.le_trans hwk (hj k hk), trivial⟩
        exact ((hw'.thin (.keep (.any (hany _ fun k hk => hk.1) (.blk ⟨hx1, Nat.le_trans hwk hx1, trivial⟩ (.any (hany _ fun k hk => hk.1) (.any (hany _ fun k hk => hk.1) (.any (hany _ fun k hk => hk.1) Thin.nil))))))).note).forget (fun s hs => by simp at hs ⊢; rcases hs with rfl | rfl <;> simp)
  · obtain rfl : i = es.length := by omega
    have hlast : (nds tb es.length es.length)[0 + ((es.length : Int) - 1).toNat * 1]? = some (.pointer (some ⟨tb (es.length - 1), 0, none⟩)) := by
      rw [show 0 + ((es.length : Int) - 1).toNat * 1 = es.length - 1 by omega]
      exact nds_get (by omega) (by omega)
    refine W.xt ?_
    with_reducible apply At.next
    apply W.sr
    apply omv; rfl; rfl
    apply omv; rfl; rfl
    apply oop; rfl; apply Pev.len_slice; rfl; exact yes; rfl
    apply obn; rfl; rfl; rfl; apply Bin.sub_in; omega
    apply oop; rfl; apply Pev.idxB; rfl; exact yes; rfl; exact yes; rfl; intro hcond; omega; rfl
    apply oop; rfl; apply Pev.load_blk; rfl; exact yes; exact .head _; rfl; assumption
    apply oas; rfl; rfl
    apply OL.nx
    apply W.ret
    ((with_reducible apply At.fin1); rfl; rfl; intro w' hw')
    have hsz := (hw'.kp wk (.head _)).size
    exact ⟨tb (es.length - 1), rfl, by (exact hw'.fr), TrO.mono (fun b hb => Nat.lt_of_lt_of_le hb.1 hsz) (TrO.stab (fun b hb => (hw'.kp wk (.head _)).block b hb.1 (NotOwned.not (by have h1 := hb.1; have h2 := hb.2; exact NotOwned.au))) (htr _ (by omega)))⟩
end Go.Proofs.YtlboppiogeaicaaDoor.co

/- The walk of core's free. Conditions: none. -/
namespace Go.Co
open Go.Eng Go.RowKit
set_option linter.unusedVariables false
set_option linter.unusedSimpArgs false
/-- a map of counts -/
def intM (l : List (Int × Int)) : MI := l.map fun p => (p.1, .int .i64 p.2)
def lget : List (Int × Int) → Int → Option Int
  | [], _ => none
  | p :: r, k => if p.1 = k then some p.2 else lget r k
def lput : List (Int × Int) → Int → Int → List (Int × Int)
  | [], k, v => [(k, v)]
  | p :: r, k, v => if p.1 = k then (k, v) :: r else p :: lput r k v
def cf (l : List (Int × Int)) (k : Int) : Int := (lget l k).getD 0
theorem iget_intM (l : List (Int × Int)) (k : Int) : (iget (intM l) k).getD (.int .i64 0) = .int .i64 (cf l k) := by
  induction l with
  | nil => rfl
  | cons p r ih =>
    show (if p.1 = k then some (Value.int .i64 p.2) else iget (intM r) k).getD (.int .i64 0) = _
    unfold cf at ih ⊢
    rw [lget]
    by_cases h : p.1 = k
    · simp [h]
    · simp only [h, if_false]
      exact ih
theorem iput_intM (l : List (Int × Int)) (k v : Int) : iput (intM l) k (.int .i64 v) = intM (lput l k v) := by
  induction l with
  | nil => rfl
  | cons p r ih =>
    show (if p.1 = k then (k, Value.int .i64 v) :: intM r else (p.1, .int .i64 p.2) :: iput (intM r) k (.int .i64 v)) = _
    rw [lput]
    by_cases h : p.1 = k
    · simp [h, intM]
    · rw [if_neg h, if_neg h, ih]
      rfl
theorem cf_lput (l : List (Int × Int)) (k v j : Int) : cf (lput l k v) j = if k = j then v else cf l j := by
  induction l with
  | nil =>
    simp only [lput, cf, lget]
    split <;> simp
  | cons p r ih =>
    unfold cf at ih ⊢
    rw [lput]
    by_cases h : p.1 = k
    · rw [if_pos h]
      simp only [lget, h]
      split <;> simp_all
    · rw [if_neg h]
      simp only [lget]
      by_cases h2 : p.1 = j
      · rw [if_pos h2, if_pos h2, if_neg (fun e => h (h2.trans e.symm))]
      · rw [if_neg h2, if_neg h2]
        exact ih
/-- the counts are those of a list -/
def Cnt (l : List (Int × Int)) (sc : List Int) : Prop := ∀ k, cf l k = (sc.count k : Int)
theorem Cnt.inc {l : List (Int × Int)} {sc : List Int} (h : Cnt l sc) (k : Int) : Cnt (lput l k (cf l k + 1)) (k :: sc) := fun j => by
  rw [cf_lput, List.count_cons]
  by_cases e : k = j
  · subst e
    rw [if_pos rfl, h k]
    simp
  · rw [if_neg e, h j]
    simp [e]
theorem Cnt.dec {l : List (Int × Int)} {sc : List Int} {k : Int} (h : Cnt l (k :: sc)) : Cnt (lput l k (cf l k - 1)) sc := fun j => by
  rw [cf_lput]
  by_cases e : k = j
  · subst e
    rw [if_pos rfl, h k, List.count_cons]
    simp
  · rw [if_neg e, h j, List.count_cons]
    simp [e]
theorem Cnt.perm {l : List (Int × Int)} {sc sc' : List Int} (h : Cnt l sc) (hp : ∀ k, sc.count k = sc'.count k) : Cnt l sc' := fun k => by rw [h k, hp k]
theorem Cnt.mem {l : List (Int × Int)} {sc : List Int} (h : Cnt l sc) (k : Int) : cf l k = 0 ↔ ¬ k ∈ sc := by
  rw [h k, ← List.count_eq_zero]
  omega
mutual
def tsz : Tr → Nat
  | .mk _ _ _ kids _ => tszs kids + 1
def tszs : List Tr → Nat
  | [] => 0
  | t :: r => tsz t + tszs r
end
theorem tsz_get : ∀ {ts : List Tr} {i : Nat} {t : Tr}, ts[i]? = some t → tsz t ≤ tszs ts
  | [], _, _, h => by simp at h
  | u :: r, 0, t, h => by simp at h; subst h; simp only [tszs]; omega
  | u :: r, i + 1, t, h => by have := tsz_get (ts := r) (i := i) (t := t) (by simpa using h); simp only [tszs]; omega
theorem high_get : ∀ {ts : List Tr} {i : Nat} {t : Tr}, ts[i]? = some t → high t ≤ highs ts
  | [], _, _, h => by simp at h
  | u :: r, 0, t, h => by simp at h; subst h; simp only [highs]; omega
  | u :: r, i + 1, t, h => by have := high_get (ts := r) (i := i) (t := t) (by simpa using h); simp only [highs]; omega
end Go.Co
namespace Go.Eng
open Go.Co
section
variable {P : Program} {n : Nat} {l : Env} {H : List Item} {S : List World} {C : World → Prop} {c : Bool} {d : Option Nat} {ty : TypeId} {pos : String} {af : Array Edge} {g : Option (Nat × Bool)} {t : TypeId} {x y : Operand} {cx cy : Bool}
theorem Pev.clookup {k e : TypeId} {b : Nat} {m : List (Int × Int)} {s : Int} (hx : evl l x = some (cx, .map (some b))) (hcx : c = true → cx = true) (hy : evl l y = some (cy, .int .i64 s)) (hcy : c = true → cy = true) (ht : mapTi P t = some (k, e)) (hz : zeroV P e = some (.int .i64 0)) (hm : mapI b (intM m) ∈ H) :
    Pev P n l (Cls H S) ⟨d, .lookup t x y false, ty, pos, af, g⟩ c (.int .i64 (cf m s)) := by
  have h1 := Pev.ilookup (P := P) (n := n) (C := Cls H S) (d := d) (ty := ty) (pos := pos) (af := af) (g := g) hx hcx hy hcy ht hz (fun w hw => hw.item hm)
  rwa [iget_intM] at h1
end
end Go.Eng
namespace Go.Proofs.YtlboppiogeaicaaDoor.co
open Go.RowKit Go.Eng Go.Co
set_option linter.unusedVariables false
set_option linter.unusedSimpArgs false
set_option maxRecDepth 100000
structure FG where
  bm : List (Int × Int)
  l : List Int
theorem free_calls (s0 : World) (bb bo : Nat) (hbb : s0.heap.size ≤ bb) (hbo : s0.heap.size ≤ bo) :
    ∀ (m : Nat) (t : Tr) (b : Nat) (sc : List Int) (bm : List (Int × Int)) (l : List Int) (H : List Eng.Item) (S : List World) (w : World), tsz t ≤ m → TrO s0 (low s0) t b → Cnt bm sc → sc.length + 16 * high t ≤ 1000000 → (∀ k, k < s0.heap.size → NotOwned H k) →
      Cls (mapI bb (intM bm) :: mapI bo (setM l) :: H) (s0 :: S) w →
      Calls Tryd.prog 75 [.pointer (some ⟨b, 0, none⟩), .map (some bb), .map (some bo)].toArray w fun e w' => e = .returned (.tuple #[]) ∧ ∃ bm' l', Cnt bm' sc ∧ (∀ n, n ∈ l' ↔ n ∈ l ∨ n ∈ fv t sc) ∧ (l.Nodup → l'.Nodup) ∧ Cls (mapI bb (intM bm') :: mapI bo (setM l') :: H) (s0 :: S) w' := by
  intro m
  induction m with
  | zero =>
    intro t b sc bm l H S w hm
    obtain ⟨op, n, binds, kids, alts⟩ := t
    simp only [tsz] at hm
    omega
  | succ m ih =>
  intro t b sc bm l H S w hm ht hcnt hlen hno hc
  obtain ⟨op, n, binds, kids, alts⟩ := t
  simp only [TrO] at ht
  obtain ⟨y, hnode, hkl, hks⟩ := ht
  have hbs : b < s0.heap.size := hnode.own
  have hcells := hnode.cells
  have hcellI : ∀ {j : Nat} {v : Value}, ([.int .i64 op, .int .i64 n, .slice y.b.1 binds.length y.b.2, .slice y.k.1 kids.length y.k.2, .slice y.a.1 alts.length y.a.2] : List Value)[j]? = some v → s0.cell? ⟨b, 0 + j, none⟩ = some v := fun {j v} hj => by
    have := hcells j v hj
    rwa [add_mid] at this
  have h0 := hcellI (j := 0) rfl
  have h1 := hcellI (j := 1) rfl
  have h3 := hcellI (j := 3) rfl
  refine enter Tryd.func75 rfl Tryd.ntmps75 rfl hc ?_
  (simp only [argEnv, Nat.zero_add, Nat.reduceAdd])
  apply W.seq
  apply W.sr
  apply omv; rfl; rfl
  apply oop; rfl; apply Pev.nil_ptr; rfl; exact yes
  apply ofa; rfl; rfl; rfl
  apply oop; rfl; apply Pev.load_kept; rfl; exact yes; exact .head _; rfl; intro hcond; assumption; intro hcond; assumption; intro hcond; exact NotOwned.au
  apply obn; rfl; rfl; rfl; apply Bin.eql
  apply omv; rfl; rfl
  apply oy; rfl; rfl; rfl; apply Pev.move; rfl; exact yes
  apply oy; rfl; rfl; rfl; apply Pev.move; rfl; exact yes
  apply oy; rfl; rfl; rfl; apply Pev.nil_ptr; rfl; exact fun h => h
  apply oy; rfl; rfl; rfl; apply Pev.fld; rfl; exact fun h => h; rfl
  apply oy; rfl; rfl; rfl; apply Pev.load_kept; rfl; exact fun h => h; exact .head _; rfl; intro hcond; assumption; intro hcond; assumption; intro hcond; exact NotOwned.au
  apply oy; rfl; rfl; rfl; apply Pev.clookup; rfl; exact fun h => h; rfl; exact fun h => h; rfl; rfl; exact .head _
  apply oy; rfl; rfl; rfl; apply Pev.bin; rfl; exact fun h => h; rfl; exact yes; intro hcond; apply Bin.eql
  apply oop; rfl; apply Pev.pick_and; rfl; exact yes; rfl; exact fun h => h
  apply OL.nx
  refine W.joinx (G := List Int) (fun l1 => (∀ k, k ∈ l1 ↔ k ∈ l ∨ k ∈ (if op = 0 ∧ ¬ n ∈ sc then [n] else [])) ∧ (l.Nodup → l1.Nodup)) (fun l1 => [(0, true, .pointer (some ⟨b, 0, none⟩)), (1, true, .map (some bb)), (2, true, .map (some bo))]) (fun l1 => Cls (mapI bb (intM bm) :: mapI bo (setM l1) :: H) (s0 :: S)) ?_ ?_
  · refine W.cond rfl (fun hb => ?_) (fun hb => ?_)
    · have hop : op = 0 ∧ ¬ n ∈ sc := ⟨by grind, (hcnt.mem n).1 (by grind)⟩
      apply W.reg
      apply omv; rfl; rfl
      apply omv; rfl; rfl
      apply oop; rfl; apply Pev.nil_ptr; rfl; exact yes
      apply ofa; rfl; rfl; rfl
      apply oop; rfl; apply Pev.load_kept; rfl; exact yes; exact .head _; rfl; intro hcond; assumption; intro hcond; assumption; intro hcond; exact NotOwned.au
      apply oop; rfl; apply Pev.build; rfl; exact CellsL.agg; rfl; exact Fill.au; rfl
      apply OL.iput; rfl; rfl; rfl; rfl; exact Hole.au
      apply OL.nil
      by_cases hin : n ∈ l
      · rw [iput_setM_in hin]
        skip
        exact At.joinedx l ⟨fun k => by rw [if_pos hop]; simp; exact fun e => e ▸ hin, fun h => h⟩ (by exact Sub.au) (fun w' hw' => hw')
      · rw [iput_setM hin]
        skip
        exact At.joinedx (l ++ [n]) ⟨fun k => by rw [if_pos hop]; simp, fun h => nodup_snoc h hin⟩ (by exact Sub.au) (fun w' hw' => hw')
    · have hop : ¬ (op = 0 ∧ ¬ n ∈ sc) := fun ⟨h1, h2⟩ => by
        have h3 := (hcnt.mem n).2 h2
        rw [h1, h3] at hb
        simp at hb
      apply W.skip
      exact At.joinedx l ⟨fun k => by rw [if_neg hop]; simp, fun h => h⟩ (by exact Sub.au) (fun w' hw' => hw')
  rintro l1 ⟨hl1, hn1⟩
  apply W.sr
  apply omv; rfl; rfl
  apply oop; rfl; apply Pev.nil_ptr; rfl; exact yes
  apply ofa; rfl; rfl; rfl
  apply oop; rfl; apply Pev.load_kept; rfl; exact yes; exact .head _; rfl; intro hcond; assumption; intro hcond; assumption; intro hcond; exact NotOwned.au
  apply oop; rfl; apply Pev.len_slice; rfl; exact yes; rfl
  apply omv; rfl; rfl
  apply OL.nx
  apply W.block
  refine W.loop (G := Nat × FG) (fun g => g.1 ≤ kids.length ∧ Cnt g.2.bm sc ∧ (∀ k, k ∈ g.2.l ↔ k ∈ l1 ∨ ∃ m t, m < g.1 ∧ kids[m]? = some t ∧ k ∈ fv t (bound op binds alts m ++ sc)) ∧ (l.Nodup → g.2.l.Nodup)) (fun g => kids.length - g.1)
    (fun g => [(0, true, .pointer (some ⟨b, 0, none⟩)), (1, true, .map (some bb)), (2, true, .map (some bo)), (36, true, .slice y.k.1 kids.length y.k.2), (37, true, .int .i64 (kids.length : Int)), (38, true, .int .i64 (g.1 : Int))])
    (fun g => Cls (mapI bb (intM g.2.bm) :: mapI bo (setM g.2.l) :: H) (s0 :: S)) (0, ⟨bm, l1⟩) ⟨by simp, hcnt, fun k => by simp, hn1⟩ (by exact Sub.au) (fun w' hw' => hw') ?_
  rintro ⟨i, ⟨bm1, l2⟩⟩ ⟨hi, hcnt1, hl2, hn2⟩
  simp only at hi hcnt1 hl2 hn2 ⊢
  apply W.sr
  apply obn; rfl; rfl; rfl; apply Bin.lss
  apply OL.nx
  apply W.seq
  (refine W.cnd (fun hlt => ?_) (fun hlt => ?_)) <;> (try (exfalso; first | omega | exact hlt trivial | contradiction))
  · have hil : i < kids.length := by omega
    obtain ⟨a, hqa, hab, htrs⟩ := hks (by omega)
    have hab : a.block < s0.heap.size := hab
    have hki : kids[i]? = some kids[i] := List.getElem?_eq_getElem hil
    obtain ⟨b', hcb, hkid⟩ := htrs.get hki
    have hsz := tsz_get hki
    have hhi := high_get hki
    simp only [tsz] at hm
    simp only [high] at hlen
    rw [hqa]
    apply W.sk
    apply W.sb
    apply W.sr
    apply omv; rfl; rfl
    apply oop; rfl; apply Pev.idx; rfl; exact yes; rfl; exact yes; rfl; rfl; intro hcond; omega
    apply oop; rfl; apply Pev.load_kept; rfl; exact yes; exact .head _; rfl; intro hcond; assumption; intro hcond; (rw [add_block]; assumption); intro hcond; exact NotOwned.au
    apply oas; rfl; rfl
    apply oas; rfl; rfl
    apply OL.nsr
    apply omv; rfl; rfl
    apply omv; rfl; rfl
    refine OL.callE (α := Option Addr × Nat) (fun z => .slice z.1 (bound op binds alts i).length z.2) (fun z => IntsO s0 (low s0) (bound op binds alts i) z.1 ∧ (bound op binds alts i).length ≤ 16) (fun z => Cls (mapI bb (intM bm1) :: mapI bo (setM l2) :: H) (s0 :: S)) rfl rfl (by exact Args.au) (fun w2 hw2 => ?_) ?_
    · have hsame := hw2.same (.head _) (fun k hk => by exact NotOwned.au)
      refine (Bound_calls b op n binds kids.length alts y i w2 (low s0) (fun k hk => Nat.lt_of_lt_of_le hk (hw2.kp s0 (.head _)).size) (hnode.stab hsame) (by omega)).mono fun e w3 ⟨q, c, h4, h5, h6, h7⟩ => ⟨(q, c), h4, ⟨h6.stab (fun k hk => (hsame k hk).symm), h7⟩, hw2.ext h5⟩
    rintro ⟨qb, cb⟩ ⟨hIb, hb16⟩
    simp only at hIb hb16 ⊢
    generalize hbl : bound op binds alts i = bl at *
    apply oas; rfl; rfl
    apply OL.nx
    apply W.seq
    apply W.sr
    apply omv; rfl; rfl
    apply oop; rfl; apply Pev.len_slice; rfl; exact yes; rfl
    apply omv; rfl; rfl
    apply OL.nx
    apply W.block
    refine W.loop (G := Nat × List (Int × Int)) (fun g => g.1 ≤ bl.length ∧ Cnt g.2 (bl.take g.1 ++ sc)) (fun g => bl.length - g.1)
      (fun g => [(0, true, .pointer (some ⟨b, 0, none⟩)), (1, true, .map (some bb)), (2, true, .map (some bo)), (7, true, .pointer (some ⟨b', 0, none⟩)), (8, true, .slice qb bl.length cb), (36, true, .slice (some a) kids.length y.k.2), (37, true, .int .i64 (kids.length : Int)), (38, true, .int .i64 (i : Int)), (46, true, .slice qb bl.length cb), (47, true, .int .i64 (bl.length : Int)), (48, true, .int .i64 (g.1 : Int))])
      (fun g => Cls (mapI bb (intM g.2) :: mapI bo (setM l2) :: H) (s0 :: S)) (0, bm1) ⟨by simp, by simpa using hcnt1⟩ (by exact Sub.au) (fun w' hw' => hw') ?_
    rintro ⟨j, bm2⟩ ⟨hj, hcnt2⟩
    simp only at hj hcnt2 ⊢
    apply W.sr
    apply obn; rfl; rfl; rfl; apply Bin.lss
    apply OL.nx
    apply W.seq
    (refine W.cnd (fun hlt2 => ?_) (fun hlt2 => ?_)) <;> (try (exfalso; first | omega | exact hlt2 trivial | contradiction))
    · have hjl : j < bl.length := by omega
      obtain ⟨av, v, hqv, habv, hv, hcv⟩ := hIb.get hjl
      have habv : av.block < s0.heap.size := habv
      have hcb2 : 0 ≤ cf bm2 v ∧ cf bm2 v ≤ 2000000 := by
        have h5 : (bl.take j ++ sc).count v ≤ (bl.take j ++ sc).length := List.count_le_length
        rw [List.length_append, List.length_take] at h5
        rw [hcnt2 v]
        omega
      rw [hqv]
      apply W.sk
      apply W.sb
      apply W.sr
      apply oop; rfl; apply Pev.idx; rfl; exact yes; rfl; exact yes; rfl; rfl; intro hcond; omega
      apply oop; rfl; apply Pev.load_kept; rfl; exact yes; exact .head _; rfl; intro hcond; assumption; intro hcond; (rw [add_block]; assumption); intro hcond; exact NotOwned.au
      apply oas; rfl; rfl
      apply OL.nx
      apply W.reg
      apply omv; rfl; rfl
      apply omv; rfl; rfl
      apply oop; rfl; apply Pev.clookup; rfl; exact yes; rfl; exact yes; rfl; rfl; exact .head _
      apply obn; rfl; rfl; rfl; apply Bin.add_in; omega
      apply OL.iput; rfl; rfl; rfl; rfl; exact Hole.au
      apply OL.nil
      with_reducible apply At.in_normal
      with_reducible apply At.next
      apply W.reg
      apply obn; rfl; rfl; rfl; apply Bin.add_in; omega
      apply omv; rfl; rfl
      apply OL.nil
      rw [iput_intM]
      skip
      refine At.again (j + 1, lput bm2 v (cf bm2 v + 1)) ⟨by simp only; omega, (hcnt2.inc v).perm fun k => ?_⟩ (by simp only; omega) (by exact Sub.au) (fun w' hw' => hw')
      simp only [List.take_add_one, hv, Option.toList_some, List.count_append, List.count_cons, List.count_nil]
      omega
    · obtain rfl : j = bl.length := by omega
      rw [List.take_length] at hcnt2
      refine W.xt ?_
      with_reducible apply At.next
      apply W.sr
      apply omv; rfl; rfl
      apply omv; rfl; rfl
      apply omv; rfl; rfl
      refine OL.callE (α := FG) (fun _ => .tuple #[]) (fun z => Cnt z.bm (bl ++ sc) ∧ (∀ k, k ∈ z.l ↔ k ∈ l2 ∨ k ∈ fv kids[i] (bl ++ sc)) ∧ (l2.Nodup → z.l.Nodup)) (fun z => Cls (mapI bb (intM z.bm) :: mapI bo (setM z.l) :: H) (s0 :: S)) rfl rfl (by exact Args.au) (fun w2 hw2 => ?_) ?_
      · refine (ih kids[i] b' (bl ++ sc) bm2 l2 H S w2 (by omega) hkid hcnt2 (by rw [List.length_append]; omega) hno hw2).mono fun e w3 ⟨h4, bm', l', h5, h6, h7, h8⟩ => ⟨⟨bm', l'⟩, h4, ⟨h5, h6, h7⟩, h8⟩
      rintro ⟨bm3, l3⟩ ⟨hcnt3, hl3, hn3⟩
      simp only at hcnt3 hl3 hn3 ⊢
      apply OL.nsr
      apply omv; rfl; rfl
      apply oop; rfl; apply Pev.len_slice; rfl; exact yes; rfl
      apply omv; rfl; rfl
      apply OL.nx
      apply W.block
      refine W.loop (G := Nat × List (Int × Int)) (fun g => g.1 ≤ bl.length ∧ Cnt g.2 (bl.drop g.1 ++ sc)) (fun g => bl.length - g.1)
        (fun g => [(0, true, .pointer (some ⟨b, 0, none⟩)), (1, true, .map (some bb)), (2, true, .map (some bo)), (36, true, .slice (some a) kids.length y.k.2), (37, true, .int .i64 (kids.length : Int)), (38, true, .int .i64 (i : Int)), (61, true, .slice qb bl.length cb), (62, true, .int .i64 (bl.length : Int)), (63, true, .int .i64 (g.1 : Int))])
        (fun g => Cls (mapI bb (intM g.2) :: mapI bo (setM l3) :: H) (s0 :: S)) (0, bm3) ⟨by simp, by simpa using hcnt3⟩ (by exact Sub.au) (fun w' hw' => hw') ?_
      rintro ⟨j, bm4⟩ ⟨hj2, hcnt4⟩
      simp only at hj2 hcnt4 ⊢
      apply W.sr
      apply obn; rfl; rfl; rfl; apply Bin.lss
      apply OL.nx
      apply W.seq
      (refine W.cnd (fun hlt3 => ?_) (fun hlt3 => ?_)) <;> (try (exfalso; first | omega | exact hlt3 trivial | contradiction))
      · have hjl : j < bl.length := by omega
        obtain ⟨av, v, hqv, habv, hv, hcv⟩ := hIb.get hjl
        have habv : av.block < s0.heap.size := habv
        have hdrop : bl.drop j = v :: bl.drop (j + 1) := by
          obtain ⟨h5, rfl⟩ := List.getElem?_eq_some_iff.1 hv
          rw [List.drop_eq_getElem_cons h5]
        have hcb2 : 0 ≤ cf bm4 v ∧ cf bm4 v ≤ 2000000 := by
          have h5 : (bl.drop j ++ sc).count v ≤ (bl.drop j ++ sc).length := List.count_le_length
          rw [List.length_append, List.length_drop] at h5
          rw [hcnt4 v]
          omega
        rw [hdrop] at hcnt4
        rw [hqv]
        apply W.sk
        apply W.sb
        apply W.sr
        apply oop; rfl; apply Pev.idx; rfl; exact yes; rfl; exact yes; rfl; rfl; intro hcond; omega
        apply oop; rfl; apply Pev.load_kept; rfl; exact yes; exact .head _; rfl; intro hcond; assumption; intro hcond; (rw [add_block]; assumption); intro hcond; exact NotOwned.au
        apply oas; rfl; rfl
        apply OL.nx
        apply W.reg
        apply omv; rfl; rfl
        apply omv; rfl; rfl
        apply oop; rfl; apply Pev.clookup; rfl; exact yes; rfl; exact yes; rfl; rfl; exact .head _
        apply obn; rfl; rfl; rfl; apply Bin.sub_in; omega
        apply OL.iput; rfl; rfl; rfl; rfl; exact Hole.au
        apply OL.nil
        with_reducible apply At.in_normal
        with_reducible apply At.next
        apply W.reg
        apply obn; rfl; rfl; rfl; apply Bin.add_in; omega
        apply omv; rfl; rfl
        apply OL.nil
        rw [iput_intM]
        skip
        exact At.again (j + 1, lput bm4 v (cf bm4 v - 1)) ⟨by simp only; omega, hcnt4.dec⟩ (by simp only; omega) (by exact Sub.au) (fun w' hw' => hw')
      · obtain rfl : j = bl.length := by omega
        rw [List.drop_length, List.nil_append] at hcnt4
        refine W.xt ?_
        with_reducible apply At.in_normal
        with_reducible apply At.next
        apply W.reg
        apply obn; rfl; rfl; rfl; apply Bin.add_in; omega
        apply omv; rfl; rfl
        apply OL.nil
        refine At.again (i + 1, ⟨bm4, l3⟩) ⟨by simp only; omega, hcnt4, fun k => ?_, fun h => hn3 (hn2 h)⟩ (by simp only; omega) (by exact Sub.au) (fun w' hw' => hw')
        simp only
        rw [hl3, hl2]
        constructor
        · rintro ((h | ⟨m', t, h4, h5, h6⟩) | h)
          · exact .inl h
          · exact .inr ⟨m', t, by omega, h5, h6⟩
          · exact .inr ⟨i, kids[i], by omega, hki, by rw [hbl]; exact h⟩
        · rintro (h | ⟨m', t, h4, h5, h6⟩)
          · exact .inl (.inl h)
          · by_cases e : m' = i
            · subst e
              rw [hki] at h5
              obtain rfl := Option.some.inj h5
              rw [hbl] at h6
              exact .inr h6
            · exact .inl (.inr ⟨m', t, by omega, h5, h6⟩)
  · obtain rfl : i = kids.length := by omega
    refine W.xt ?_
    apply At.end_
    apply At.fin0
    rfl
    intro w' hw'
    refine ⟨rfl, bm1, l2, hcnt1, fun k => ?_, hn2, hw'⟩
    rw [hl2, hl1, fv, List.mem_append, mem_fvs, or_assoc]
    constructor
    · rintro (h | h | ⟨m', t, h4, h5, h6⟩)
      · exact .inl h
      · exact .inr (.inl h)
      · exact .inr (.inr ⟨m', t, h5, by rw [Nat.zero_add]; exact h6⟩)
    · rintro (h | h | ⟨m', t, h5, h6⟩)
      · exact .inl h
      · exact .inr (.inl h)
      · exact .inr (.inr ⟨m', t, (List.getElem?_eq_some_iff.1 h5).1, h5, by rw [Nat.zero_add] at h6; exact h6⟩)
end Go.Proofs.YtlboppiogeaicaaDoor.co

/- A grown row that a function of the library writes over in place (a sort, a compaction). General. No condition. -/
namespace Go.Eng
open Go.RowKit Go.Sort
set_option linter.unusedVariables false
set_option linter.unusedSimpArgs false

theorem putCells_take {α : Type} [Inhabited α] (enc : α → Value) (d : Array α) (c : Array Value) (h : d.size ≤ c.size) : (putCells enc 0 d c).toList.take d.size = d.toList.map enc := by
  apply List.ext_getElem?
  intro j
  rw [List.getElem?_take, List.getElem?_map]
  by_cases hj : j < d.size
  · rw [if_pos hj, Array.getElem?_toList, Array.getElem?_toList]
    unfold putCells
    rw [Array.getElem?_mapIdx, Array.getElem?_eq_getElem (show j < c.size by omega), Array.getElem?_eq_getElem hj]
    simp only [Option.map_some]
    rw [if_pos ⟨Nat.zero_le _, by omega⟩, Nat.sub_zero, getElem!_pos d j hj]
  · rw [if_neg hj, Array.getElem?_toList, Array.getElem?_eq_none (by omega)]; rfl
theorem putRow_heap {α : Type} [Inhabited α] (enc : α → Value) (w : World) (n g : Nat) (d : Array α) (os : Array Obj) {cur : Array Value} {e : TypeId} {fr : Nat × Nat} (hg : w.heap[g]? = some (.cells cur e fr)) :
    (grow (putRow enc (Sort.ahead w n) g 0 d) os).heap[g]? = some (.cells (putCells enc 0 d cur) e fr) := by
  have hlt : g < w.heap.size := (Array.getElem?_eq_some_iff.1 hg).1
  show ((w.heap.modify g (onCells (putCells enc 0 d))) ++ os)[g]? = _
  rw [Array.getElem?_append_left (by simpa using hlt), Array.getElem?_modify, if_pos rfl, hg]
  rfl
theorem putRow_other {α : Type} [Inhabited α] (enc : α → Value) (w : World) (n g : Nat) (d : Array α) (os : Array Obj) {k : Nat} (hk : k < w.heap.size) (hne : k ≠ g) :
    (grow (putRow enc (Sort.ahead w n) g 0 d) os).heap[k]? = w.heap[k]? := by
  show ((w.heap.modify g (onCells (putCells enc 0 d))) ++ os)[k]? = _
  rw [Array.getElem?_append_left (by simpa using hk), Array.getElem?_modify, if_neg (fun e => hne e.symm)]
theorem putRow_size {α : Type} [Inhabited α] (enc : α → Value) (w : World) (n g : Nat) (d : Array α) (os : Array Obj) : w.heap.size ≤ (grow (putRow enc (Sort.ahead w n) g 0 d) os).heap.size := by
  show _ ≤ ((w.heap.modify g (onCells (putCells enc 0 d))) ++ os).size
  simp
theorem Cls.rowPut {α : Type} [Inhabited α] {enc : α → Value} {p : Nat} {H : List Eng.Item} {S : List World} {w w' : World} {base m cap g n : Nat} {O : Nat → Prop} {e : TypeId} {xs : List Value} {F : Eng.Item → List Eng.Item}
    (hh : Hole p H (row base O (some ⟨g, 0, none⟩) m cap e 1 xs) F) (h : Cls H S w) (d : Array α) (hd : d.size = m) {os : Array Obj} (hw : w' = grow (putRow enc (Sort.ahead w n) g 0 d) os) : Cls (F (row base O (some ⟨g, 0, none⟩) m cap e 1 (d.toList.map enc))) S w' := by
  subst hw
  obtain ⟨h1, h2⟩ := hh.eq
  rw [h2]
  have hi := h.holds _ (List.mem_of_getElem? h1)
  have hO : O g := hi.1 _ rfl
  rcases hi.2.2 with ⟨h3, _⟩ | ⟨g', cap', cur, h3, hb, hg, h4, h5, h6, h7⟩
  · cases h3
  simp only [Value.slice.injEq, Option.some.injEq, Addr.mk.injEq] at h3
  obtain ⟨⟨rfl, _⟩, _, rfl⟩ := h3
  refine h.turn p h1 ⟨rfl, rfl, rfl, putRow_size _ _ _ _ _ _, fun k hk hno => putRow_other _ _ _ _ _ _ hk fun e => hno (by subst e; exact ⟨hb, hO⟩)⟩ ?_ (fun k hk => ⟨.inl hk, Nat.lt_of_lt_of_le (h.lt _ (List.mem_of_getElem? h1) k hk) (putRow_size _ _ _ _ _ _)⟩) (fun k hk => hk)
  refine ⟨fun a ha => by cases ha; exact hO, by simp [hd], .inr ⟨g, cap, _, rfl, hb, putRow_heap enc w n g d os hg, h4, h5, ?_, ?_⟩⟩
  · simp only [putCells, Array.size_mapIdx]; exact h6
  · rw [Nat.mul_one, ← hd]
    exact putCells_take enc d cur (by omega)
/-- what the library's contracts on rows ask -/
theorem row_holds {α : Type} [Inhabited α] {enc : α → Value} {w : World} {base m cap g : Nat} {O : Nat → Prop} {e : TypeId} {d : Array α} (h : (row base O (some ⟨g, 0, none⟩) m cap e 1 (d.toList.map enc)).holds w) : Holds enc w g 0 d ∧ g < w.heap.size := by
  rcases h.2.2 with ⟨h3, _⟩ | ⟨g', cap', cur, h3, hb, hg, h4, h5, h6, h7⟩
  · cases h3
  simp only [Value.slice.injEq, Option.some.injEq, Addr.mk.injEq] at h3
  obtain ⟨⟨rfl, _⟩, _, rfl⟩ := h3
  refine ⟨fun j hj => ⟨?_, ?_⟩, (Array.getElem?_eq_some_iff.1 hg).1⟩
  · rw [Nat.zero_add]
    refine row_cell h ?_
    rw [List.getElem?_map, Array.getElem?_toList, Array.getElem?_eq_getElem hj, getElem!_pos d j hj]; rfl
  · simp [World.frozen?, hg]
end Go.Eng

/-
  DERIVED: THE SHELF's CONTRACTS AT THIS DUMP, IN PLAIN WORDS (tools/lay-plain.mjs out of 'YtlboppiogeaicaaDoorShelfD.lean', which tools/lay-shelf.mjs wrote): THE SAME DECLARATIONS UNDER THE SAME NAMES: 'import', 'namespace', 'open', 'def', 'theorem' AND NOTHING ELSE: no command of the shelf's: FOR A HAND-IN. Each laying: the table of numbers ('.._ren') and one theorem, a field a fact of the dump's own or the kernel's comparison; each contract: ONE APPLICATION.
-/
namespace Go.Proofs
open Go.Shelf
def Tryd.lays189_ren : Go.Shelf.Ren := ⟨fun | 189 => 76 | 125 => 99 | 257 => 107 | 128 => 122 | 129 => 123 | 294 => 126 | 295 => 127 | 296 => 128 | 297 => 129 | 298 => 130 | 299 => 131 | 216 => 132 | 300 => 133 | 301 => 134 | 328 => 143 | 329 => 137 | 330 => 138 | 331 => 144 | 332 => 145 | 215 => 100 | 343 => 148 | n => n, fun | 28 => 25 | 3 => 3 | 46 => 146 | 0 => 0 | 51 => 165 | 53 => 139 | 4 => 4 | 183 => 159 | 182 => 158 | 131 => 150 | 5 => 5 | 9 => 9 | 218 => 173 | 222 => 177 | 228 => 183 | 229 => 184 | n => n, fun | n => n⟩
theorem Tryd.lays189 : Go.Proofs.Lays.n189 Tryd.prog Tryd.lays189_ren := {
  mixed := by kernel_rfl
  f125 := Tryd.func99.trans (congrArg some (by kernel_rfl))
  f128 := Tryd.func122.trans (congrArg some (by kernel_rfl))
  f129 := Tryd.func123.trans (congrArg some (by kernel_rfl))
  f189 := Tryd.func76.trans (congrArg some (by kernel_rfl))
  f215 := Tryd.func100.trans (congrArg some (by kernel_rfl))
  f216 := Tryd.func132.trans (congrArg some (by kernel_rfl))
  f257 := Tryd.func107.trans (congrArg some (by kernel_rfl))
  f294 := Tryd.func126.trans (congrArg some (by kernel_rfl))
  f295 := Tryd.func127.trans (congrArg some (by kernel_rfl))
  f296 := Tryd.func128.trans (congrArg some (by kernel_rfl))
  f297 := Tryd.func129.trans (congrArg some (by kernel_rfl))
  f298 := Tryd.func130.trans (congrArg some (by kernel_rfl))
  f299 := Tryd.func131.trans (congrArg some (by kernel_rfl))
  f300 := Tryd.func133.trans (congrArg some (by kernel_rfl))
  f301 := Tryd.func134.trans (congrArg some (by kernel_rfl))
  f328 := Tryd.func143.trans (congrArg some (by kernel_rfl))
  f329 := Tryd.func137.trans (congrArg some (by kernel_rfl))
  f330 := Tryd.func138.trans (congrArg some (by kernel_rfl))
  f331 := Tryd.func144.trans (congrArg some (by kernel_rfl))
  f332 := Tryd.func145.trans (congrArg some (by kernel_rfl))
  f343 := Tryd.func148.trans (congrArg some (by kernel_rfl))
  t0 := Tryd.underlying0
  a0 := Tryd.isAgg0
  z0 := Tryd.sizeOf0
  v0 := Tryd.zeroValue0
  t3 := Tryd.underlying3
  a3 := Tryd.isAgg3
  z3 := Tryd.sizeOf3
  v3 := Tryd.zeroValue3
  t4 := Tryd.underlying4
  a4 := Tryd.isAgg4
  z4 := Tryd.sizeOf4
  v4 := Tryd.zeroValue4
  t5 := Tryd.underlying5
  a5 := Tryd.isAgg5
  z5 := Tryd.sizeOf5
  v5 := Tryd.zeroValue5
  t9 := Tryd.underlying9
  a9 := Tryd.isAgg9
  z9 := Tryd.sizeOf9
  v9 := Tryd.zeroValue9
  t28 := Tryd.underlying25
  a28 := Tryd.isAgg25
  z28 := Tryd.sizeOf25
  v28 := Tryd.zeroValue25
  t46 := Tryd.underlying146
  a46 := Tryd.isAgg146
  z46 := Tryd.sizeOf146
  v46 := Tryd.zeroValue146
  t51 := Tryd.underlying165
  a51 := Tryd.isAgg165
  z51 := Tryd.sizeOf165
  v51 := Tryd.zeroValue165
  t53 := Tryd.underlying139
  a53 := Tryd.isAgg139
  z53 := Tryd.sizeOf139
  v53 := Tryd.zeroValue139
  t131 := Tryd.underlying150
  a131 := Tryd.isAgg150
  z131 := Tryd.sizeOf150
  v131 := Tryd.zeroValue150
  t182 := Tryd.underlying158
  a182 := Tryd.isAgg158
  z182 := Tryd.sizeOf158
  v182 := Tryd.zeroValue158
  t183 := Tryd.underlying159
  a183 := Tryd.isAgg159
  z183 := Tryd.sizeOf159
  v183 := Tryd.zeroValue159
  t218 := Tryd.underlying173
  a218 := Tryd.isAgg173
  z218 := Tryd.sizeOf173
  v218 := Tryd.zeroValue173
  t222 := Tryd.underlying177
  a222 := Tryd.isAgg177
  z222 := Tryd.sizeOf177
  v222 := Tryd.zeroValue177
  t228 := Tryd.underlying183
  a228 := Tryd.isAgg183
  z228 := Tryd.sizeOf183
  v228 := Tryd.zeroValue183
  t229 := Tryd.underlying184
  a229 := Tryd.isAgg184
  z229 := Tryd.sizeOf184
  v229 := Tryd.zeroValue184 }
end Go.Proofs

/- The walk of core's FreeOf: what the library's sort does to a row of ints. Conditions: none. -/
namespace Go.Co
open Go.Eng Go.RowKit
set_option linter.unusedVariables false
set_option linter.unusedSimpArgs false
def isrt (l : List Int) : List Int := l.mergeSort fun x y => decide (x ≤ y)
theorem isrt_perm (l : List Int) : (isrt l).Perm l := List.mergeSort_perm l _
theorem isrt_len (l : List Int) : (isrt l).length = l.length := (isrt_perm l).length_eq
theorem isrt_mem {l : List Int} {n : Int} : n ∈ isrt l ↔ n ∈ l := (isrt_perm l).mem_iff
theorem isrt_nodup {l : List Int} (h : l.Nodup) : (isrt l).Nodup := (isrt_perm l).symm.nodup h
theorem isrt_sorted (l : List Int) : (isrt l).Pairwise (· ≤ ·) := by
  have := List.pairwise_mergeSort (le := fun x y : Int => decide (x ≤ y)) (fun a b c h1 h2 => by simp at *; omega) (fun a b => by simp; omega) l
  exact this.imp fun h => by simpa using h
/-- a list without repetitions whose members lie in another one is no longer -/
theorem nodup_le : ∀ {l m : List Int}, l.Nodup → (∀ x ∈ l, x ∈ m) → l.length ≤ m.length
  | [], _, _, _ => by simp
  | x :: r, m, hn, hs => by
    have hx := hs x (.head _)
    obtain ⟨m1, m2, rfl⟩ := List.append_of_mem hx
    rw [List.nodup_cons] at hn
    have := nodup_le (l := r) (m := m1 ++ m2) hn.2 (fun y hy => by
      have h1 := hs y (.tail _ hy)
      have h2 : y ≠ x := fun e => hn.1 (e ▸ hy)
      simp at h1 ⊢
      rcases h1 with h1 | h1 | h1
      · exact .inl h1
      · exact absurd h1 h2
      · exact .inr h1)
    simp at this ⊢
    omega
theorem nodup_inj {α : Type} {l : List α} (h : l.Nodup) {i j : Nat} {x : α} (hi : l[i]? = some x) (hj : l[j]? = some x) : i = j := by
  have hp := List.pairwise_iff_getElem.1 h
  obtain ⟨h1, h2⟩ := List.getElem?_eq_some_iff.1 hi
  obtain ⟨h3, h4⟩ := List.getElem?_eq_some_iff.1 hj
  rcases Nat.lt_trichotomy i j with h5 | h5 | h5
  · exact absurd (h2.trans h4.symm) (hp i j h1 h3 h5)
  · exact h5
  · exact absurd (h4.trans h2.symm) (hp j i h3 h1 h5)
/-- the entries of a set's map -/
theorem set_key {es : Array MapEntry} {clock : Nat} {l : List Int} (h : MapIs es clock (setM l)) {i : Nat} {e : MapEntry} (he : es.toList[i]? = some e) : ∃ n, l[i]? = some n ∧ e.key = .int .i64 n := by
  have h1 := congrArg (fun z => z[i]?) h.es_
  simp only [icells, setM, List.map_map, List.getElem?_map, he, Option.map_some] at h1
  cases hl : l[i]? with
  | none => simp [hl] at h1
  | some n =>
    rw [hl] at h1
    simp at h1
    exact ⟨n, rfl, h1.1⟩
theorem set_len {es : Array MapEntry} {clock : Nat} {l : List Int} (h : MapIs es clock (setM l)) : es.toList.length = l.length := by
  have h1 := congrArg List.length h.es_
  simpa [icells, setM] using h1
theorem left_mem {es : Array MapEntry} {seen : Array Nat} {e : MapEntry} : e ∈ (leftOf es seen).toList ↔ e ∈ es.toList ∧ ¬ e.born ∈ seen := by
  unfold leftOf
  simp
/-- what has been taken out so far -/
def Taken (es : Array MapEntry) (seen : Array Nat) (xs : List Int) : Prop := xs.Nodup ∧ ∀ n, n ∈ xs ↔ ∃ e ∈ es.toList, e.key = .int .i64 n ∧ e.born ∈ seen
theorem Taken.step {es : Array MapEntry} {clock : Nat} {l : List Int} {seen : Array Nat} {xs : List Int} (hm : MapIs es clock (setM l)) (hl : l.Nodup) (h : Taken es seen xs) {e : MapEntry} {n : Int} (he : e ∈ (leftOf es seen).toList) (hk : e.key = .int .i64 n) : Taken es (seen.push e.born) (xs ++ [n]) := by
  obtain ⟨he1, he2⟩ := left_mem.1 he
  refine ⟨nodup_snoc h.1 fun hin => ?_, fun k => ?_⟩
  · obtain ⟨e', he', hk', hb'⟩ := (h.2 n).1 hin
    obtain ⟨i, hi⟩ := List.getElem?_of_mem he1
    obtain ⟨j, hj⟩ := List.getElem?_of_mem he'
    obtain ⟨a, ha, hka⟩ := set_key hm hi
    obtain ⟨b, hb, hkb⟩ := set_key hm hj
    rw [hk] at hka
    rw [hk'] at hkb
    simp only [Value.int.injEq, true_and] at hka hkb
    subst hka
    subst hkb
    have hij : i = j := nodup_inj hl ha hb
    subst hij
    rw [hi] at hj
    obtain rfl := Option.some.inj hj
    exact he2 hb'
  · rw [List.mem_append, h.2, List.mem_singleton]
    constructor
    · rintro (⟨e', h1, h2, h3⟩ | rfl)
      · exact ⟨e', h1, h2, by simp [h3]⟩
      · exact ⟨e, he1, hk, by simp⟩
    · rintro ⟨e', h1, h2, h3⟩
      rw [Array.mem_push] at h3
      rcases h3 with h3 | h3
      · exact .inl ⟨e', h1, h2, h3⟩
      · right
        by_cases hs : e'.born ∈ seen
        · exact absurd (h3 ▸ hs) he2
        · have hee : e' = e := by
            obtain ⟨i, hi⟩ := List.getElem?_of_mem he1
            obtain ⟨j, hj⟩ := List.getElem?_of_mem h1
            have hij : j = i := by
              have hnd := hm.nd
              have e1 : (es.toList.map (·.born))[i]? = some e.born := by rw [List.getElem?_map, hi]; rfl
              have e2 : (es.toList.map (·.born))[j]? = some e.born := by rw [List.getElem?_map, hj]; exact congrArg some h3
              exact nodup_inj hnd e2 e1
            subst hij
            rw [hi] at hj
            exact (Option.some.inj hj).symm
          rw [hee, hk] at h2
          simp at h2
          exact h2.symm
theorem Taken.done {es : Array MapEntry} {clock : Nat} {l : List Int} {seen : Array Nat} {xs : List Int} (hm : MapIs es clock (setM l)) (h : Taken es seen xs) (h0 : (leftOf es seen).size = 0) (n : Int) : n ∈ xs ↔ n ∈ l := by
  rw [h.2]
  constructor
  · rintro ⟨e, h1, h2, _⟩
    obtain ⟨i, hi⟩ := List.getElem?_of_mem h1
    obtain ⟨a, ha, hka⟩ := set_key hm hi
    rw [h2] at hka
    simp only [Value.int.injEq, true_and] at hka
    subst hka
    exact List.mem_of_getElem? ha
  · intro hn
    obtain ⟨i, hi⟩ := List.getElem?_of_mem hn
    have hil := (List.getElem?_eq_some_iff.1 hi).1
    obtain ⟨e, hes⟩ : ∃ e, es.toList[i]? = some e := ⟨_, List.getElem?_eq_getElem (by rw [set_len hm]; exact hil)⟩
    obtain ⟨a, ha, hka⟩ := set_key hm hes
    rw [hi] at ha
    obtain rfl := Option.some.inj ha
    refine ⟨_, List.mem_of_getElem? hes, hka, ?_⟩
    by_cases hs : e.born ∈ seen
    · exact hs
    · have := left_mem.2 ⟨List.mem_of_getElem? hes, hs⟩
      have h1 : (leftOf es seen).toList.length = 0 := h0
      rw [List.length_eq_zero_iff.1 h1] at this
      cases this
theorem Taken.nil (es : Array MapEntry) : Taken es #[] [] := ⟨by simp, fun n => by simp⟩
theorem Taken.sub {es : Array MapEntry} {clock : Nat} {l : List Int} {seen : Array Nat} {xs : List Int} (hm : MapIs es clock (setM l)) (h : Taken es seen xs) {n : Int} (hn : n ∈ xs) : n ∈ l := by
  obtain ⟨e, h1, h2, _⟩ := (h.2 n).1 hn
  obtain ⟨i, hi⟩ := List.getElem?_of_mem h1
  obtain ⟨a, ha, hka⟩ := set_key hm hi
  rw [h2] at hka
  simp only [Value.int.injEq, true_and] at hka
  subst hka
  exact List.mem_of_getElem? ha
end Go.Co
namespace Go.Proofs.YtlboppiogeaicaaDoor.co
open Go.RowKit Go.Eng Go.Co Go.Shelf Go.Sort
set_option linter.unusedVariables false
set_option linter.unusedSimpArgs false
set_option maxRecDepth 100000
theorem SortI_calls {p : Nat} {H : List Eng.Item} {S : List World} {w : World} {base cap : Nat} {O : Nat → Prop} {q : Option Addr} {xs : List Int} {F : Eng.Item → List Eng.Item}
    (hh : Hole p H (Eng.row base O q xs.length cap 3 1 (ints xs)) F) (h : Cls H S w) (hlen : xs.length < 4611686018427387904) :
    Calls Tryd.prog 76 #[.slice q xs.length cap] w fun e w' => e = .returned (.tuple #[]) ∧ Cls (F (Eng.row base O q xs.length cap 3 1 (ints (isrt xs)))) S w' := by
  by_cases h0 : xs.length = 0
  · obtain rfl : xs = [] := List.eq_nil_of_length_eq_zero h0
    refine (Any.slices_Sort_int_none Tryd.lays189 q cap w).mono fun e w' he => ⟨he.1, ?_⟩
    rw [he.2]
    have e2 : isrt [] = [] := by simp [isrt]
    rw [e2, hh.eq.2, set_same hh.eq.1]
    exact h
  · have hi := h.holds _ (List.mem_of_getElem? hh.eq.1)
    obtain ⟨g, rfl⟩ : ∃ g, q = some ⟨g, 0, none⟩ := by
      rcases hi.2.2 with ⟨h3, h4⟩ | ⟨g', cap', cur, h3, _⟩
      · omega
      · exact ⟨g', by simp only [Value.slice.injEq] at h3; exact h3.1⟩
    obtain ⟨h1, h2⟩ := row_holds (enc := Value.int .i64) (d := xs.toArray) hi
    have hc := Any.slices_Sort_int Tryd.lays189 g 0 cap xs w h1 h2 hlen
    refine hc.mono fun e w' he => ⟨he.1, ?_⟩
    obtain ⟨n, os, hw⟩ := he.2
    have hp := Cls.rowPut hh h (isrt xs).toArray (by simp [isrt_len]) hw
    exact hp
structure FO where
  seen : Array Nat
  xs : List Int
  O : Nat → Prop
  q : Option Addr
  c : Nat
theorem FreeOf_calls (t : Tr) (b : Nat) (L : List Int) (w : World) (ht : TrO w (low w) t b) (hh : 16 * high t ≤ 1000000) (hL : ∀ n ∈ fv t [], n ∈ L) (hLl : L.length ≤ 1000000) :
    Calls Tryd.prog 44 [.pointer (some ⟨b, 0, none⟩)].toArray w fun e w' => ∃ (l : List Int) (q : Option Addr) (c : Nat), e = .returned (.slice q l.length c) ∧ l.length ≤ 1000000 ∧ l.length ≤ c ∧ l.Pairwise (· ≤ ·) ∧ l.Nodup ∧ (∀ n, n ∈ l ↔ n ∈ fv t []) ∧ IntsO w' (low w') l q ∧ Ext w w' := by
  have hcnt0 : Cnt [] [] := fun k => by simp [cf, lget]
  have hlen0 : ([] : List Int).length + 16 * high t ≤ 1000000 := by rw [List.length_nil, Nat.zero_add]; exact hh
  refine enter Tryd.func44 rfl Tryd.ntmps44 rfl (Cls.start w) ?_
  (simp only [argEnv, Nat.zero_add, Nat.reduceAdd])
  apply W.sr
  apply oas; rfl; rfl
  apply OL.nsr
  apply OL.imakeMap; rfl; rfl; (intro bk hbk; simp only [AllLe, and_true] at hbk)
  apply oas; rfl; rfl
  apply OL.nsr
  apply omv; rfl; rfl
  apply OL.imakeMap; rfl; rfl; (intro bk hbk; simp only [AllLe, and_true] at hbk)
  apply omv; rfl; rfl
  revert bk
  intro bb hbb
  revert bk
  intro bo hbo
  refine OL.callE (α := FG) (fun _ => .tuple #[]) (fun z => (∀ n, n ∈ z.l ↔ n ∈ fv t []) ∧ z.l.Nodup) (fun z => Cls (mapI bo (setM z.l) :: []) [w]) rfl rfl (by exact Args.au) (fun w2 hw2 => ?_) ?_
  · have hfr := free_calls w bb bo hbb hbo (tsz t) t b [] [] [] [] [] w2 (Nat.le_refl _) ht hcnt0 hlen0 (fun k hk => NotOwned.nil) hw2
    refine Calls.mono hfr ?_
    rintro e w3 ⟨h1, bm', l', h2, h3, h4, h5⟩
    have hl' : ∀ n, n ∈ l' ↔ n ∈ fv t [] := fun n => by rw [h3]; simp
    have hn' : l'.Nodup := h4 List.nodup_nil
    refine ⟨⟨[], l'⟩, h1, ⟨hl', hn'⟩, ?_⟩
    exact h5.thin (Thin.any (fun k hk => hk ▸ ⟨hbb, trivial⟩) (by exact Thin.au))
  rintro ⟨_, l0⟩ ⟨hl0, hn0⟩
  simp only at hl0 hn0 ⊢
  refine OL.exx (X := { x : Array MapEntry × Nat // MapIs x.1 x.2 (setM l0) }) (C' := fun x => Cls [mapX bo x.1.1 x.1.2] [w]) (fun w' hw' => by
    obtain ⟨x, h1, h2⟩ := Cls.mapX_of .z hw'
    exact ⟨⟨x, h1⟩, h2⟩) ?_
  rintro ⟨⟨es, clock⟩, hm⟩
  simp only at hm ⊢
  have hnd := hm.nd
  apply OL.nsr
  apply oas; rfl; rfl
  apply OL.nx
  apply W.seq
  apply W.sr
  apply omv; rfl; rfl
  apply OL.rangeMap; rfl; rfl; rfl; (intro w' hw'; exact hw'.item (.head _)); (intro r hr; simp only [AllLe, and_true] at hr)
  apply OL.nx
  apply W.block
  refine W.loop (G := FO) (fun g => Taken es g.seen g.xs) (fun g => (leftOf es g.seen).size) (fun g => [(4, true, .slice g.q g.xs.length g.c), (12, true, .pointer (some ⟨r, 0, none⟩))])
    (fun g => Cls [row w.heap.size g.O g.q g.xs.length g.c 3 1 (ints g.xs), itI r bo clock g.seen clock, mapX bo es clock] [w]) ⟨#[], [], fun _ => False, none, 0⟩ (Taken.nil es) (by exact Sub.au) (fun w' hw' => hw'.row_nil w.heap.size _ 1) ?_
  rintro ⟨seen, xs, O, qx, cx⟩ hT
  simp only at hT ⊢
  have hxl : xs.length ≤ 1000000 := Nat.le_trans (nodup_le hT.1 fun n hn => hL n ((hl0 n).1 (hT.sub hm hn))) hLl
  apply W.sr
  apply OL.nextMap; rfl; rfl; (intro w' hw'; exact hw'.item (.tail _ (.tail _ (.head _)))); (exact hm.lt); (exact Nat.le_refl _); (exact .s .z)
  · intro h0
    have hall : ∀ n, n ∈ xs ↔ n ∈ fv t [] := fun n => (hT.done hm h0 n).trans (hl0 n)
    apply oex; rfl; rfl; rfl
    apply OL.nx
    apply W.seq
    refine W.cond rfl (fun hb => by cases hb) (fun hb => ?_)
    refine W.xt ?_
    with_reducible apply At.next
    apply W.sr
    apply omv; rfl; rfl
    refine OL.callE (α := Unit) (fun _ => .tuple #[]) (fun _ => True) (fun _ => Cls [row w.heap.size O qx xs.length cx 3 1 (ints (isrt xs)), itI r bo clock seen clock, mapX bo es clock] [w]) rfl rfl (by exact Args.au) (fun w2 hw2 => (SortI_calls .z hw2 (by omega)).mono fun e w3 h => ⟨(), h.1, trivial, h.2⟩) ?_
    rintro _ _
    apply OL.nsr
    apply omv; rfl; rfl
    apply oas; rfl; rfl
    apply OL.nx
    apply W.ret
    ((with_reducible apply At.fin1); rfl; rfl; intro w' hw')
    have hi := hw'.item (.head _)
    have hcap := row_le hi
    refine ⟨isrt xs, qx, cx, by rw [isrt_len], by rw [isrt_len]; exact hxl, by rw [isrt_len]; exact hcap, isrt_sorted xs, isrt_nodup hT.1, fun n => isrt_mem.trans (hall n), fun hl => ?_, by (exact hw'.fr)⟩
    exact SlAt.of_row hi (by rw [ints_length]; exact hl)
  · intro e he
    obtain ⟨n, hk⟩ : ∃ n, e.key = .int .i64 n := by
      obtain ⟨i, hi⟩ := List.getElem?_of_mem (left_mem.1 he).1
      obtain ⟨n, _, h⟩ := set_key hm hi
      exact ⟨n, h⟩
    have hT2 := hT.step hm hn0 he hk
    have hsh := left_shrinks es seen e he
    apply oex; rfl; rfl; rfl
    apply OL.nx
    apply W.seq
    refine W.cond rfl (fun hb => ?_) (fun hb => by cases hb)
    apply W.sk
    apply W.block
    apply W.sr
    (((first | (with_reducible apply OL.op) | (with_reducible apply QL.op)); (exact Guard.au); rfl; rfl); (apply Pev.entryMap); rfl; (intro hb2; exact hb2); (intro w' hw'; exact hw'.item (.tail _ (.tail _ (.head _)))); (exact .tail _ (.head _)); (exact (left_mem.1 he).1); (exact hnd))
    rw [hk]
    apply oex; rfl; rfl; rfl
    apply oas; rfl; rfl
    apply OL.nx
    apply W.reg
    apply omv; rfl; rfl
    apply omv; rfl; rfl
    apply OL.buildSlice; rfl; rfl; rfl; exact Elems.au; rfl; rfl; (intro bk hbk; simp only [AllLe, and_true] at hbk)
    apply OL.append; rfl; rfl; rfl; rfl; exact Hole.au; exact .head _; exact Take.au; rfl; rfl; exact ⟨_, .head _, Nat.le_refl _⟩; omega; intro O1 g1 cap1
    apply oas; rfl; rfl
    apply OL.nil
    with_reducible apply At.in_normal
    rw [show ints xs ++ [Value.int .i64 n] = ints (xs ++ [n]) by simp [ints], show xs.length + 1 = (xs ++ [n]).length by simp]
    exact At.again ⟨seen.push e.born, xs ++ [n], O1, some ⟨g1, 0, none⟩, cap1⟩ hT2 hsh (by exact Sub.au) (fun w' hw' => hw'.thin (by exact Thin.au))
end Go.Proofs.YtlboppiogeaicaaDoor.co

/- Plain: the arrays of the check of trees. No program in sight. No condition. -/
namespace Go.Co
open Go.Eng Go.RowKit
set_option linter.unusedVariables false
set_option linter.unusedSimpArgs false
theorem highs_append : ∀ (a b : List Tr), highs (a ++ b) = max (highs a) (highs b)
  | [], b => by simp [highs]
  | t :: r, b => by rw [List.cons_append, highs, highs, highs_append r b, Nat.max_assoc]
/-- the greatest height of the first kids -/
def mx (e : List Ex) (x : Ex) (j : Nat) : Nat := highs ((x.kids.take j).map fun k => grow e k.toNat)
theorem mx_zero (e : List Ex) (x : Ex) : mx e x 0 = 0 := by simp [mx, highs]
theorem mx_succ {e : List Ex} {x : Ex} {j : Nat} {k : Int} (h : x.kids[j]? = some k) : mx e x (j + 1) = max (mx e x j) (high (grow e k.toNat)) := by
  unfold mx
  rw [List.take_add_one, h]
  simp [highs_append, highs]
theorem grow_eqU {e : List Ex} {i : Nat} {x : Ex} (hx : e[i]? = some x) (h : ∀ k ∈ x.kids, 0 ≤ k ∧ k < (i : Int)) : grow e i = .mk x.op x.n x.binds (x.kids.map fun k => grow e k.toNat) x.alts := by
  rw [grow, hx]
  simp only [Tr.mk.injEq, true_and, and_true]
  refine List.map_congr_left fun k hk => ?_
  have := h k hk
  rw [dif_pos (by omega)]
theorem high_eq {e : List Ex} {i : Nat} {x : Ex} (hx : e[i]? = some x) (h : ∀ k ∈ x.kids, 0 ≤ k ∧ k < (i : Int)) : high (grow e i) = mx e x x.kids.length + 1 := by
  rw [grow_eqU hx h, high, mx, List.take_length]
theorem highs_le {B : Nat} : ∀ {l : List Tr}, (∀ t ∈ l, high t ≤ B) → highs l ≤ B
  | [], _ => by simp [highs]
  | t :: r, h => by
    rw [highs]
    exact Nat.max_le.2 ⟨h t (.head _), highs_le fun u hu => h u (.tail _ hu)⟩
theorem mx_le {e : List Ex} {x : Ex} {i j : Nat} (hk : ∀ k ∈ x.kids.take j, 0 ≤ k ∧ k < (i : Int)) (h : ∀ k, k < i → high (grow e k) ≤ k + 1) : mx e x j ≤ i := by
  refine highs_le fun t ht => ?_
  obtain ⟨k, hk2, rfl⟩ := List.mem_map.1 ht
  have h1 := hk k hk2
  have h2 := h k.toNat (by omega)
  omega
theorem high_le {e : List Ex} {n : Nat} (h : ∀ (j : Nat) (x : Ex), j < n → e[j]? = some x → ∀ k ∈ x.kids, 0 ≤ k ∧ k < (j : Int)) : ∀ k, k < n → k < e.length → high (grow e k) ≤ k + 1 := by
  intro k
  induction k using Nat.strongRecOn with
  | _ k ih =>
    intro hk hl
    have hx : e[k]? = some e[k] := List.getElem?_eq_getElem hl
    have hks := h k _ hk hx
    rw [high_eq hx hks]
    have := mx_le (e := e) (x := e[k]) (i := k) (j := e[k].kids.length) (fun c hc => hks c (List.mem_of_mem_take hc)) (fun c hc => ih c hc (by omega) (by omega))
    omega
theorem maxIf (a b : Nat) : (if (a : Int) < (b : Int) then (b : Int) else (a : Int)) = ((max a b : Nat) : Int) := by rw [Nat.max_def]; split <;> split <;> omega
def dl (e : List Ex) (i m : Nat) : List Int := (List.range e.length).map fun k => if k < i then (high (grow e k) : Int) else if k = i then (m : Int) else 0
def pl (e : List Ex) (l : List Int) : List Int := (List.range e.length).map fun (k : Nat) => (l.count (k : Int) : Int)
theorem dl_length (e : List Ex) (i m : Nat) : (dl e i m).length = e.length := by simp [dl]
theorem pl_length (e : List Ex) (l : List Int) : (pl e l).length = e.length := by simp [pl]
theorem ints_set (l : List Int) (o : Nat) (v : Int) : (ints l).set o (.int .i64 v) = ints (l.set o v) := by simp [ints, List.map_set]
theorem dl_zero (e : List Ex) : List.replicate e.length (Value.int .i64 0) = ints (dl e 0 0) := by
  refine List.ext_getElem? fun k => ?_
  by_cases h : k < e.length
  · simp [ints, dl, List.getElem?_replicate, h]
  · simp [ints, dl, List.getElem?_replicate, h]
theorem pl_zero (e : List Ex) : List.replicate e.length (Value.int .i64 0) = ints (pl e []) := by
  refine List.ext_getElem? fun k => ?_
  by_cases h : k < e.length
  · simp [ints, pl, List.getElem?_replicate, h]
  · simp [ints, pl, List.getElem?_replicate, h]
theorem dl_low {e : List Ex} {i m k : Nat} (hk : k < i) (hi : k < e.length) : (dl e i m)[k]? = some (high (grow e k) : Int) := by
  simp [dl, hi, hk]
theorem dl_at {e : List Ex} {i m : Nat} (hi : i < e.length) : (dl e i m)[i]? = some (m : Int) := by simp [dl, hi]
theorem dl_set {e : List Ex} {i m m' : Nat} (hi : i < e.length) : (dl e i m).set i (m' : Int) = dl e i m' := by
  refine List.ext_getElem? fun k => ?_
  rw [List.getElem?_set]
  by_cases h : i = k
  · subst h
    rw [if_pos rfl, dl_length, if_pos hi, dl_at hi]
  · rw [if_neg h]
    have h2 : ¬ k = i := fun e => h e.symm
    by_cases hk : k < e.length
    · simp [dl, hk, h2]
    · rw [List.getElem?_eq_none (by rw [dl_length]; omega), List.getElem?_eq_none (by rw [dl_length]; omega)]
theorem dl_next {e : List Ex} {i m : Nat} (hi : i < e.length) (h : high (grow e i) = m) : dl e i m = dl e (i + 1) 0 := by
  unfold dl
  refine List.map_congr_left fun k hk => ?_
  by_cases h1 : k < i
  · rw [if_pos h1, if_pos (by omega)]
  · rw [if_neg h1]
    by_cases h2 : k = i
    · subst h2
      rw [if_pos rfl, if_pos (by omega), h]
    · rw [if_neg h2, if_neg (by omega)]
      split <;> rfl
theorem pl_at {e : List Ex} {l : List Int} {k : Nat} (hk : k < e.length) : (pl e l)[k]? = some (l.count (k : Int) : Int) := by simp [pl, hk]
theorem pl_set {e : List Ex} {l : List Int} {k : Nat} (hk : k < e.length) : (pl e l).set k ((l.count (k : Int) : Int) + 1) = pl e (l ++ [(k : Int)]) := by
  refine List.ext_getElem? fun m => ?_
  rw [List.getElem?_set]
  by_cases h : k = m
  · subst h
    rw [if_pos rfl, pl_length, if_pos hk, pl_at hk, List.count_append]
    simp
  · rw [if_neg h]
    by_cases hm : m < e.length
    · rw [pl_at hm, pl_at hm, List.count_append]
      have : ¬ (k : Int) = (m : Int) := by omega
      simp [List.count_singleton, this]
    · rw [List.getElem?_eq_none (by rw [pl_length]; omega), List.getElem?_eq_none (by rw [pl_length]; omega)]
theorem treeE_big {e : List Ex} (h : 4096 < e.length) : treeE e = 2 := by unfold treeE; rw [if_pos h]
theorem treeE_bad {e : List Ex} (h : e.length ≤ 4096) (hb : ¬ (0 < e.length ∧ Down e ∧ ∀ i : Nat, i + 1 < e.length → (kidsAll e).count (i : Int) = 1)) : treeE e = 3 := by
  unfold treeE
  rw [if_neg (by omega), if_neg hb]
theorem treeE_ok {e : List Ex} (h : e.length ≤ 4096) (h0 : 0 < e.length) (hd : Down e) (h1 : ∀ i : Nat, i + 1 < e.length → (kidsAll e).count (i : Int) = 1) : treeE e = if 400 < high (grow e (e.length - 1)) then 2 else 0 := by
  unfold treeE
  rw [if_neg (by omega), if_pos ⟨h0, hd, h1⟩]
theorem treeE_zero {e : List Ex} (h : treeE e = 0) : e.length ≤ 4096 ∧ 0 < e.length ∧ IsTree e ∧ high (grow e (e.length - 1)) ≤ 400 := by
  unfold treeE at h
  split at h
  · cases h
  rename_i h1
  split at h
  · rename_i h2
    split at h
    · cases h
    · exact ⟨by omega, h2.1, isTree_of h2.2.1 h2.2.2, by omega⟩
  · cases h
theorem kidsAll_length {B : Nat} : ∀ {l : List Ex}, (∀ x ∈ l, x.kids.length ≤ B) → (kidsAll l).length ≤ l.length * B
  | [], _ => by simp [kidsAll]
  | x :: r, h => by
    have h1 := h x (.head _)
    have h2 := kidsAll_length (l := r) fun y hy => h y (.tail _ hy)
    have e1 : kidsAll (x :: r) = x.kids ++ kidsAll r := by simp [kidsAll]
    rw [e1, List.length_append, List.length_cons, Nat.succ_mul]
    omega
theorem kidsTo_length {B : Nat} {e : List Ex} {i j : Nat} (h : ∀ x ∈ e, x.kids.length ≤ B) (hi : i < e.length) : (kidsTo e i j).length ≤ (i + 1) * B := by
  have h1 := kidsAll_length (B := B) (l := e.take i) fun x hx => h x (List.mem_of_mem_take hx)
  have h2 := h _ (List.getElem_mem hi)
  have hx : e[i]? = some e[i] := List.getElem?_eq_getElem hi
  have h3 : (((e[i]?.map Ex.kids).getD []).take j).length ≤ B := by
    rw [hx]
    simp only [Option.map_some, Option.getD_some, List.length_take]
    omega
  have h4 : (e.take i).length ≤ i := by simp; omega
  have h5 : (e.take i).length * B ≤ i * B := Nat.mul_le_mul_right _ h4
  rw [kidsTo, List.length_append, Nat.succ_mul]
  omega
theorem count_le_length (l : List Int) (k : Int) : l.count k ≤ l.length := List.count_le_length
end Go.Co

/- The walk of core's treeError. Conditions: none. (Printed by cod.py.) -/
namespace Go.Proofs.YtlboppiogeaicaaDoor.co
open Go.RowKit Go.Eng Go.Co
set_option linter.unusedVariables false
set_option linter.unusedSimpArgs false
set_option maxRecDepth 100000
structure XM (S : List World) where
  b1 : Nat
  hb1 : AllLe S b1
  b2 : Nat
  hb2 : AllLe S b2
  old : Nat → Value
theorem treeError_calls (es : List (Ex × ExY)) (q : Option Addr) (cap : Nat) (w : World) (he : Arr exR w (low w) es q) (hlen : es.length ≤ 9223372036854775807) :
    Calls Tryd.prog 64 [.slice q es.length cap].toArray w fun e w' => e = .returned (.int .i64 (treeE (es.map Prod.fst))) ∧ Ext w w' := by
  obtain ⟨e, hee⟩ : ∃ e, es.map Prod.fst = e := ⟨_, rfl⟩
  have hel : e.length = es.length := by rw [← hee, List.length_map]
  rw [hee]
  refine enter Tryd.func64 rfl Tryd.ntmps64 rfl (Cls.start w) ?_
  (simp only [argEnv, Nat.zero_add, Nat.reduceAdd])
  apply W.sr
  apply oas; rfl; rfl
  apply OL.nx
  apply W.seq
  apply W.sr
  apply omv; rfl; rfl
  apply oop; rfl; apply Pev.len_slice; rfl; exact yes; rfl
  apply obn; rfl; rfl; rfl; apply Bin.gtr
  apply OL.nx
  (refine W.cnd (fun hbig => ?_) (fun hbig => ?_)) <;> (try (exfalso; first | omega | exact hbig trivial | contradiction))
  · apply W.sr
    apply oas; rfl; rfl
    apply OL.nx
    refine W.rt ?_
    ((with_reducible apply At.fin1); rfl; rfl; intro w' hw')
    exact ⟨by rw [treeE_big (by omega)], by (exact hw'.fr)⟩
  apply W.sk
  apply W.seq
  apply W.sr
  apply omv; rfl; rfl
  apply oop; rfl; apply Pev.len_slice; rfl; exact yes; rfl
  apply obn; rfl; rfl; rfl; apply Bin.eql
  apply OL.nx
  (refine W.cnd (fun h0 => ?_) (fun h0 => ?_)) <;> (try (exfalso; first | omega | exact h0 trivial | contradiction))
  · apply W.sr
    apply oas; rfl; rfl
    apply OL.nx
    refine W.rt ?_
    ((with_reducible apply At.fin1); rfl; rfl; intro w' hw')
    exact ⟨by rw [treeE_bad (by omega) (fun h => by omega)], by (exact hw'.fr)⟩
  apply W.sk
  apply W.seq
  refine W.regany (X := XM [w]) (fun x e => [(4, true, bif e 7 then .slice (some ⟨x.b2, 0, none⟩) es.length es.length else x.old 4), (3, true, bif e 6 then .slice (some ⟨x.b1, 0, none⟩) es.length es.length else x.old 3), (22, true, bif e 5 then .slice (some ⟨x.b2, 0, none⟩) es.length es.length else x.old 22), (21, true, bif e 4 then .int .i64 (es.length : Int) else x.old 21), (20, true, bif e 3 then .slice q es.length cap else x.old 20), (19, true, bif e 2 then .slice (some ⟨x.b1, 0, none⟩) es.length es.length else x.old 19), (18, true, bif e 1 then .int .i64 (es.length : Int) else x.old 18), (17, true, bif e 0 then .slice q es.length cap else x.old 17), (0, true, .slice q es.length cap)])
    (fun x e => (bif e 2 then blk x.b1 3 (List.replicate es.length (.int .i64 0)) else nothing) :: (bif e 5 then blk x.b2 3 (List.replicate es.length (.int .i64 0)) else nothing) :: [])
    (fun old => ⟨w.heap.size, ⟨Nat.le_refl _, trivial⟩, w.heap.size, ⟨Nat.le_refl _, trivial⟩, old⟩) (by kernel_rfl) (by kernel_rfl) (fun w hw => hw.drew) (fun old => by repeat (first | exact SubO.nil | apply SubO.cons rfl | refine SubO.old rfl ?_)) (fun old w' hw' => hw'.add_nothing.add_nothing) ?_ ?_
  · intro x e i o ho hei hd hcl
    have hi : i < 8 := (List.getElem?_eq_some_iff.1 ho).1
    obtain rfl | rfl | rfl | rfl | rfl | rfl | rfl | rfl : i = 0 ∨ i = 1 ∨ i = 2 ∨ i = 3 ∨ i = 4 ∨ i = 5 ∨ i = 6 ∨ i = 7 := by omega
    · cases ho
      have v0 : Eng.upd e 0 0 = true := upd_eq
      simp only [hei, cond_true, cond_false]
      apply omv; rfl; rfl
      apply OL.nil
      exact At.beside x (by repeat (first | exact Sub.nil | apply Sub.cons rfl | refine Sub.cons_eq rfl (by simp only [v0, cond_true, cond_false]) ?_)) (fun w' hw' => by first | exact hw' | (simp only [v0, cond_true, cond_false]; exact hw'))
    · cases ho
      have h0 : e 0 = true := hd ⟨0, .data⟩ (by simp) rfl
      have v1 : Eng.upd e 1 1 = true := upd_eq
      have v0 : Eng.upd e 1 0 = true := upd_mono h0
      simp only [hei, h0, cond_true, cond_false]
      apply oop; rfl; apply Pev.len_slice; rfl; exact yes; rfl
      apply OL.nil
      exact At.beside x (by repeat (first | exact Sub.nil | apply Sub.cons rfl | refine Sub.cons_eq rfl (by simp only [v1, v0, cond_true, cond_false]) ?_)) (fun w' hw' => by first | exact hw' | (simp only [v1, v0, cond_true, cond_false]; exact hw'))
    · cases ho
      have h1 : e 1 = true := hd ⟨1, .data⟩ (by simp) rfl
      have h6 : e 6 = false := hcl.not (i := 2) (j := 6) rfl hei (by kernel_rfl)
      have v2 : Eng.upd e 2 2 = true := upd_eq
      have v1 : Eng.upd e 2 1 = true := upd_mono h1
      have v6 : Eng.upd e 2 6 = false := h6
      simp only [hei, h1, h6, cond_true, cond_false]
      apply OL.makeSlice; rfl; rfl; rfl; rfl; rfl; rfl; rfl; omega; (intro bk hbk; simp only [AllLe, and_true] at hbk)
      apply OL.nil
      exact At.beside { x with b1 := bk, hb1 := ⟨hbk, trivial⟩ } (by repeat (first | exact Sub.nil | apply Sub.cons rfl | refine Sub.cons_eq rfl (by simp only [v2, v1, v6, cond_true, cond_false]) ?_)) (fun w' hw' => by simp only [v2, v1, v6, cond_true, cond_false]; exact Cls.fill (p := 0) (H := _ :: _ :: []) .z hw')
    · cases ho
      have v3 : Eng.upd e 3 3 = true := upd_eq
      simp only [hei, cond_true, cond_false]
      apply omv; rfl; rfl
      apply OL.nil
      exact At.beside x (by repeat (first | exact Sub.nil | apply Sub.cons rfl | refine Sub.cons_eq rfl (by simp only [v3, cond_true, cond_false]) ?_)) (fun w' hw' => by first | exact hw' | (simp only [v3, cond_true, cond_false]; exact hw'))
    · cases ho
      have h3 : e 3 = true := hd ⟨3, .data⟩ (by simp) rfl
      have v4 : Eng.upd e 4 4 = true := upd_eq
      have v3 : Eng.upd e 4 3 = true := upd_mono h3
      simp only [hei, h3, cond_true, cond_false]
      apply oop; rfl; apply Pev.len_slice; rfl; exact yes; rfl
      apply OL.nil
      exact At.beside x (by repeat (first | exact Sub.nil | apply Sub.cons rfl | refine Sub.cons_eq rfl (by simp only [v4, v3, cond_true, cond_false]) ?_)) (fun w' hw' => by first | exact hw' | (simp only [v4, v3, cond_true, cond_false]; exact hw'))
    · cases ho
      have h4 : e 4 = true := hd ⟨4, .data⟩ (by simp) rfl
      have h7 : e 7 = false := hcl.not (i := 5) (j := 7) rfl hei (by kernel_rfl)
      have v5 : Eng.upd e 5 5 = true := upd_eq
      have v4 : Eng.upd e 5 4 = true := upd_mono h4
      have v7 : Eng.upd e 5 7 = false := h7
      simp only [hei, h4, h7, cond_true, cond_false]
      apply OL.makeSlice; rfl; rfl; rfl; rfl; rfl; rfl; rfl; omega; (intro bk hbk; simp only [AllLe, and_true] at hbk)
      apply OL.nil
      exact At.beside { x with b2 := bk, hb2 := ⟨hbk, trivial⟩ } (by repeat (first | exact Sub.nil | apply Sub.cons rfl | refine Sub.cons_eq rfl (by simp only [v5, v4, v7, cond_true, cond_false]) ?_)) (fun w' hw' => by simp only [v5, v4, v7, cond_true, cond_false]; exact Cls.fill (p := 1) (H := _ :: _ :: []) (.s .z) hw')
    · cases ho
      have h2 : e 2 = true := hd ⟨2, .data⟩ (by simp) rfl
      have v6 : Eng.upd e 6 6 = true := upd_eq
      have v2 : Eng.upd e 6 2 = true := upd_mono h2
      simp only [hei, h2, cond_true, cond_false]
      apply oas; rfl; rfl
      apply OL.nil
      exact At.beside x (by repeat (first | exact Sub.nil | apply Sub.cons rfl | refine Sub.cons_eq rfl (by simp only [v6, v2, cond_true, cond_false]) ?_)) (fun w' hw' => by first | exact hw' | (simp only [v6, v2, cond_true, cond_false]; exact hw'))
    · cases ho
      have h5 : e 5 = true := hd ⟨5, .data⟩ (by simp) rfl
      have v7 : Eng.upd e 7 7 = true := upd_eq
      have v5 : Eng.upd e 7 5 = true := upd_mono h5
      simp only [hei, h5, cond_true, cond_false]
      apply oas; rfl; rfl
      apply OL.nil
      exact At.beside x (by repeat (first | exact Sub.nil | apply Sub.cons rfl | refine Sub.cons_eq rfl (by simp only [v7, v5, cond_true, cond_false]) ?_)) (fun w' hw' => by first | exact hw' | (simp only [v7, v5, cond_true, cond_false]; exact hw'))
  · intro x e2 hall
    have hx1 : w.heap.size ≤ x.b1 := x.hb1.1
    have hx2 : w.heap.size ≤ x.b2 := x.hb2.1
    simp only [hall 0 (by decide), hall 1 (by decide), hall 2 (by decide), hall 3 (by decide), hall 4 (by decide), hall 5 (by decide), hall 6 (by decide), hall 7 (by decide), cond_true]
    generalize x.b1 = bd at *
    generalize x.b2 = bp at *
    clear x
    have hrz : List.replicate es.length (Value.int .i64 0) = ints (dl e 0 0) := by rw [← dl_zero, hel]
    have hrp : List.replicate es.length (Value.int .i64 0) = ints (pl e []) := by rw [← pl_zero, hel]
    have hget : ∀ {i : Nat}, i < es.length → ∃ a p, q = some a ∧ a.block < w.heap.size ∧ es[i]? = some p ∧ e[i]? = some p.1 ∧ CellsAt w (a.add (i * 5)) [.int .i64 p.1.op, .int .i64 p.1.n, .slice p.2.b.1 p.1.binds.length p.2.b.2, .slice p.2.k.1 p.1.kids.length p.2.k.2, .slice p.2.a.1 p.1.alts.length p.2.a.2] ∧ ExOk w (low w) p.1 p.2 := fun {i} hi => by
      obtain ⟨a, p, h1, h2, h3, h4, h5⟩ := he.get hi
      exact ⟨a, p, h1, h2, h3, by rw [← hee, List.getElem?_map, h3]; rfl, h4, h5⟩
    have h4096 : es.length ≤ 4096 := by omega
    have hkall : ∀ x ∈ e, x.kids.length ≤ 140737488355328 := fun x hx => by
      rw [← hee] at hx
      obtain ⟨p, hp, rfl⟩ := List.mem_map.1 hx
      exact (he.el p hp).kl
    with_reducible apply At.next
    apply W.seq
    apply W.sr
    apply omv; rfl; rfl
    apply oop; rfl; apply Pev.len_slice; rfl; exact yes; rfl
    apply omv; rfl; rfl
    apply OL.nx
    apply W.block
    refine W.loop (G := Nat) (fun i => i ≤ es.length ∧ ∀ (j : Nat) (x : Ex), j < i → e[j]? = some x → ∀ k ∈ x.kids, 0 ≤ k ∧ k < (j : Int)) (fun i => es.length - i)
      (fun i => [(0, true, .slice q es.length cap), (3, true, .slice (some ⟨bd, 0, none⟩) es.length es.length), (4, true, .slice (some ⟨bp, 0, none⟩) es.length es.length), (23, true, .slice q es.length cap), (24, true, .int .i64 (es.length : Int)), (25, true, .int .i64 (i : Int))])
      (fun i => Cls [blk bd 3 (ints (dl e i 0)), blk bp 3 (ints (pl e (kidsTo e i 0)))] [w]) 0 ⟨by omega, fun j x hj => by omega⟩ (by exact Sub.au) (fun w' hw' => by rw [← hrz, kidsTo_zero, ← hrp]; exact hw') ?_
    rintro i ⟨hi, hdn⟩
    apply W.sr
    apply obn; rfl; rfl; rfl; apply Bin.lss
    apply OL.nx
    apply W.seq
    (refine W.cnd (fun hlt => ?_) (fun hlt => ?_)) <;> (try (exfalso; first | omega | exact hlt trivial | contradiction))
    · have hil : i < es.length := by omega
      have hile : i < e.length := by omega
      obtain ⟨a, p, rfl, hab, hp, hpe, hcell, hok⟩ := hget hil
      have hkl := hok.kl
      apply W.sk
      apply W.sb
      apply W.sr
      apply omv; rfl; rfl
      apply oop; rfl; apply Pev.idx; rfl; exact yes; rfl; exact yes; rfl; rfl; intro hcond; omega
      apply oop; rfl; apply Pev.load_keptA; rfl; exact yes; exact .head _; rfl; intro hcond; assumption; rfl; intro hcond; (rw [add_block]; assumption); intro hcond; exact NotOwned.au
      apply OL.alloc; rfl; rfl; exact CellsL.agg; (intro bk hbk; simp only [AllLe, and_true] at hbk)
      apply oas; rfl; rfl
      apply OL.storeB; rfl; rfl; exact CellsL.agg; rfl; rfl; rfl; exact Swap.au; exact Put.au
      apply OL.nx
      apply W.seq
      apply W.sr
      apply ofa; rfl; rfl; rfl
      apply old; rfl; rfl; exact .head _; rfl; rfl
      apply oop; rfl; apply Pev.len_slice; rfl; exact yes; rfl
      apply omv; rfl; rfl
      apply OL.nx
      apply W.block
      revert bk
      intro bx hbx
      skip
      refine W.loop (G := Nat) (fun j => j ≤ p.1.kids.length ∧ ∀ (m : Nat) (k : Int), m < j → p.1.kids[m]? = some k → 0 ≤ k ∧ k < (i : Int)) (fun j => p.1.kids.length - j)
        (fun j => [(0, true, .slice (some a) es.length cap), (3, true, .slice (some ⟨bd, 0, none⟩) es.length es.length), (4, true, .slice (some ⟨bp, 0, none⟩) es.length es.length), (5, true, .int .i64 (i : Int)), (23, true, .slice (some a) es.length cap), (24, true, .int .i64 (es.length : Int)), (25, true, .int .i64 (i : Int)), (31, true, .slice p.2.k.1 p.1.kids.length p.2.k.2), (32, true, .int .i64 (p.1.kids.length : Int)), (33, true, .int .i64 (j : Int))])
        (fun j => Cls [blk bd 3 (ints (dl e i (mx e p.1 j))), blk bp 3 (ints (pl e (kidsTo e i j)))] [w]) 0 ⟨by omega, fun m k hm => by omega⟩ (by exact Sub.au) (fun w' hw' => by rw [mx_zero]; exact hw'.thin (by exact Thin.au)) ?_
      rintro j ⟨hj, hks⟩
      apply W.sr
      apply obn; rfl; rfl; rfl; apply Bin.lss
      apply OL.nx
      apply W.seq
      (refine W.cnd (fun hlt2 => ?_) (fun hlt2 => ?_)) <;> (try (exfalso; first | omega | exact hlt2 trivial | contradiction))
      · have hjl : j < p.1.kids.length := by omega
        obtain ⟨ak, k, hqk, habk, hk, hck⟩ := hok.k.get hjl
        have habk : ak.block < w.heap.size := habk
        rw [hqk]
        apply W.sk
        apply W.sb
        apply W.sr
        apply oop; rfl; apply Pev.idx; rfl; exact yes; rfl; exact yes; rfl; rfl; intro hcond; omega
        apply oop; rfl; apply Pev.load_kept; rfl; exact yes; exact .head _; rfl; intro hcond; assumption; intro hcond; (rw [add_block]; assumption); intro hcond; exact NotOwned.au
        apply oas; rfl; rfl
        apply OL.nx
        apply W.seq
        apply W.sr
        apply omv; rfl; rfl
        apply obn; rfl; rfl; rfl; apply Bin.lss
        apply omv; rfl; rfl
        apply ono; rfl; rfl; rfl; apply Pev.move; rfl; exact yes
        apply ono; rfl; rfl; rfl; apply Pev.move; rfl; exact yes
        apply ono; rfl; rfl; rfl; apply Pev.bin; rfl; exact fun h => h; rfl; exact fun h => h; intro hcond; apply Bin.geq
        apply oop; rfl; apply Pev.pick_or; rfl; exact yes; rfl; exact fun h => h
        apply OL.nx
        refine W.cond rfl (fun hb => ?_) (fun hb => ?_)
        · apply W.sr
          apply oas; rfl; rfl
          apply OL.nx
          refine W.rt ?_
          ((with_reducible apply At.fin1); rfl; rfl; intro w' hw')
          refine ⟨by rw [treeE_bad (by omega)]; rintro ⟨_, hd, _⟩; have := hd i _ hpe k (List.mem_of_getElem? hk); simp at hb; omega, by (exact hw'.fr)⟩
        obtain ⟨kn, rfl⟩ : ∃ kn : Nat, k = (kn : Int) := ⟨k.toNat, by simp at hb; omega⟩
        have hki : kn < i := by simp at hb; omega
        have hpk : (ints (pl e (kidsTo e i j)))[0 + (kn : Int).toNat * 1]? = some (.int .i64 ((kidsTo e i j).count (kn : Int) : Int)) := by
          have h1 := ints_get (pl_at (e := e) (l := kidsTo e i j) (k := kn) (by omega))
          simpa using h1
        have hcnt : (kidsTo e i j).count (kn : Int) ≤ 4096 * 140737488355328 := by
          have h1 := kidsTo_length (B := 140737488355328) (e := e) (i := i) (j := j) hkall hile
          have h2 := count_le_length (kidsTo e i j) (kn : Int)
          have h3 : (i + 1) * 140737488355328 ≤ 4096 * 140737488355328 := Nat.mul_le_mul_right _ (by omega)
          omega
        have hdk : (ints (dl e i (mx e p.1 j)))[0 + (kn : Int).toNat * 1]? = some (.int .i64 (high (grow e kn) : Int)) := by
          have h1 := ints_get (dl_low (e := e) (m := mx e p.1 j) hki (by omega))
          simpa using h1
        have hdi : (ints (dl e i (mx e p.1 j)))[0 + (i : Int).toNat * 1]? = some (.int .i64 (mx e p.1 j : Int)) := by
          have h1 := ints_get (dl_at (e := e) (m := mx e p.1 j) hile)
          simpa using h1
        apply W.sk
        apply W.sr
        apply omv; rfl; rfl
        apply omv; rfl; rfl
        apply oop; rfl; apply Pev.idxB; rfl; exact yes; rfl; exact yes; rfl; intro hcond; omega; rfl
        apply oop; rfl; apply Pev.load_blk; rfl; exact yes; exact .tail _ (.head _); rfl; assumption
        apply obn; rfl; rfl; rfl; apply Bin.add_in; omega
        apply oop; rfl; apply Pev.idxB; rfl; exact yes; rfl; exact yes; rfl; intro hcond; omega; rfl
        (apply OL.storeI); rfl; rfl; rfl; rfl; rfl; (exact Swap.au); (rw [ints_length, pl_length]; omega)
        have hset : (ints (pl e (kidsTo e i j))).set (0 + (kn : Int).toNat * 1) (.int .i64 (((kidsTo e i j).count (kn : Int) : Int) + 1)) = ints (pl e (kidsTo e i (j + 1))) := by
          rw [show 0 + (kn : Int).toNat * 1 = kn by simp, ints_set, pl_set (by omega), kidsTo_step hpe hk]
        rw [hset]
        apply OL.nx
        apply W.regq; apply Split.s rfl; apply Split.s rfl; apply Split.s rfl; apply Split.s rfl; apply Split.s rfl; apply Split.s rfl; apply Split.s rfl; apply Split.s rfl; apply Split.s rfl; apply Split.s rfl; apply Split.s rfl; apply Split.s rfl; exact Split.z rfl; kernel_rfl; decide +kernel; exact fun w hw => hw.drew
        apply qmv; rfl; rfl
        apply qmv; rfl; rfl
        apply qmv; rfl; rfl
        apply qmv; rfl; rfl
        apply qop; rfl; apply Pev.idxB; rfl; exact yes; rfl; exact yes; rfl; intro hcond; omega; rfl
        apply qop; rfl; apply Pev.load_blk; rfl; exact yes; exact .head _; rfl; assumption
        apply qmv; rfl; rfl
        apply qmv; rfl; rfl
        apply qop; rfl; apply Pev.idxB; rfl; exact yes; rfl; exact yes; rfl; intro hcond; omega; rfl
        apply qop; rfl; apply Pev.load_blk; rfl; exact yes; exact .head _; rfl; assumption
        apply qop; rfl; apply Pev.max2; rfl; exact yes; rfl; exact yes
        apply qop; rfl; apply Pev.idxB; rfl; exact yes; rfl; exact yes; rfl; intro hcond; omega; rfl
        with_reducible apply QL.tail
        (apply OL.storeI); rfl; rfl; rfl; rfl; rfl; (exact Swap.au); (rw [ints_length, dl_length]; omega)
        have hset2 : (ints (dl e i (mx e p.1 j))).set (0 + (i : Int).toNat * 1) (.int .i64 (if (mx e p.1 j : Int) < (high (grow e kn) : Int) then (high (grow e kn) : Int) else (mx e p.1 j : Int))) = ints (dl e i (mx e p.1 (j + 1))) := by
          rw [show 0 + (i : Int).toNat * 1 = i by simp, ints_set, maxIf, dl_set hile, mx_succ hk]
          rfl
        rw [hset2]
        apply OL.nil
        with_reducible apply At.in_normal
        with_reducible apply At.next
        apply W.reg
        apply obn; rfl; rfl; rfl; apply Bin.add_in; omega
        apply omv; rfl; rfl
        apply OL.nil
        refine At.again (j + 1) ⟨by omega, fun m k2 hm hk2 => ?_⟩ (by omega) (by exact Sub.au) (fun w' hw' => by first | exact hw' | exact hw'.thin (by exact Thin.au))
        by_cases em : m = j
        · subst em
          rw [hk] at hk2
          obtain rfl := Option.some.inj hk2
          omega
        · exact hks m k2 (by omega) hk2
      · obtain rfl : j = p.1.kids.length := by omega
        have hkall2 : ∀ k ∈ p.1.kids, 0 ≤ k ∧ k < (i : Int) := fun k hk => by
          obtain ⟨m, hm⟩ := List.getElem?_of_mem hk
          exact hks m k (List.getElem?_eq_some_iff.1 hm).1 hm
        have hmi : mx e p.1 p.1.kids.length ≤ i := mx_le (fun k hk => hkall2 k (List.mem_of_mem_take hk)) (fun k hk => high_le hdn k hk (by omega))
        have hhi := high_eq hpe hkall2
        have hdi : (ints (dl e i (mx e p.1 p.1.kids.length)))[0 + (i : Int).toNat * 1]? = some (.int .i64 (mx e p.1 p.1.kids.length : Int)) := by
          have h1 := ints_get (dl_at (e := e) (m := mx e p.1 p.1.kids.length) hile)
          simpa using h1
        refine W.xt ?_
        with_reducible apply At.next
        apply W.reg
        apply omv; rfl; rfl
        apply omv; rfl; rfl
        apply oop; rfl; apply Pev.idxB; rfl; exact yes; rfl; exact yes; rfl; intro hcond; omega; rfl
        apply oop; rfl; apply Pev.load_blk; rfl; exact yes; exact .head _; rfl; assumption
        apply obn; rfl; rfl; rfl; apply Bin.add_in; omega
        apply oop; rfl; apply Pev.idxB; rfl; exact yes; rfl; exact yes; rfl; intro hcond; omega; rfl
        (apply OL.storeI); rfl; rfl; rfl; rfl; rfl; (exact Swap.au); (rw [ints_length, dl_length]; omega)
        have hset3 : (ints (dl e i (mx e p.1 p.1.kids.length))).set (0 + (i : Int).toNat * 1) (.int .i64 ((mx e p.1 p.1.kids.length : Int) + 1)) = ints (dl e (i + 1) 0) := by
          rw [show 0 + (i : Int).toNat * 1 = i by simp, ints_set, show ((mx e p.1 p.1.kids.length : Int) + 1) = ((mx e p.1 p.1.kids.length + 1 : Nat) : Int) by omega, dl_set hile, ← hhi, dl_next hile rfl]
        rw [hset3, ← kidsTo_next hpe]
        apply OL.nil
        with_reducible apply At.in_normal
        with_reducible apply At.next
        apply W.reg
        apply obn; rfl; rfl; rfl; apply Bin.add_in; omega
        apply omv; rfl; rfl
        apply OL.nil
        refine At.again (i + 1) ⟨by omega, fun m x2 hm hx2 => ?_⟩ (by omega) (by exact Sub.au) (fun w' hw' => hw')
        by_cases em : m = i
        · subst em
          rw [hpe] at hx2
          obtain rfl := Option.some.inj hx2
          exact hkall2
        · exact hdn m x2 (by omega) hx2
    · obtain rfl : i = es.length := by omega
      have hdown : Down e := fun j x hx => hdn j x (by have := (List.getElem?_eq_some_iff.1 hx).1; omega) hx
      have hkt : kidsTo e es.length 0 = kidsAll e := by rw [← hel, kidsTo_end]
      rw [hkt]
      have hlast : (kidsAll e).count ((e.length - 1 : Nat) : Int) = 0 := by
        refine List.count_eq_zero.2 fun hm => ?_
        obtain ⟨p, x, hx, hk⟩ := mem_kidsAll.1 hm
        have h1 := hdown p x hx _ hk
        have h2 := (List.getElem?_eq_some_iff.1 hx).1
        omega
      refine W.xt ?_
      with_reducible apply At.next
      apply W.seq
      apply W.sr
      apply omv; rfl; rfl
      apply oop; rfl; apply Pev.len_slice; rfl; exact yes; rfl
      apply omv; rfl; rfl
      apply OL.nx
      apply W.block
      refine W.loop (G := Nat) (fun i => i ≤ es.length ∧ ∀ j : Nat, j < i → j + 1 < e.length → (kidsAll e).count (j : Int) = 1) (fun i => es.length - i)
        (fun i => [(0, true, .slice q es.length cap), (3, true, .slice (some ⟨bd, 0, none⟩) es.length es.length), (70, true, .slice (some ⟨bp, 0, none⟩) es.length es.length), (71, true, .int .i64 (es.length : Int)), (72, true, .int .i64 (i : Int))])
        (fun i => Cls [blk bd 3 (ints (dl e es.length 0)), blk bp 3 (ints (pl e (kidsAll e)))] [w]) 0 ⟨by omega, fun j hj => by omega⟩ (by exact Sub.au) (fun w' hw' => hw') ?_
      rintro j ⟨hj, hone⟩
      apply W.sr
      apply obn; rfl; rfl; rfl; apply Bin.lss
      apply OL.nx
      apply W.seq
      (refine W.cnd (fun hlt2 => ?_) (fun hlt2 => ?_)) <;> (try (exfalso; first | omega | exact hlt2 trivial | contradiction))
      · have hjl : j < es.length := by omega
        have hpj : (ints (pl e (kidsAll e)))[0 + (j : Int).toNat * 1]? = some (.int .i64 ((kidsAll e).count (j : Int) : Int)) := by
          have h1 := ints_get (pl_at (e := e) (l := kidsAll e) (k := j) (by omega))
          simpa using h1
        have hpj2 : (ints (pl e (kidsAll e)))[0 + j * 1]? = some (.int .i64 ((kidsAll e).count (j : Int) : Int)) := hpj
        apply W.sk
        apply W.sb
        apply W.sr
        apply omv; rfl; rfl
        apply oop; rfl; apply Pev.idxB; rfl; exact yes; rfl; exact yes; rfl; intro hcond; omega; rfl
        apply oop; rfl; apply Pev.load_blk; rfl; exact yes; exact .tail _ (.head _); rfl; assumption
        apply oas; rfl; rfl
        apply oas; rfl; rfl
        apply OL.nsr
        apply omv; rfl; rfl
        apply obn; rfl; rfl; rfl; apply Bin.eql
        apply omv; rfl; rfl
        apply omv; rfl; rfl
        apply oop; rfl; apply Pev.len_slice; rfl; exact yes; rfl
        apply obn; rfl; rfl; rfl; apply Bin.sub_in; omega
        apply obn; rfl; rfl; rfl; apply Bin.lss
        apply obn; rfl; rfl; rfl; apply Bin.bool_neq; rfl
        apply OL.nx
        refine W.cond rfl (fun hb => ?_) (fun hb => ?_)
        · apply W.sr
          apply oas; rfl; rfl
          apply OL.nx
          refine W.rt ?_
          ((with_reducible apply At.fin1); rfl; rfl; intro w' hw')
          refine ⟨?_, by (exact hw'.fr)⟩
          rw [treeE_bad (by omega)]
          rintro ⟨_, _, h1⟩
          by_cases hjl2 : j + 1 < e.length
          · have := h1 j hjl2
            rw [this] at hb
            simp at hb
            omega
          · have : j = e.length - 1 := by omega
            subst this
            rw [hlast] at hb
            simp at hb
            omega
        · apply W.skip
          with_reducible apply At.in_normal
          with_reducible apply At.next
          apply W.reg
          apply obn; rfl; rfl; rfl; apply Bin.add_in; omega
          apply omv; rfl; rfl
          apply OL.nil
          refine At.again (j + 1) ⟨by omega, fun m hm hml => ?_⟩ (by omega) (by exact Sub.au) (fun w' hw' => hw')
          by_cases em : m = j
          · subst em
            simp at hb
            omega
          · exact hone m (by omega) hml
      · obtain rfl : j = es.length := by omega
        have hdr : (ints (dl e es.length 0))[0 + ((es.length : Int) - 1).toNat * 1]? = some (.int .i64 (high (grow e (e.length - 1)) : Int)) := by
          have h1 := ints_get (dl_low (e := e) (i := es.length) (m := 0) (k := e.length - 1) (by omega) (by omega))
          rw [show 0 + ((es.length : Int) - 1).toNat * 1 = e.length - 1 by omega]
          exact h1
        have hok := treeE_ok (e := e) (by omega) (by omega) hdown (fun i hi => hone i (by omega) hi)
        refine W.xt ?_
        with_reducible apply At.next
        apply W.seq
        apply W.sr
        apply omv; rfl; rfl
        apply omv; rfl; rfl
        apply oop; rfl; apply Pev.len_slice; rfl; exact yes; rfl
        apply obn; rfl; rfl; rfl; apply Bin.sub_in; omega
        apply oop; rfl; apply Pev.idxB; rfl; exact yes; rfl; exact yes; rfl; intro hcond; omega; rfl
        apply oop; rfl; apply Pev.load_blk; rfl; exact yes; exact .head _; rfl; assumption
        apply obn; rfl; rfl; rfl; apply Bin.gtr
        apply OL.nx
        refine W.cond rfl (fun hb => ?_) (fun hb => ?_)
        · apply W.sr
          apply oas; rfl; rfl
          apply OL.nx
          refine W.rt ?_
          ((with_reducible apply At.fin1); rfl; rfl; intro w' hw')
          exact ⟨by rw [hok, if_pos]; simp at hb; omega, by (exact hw'.fr)⟩
        · apply W.sk
          apply W.sr
          apply oas; rfl; rfl
          apply OL.nx
          apply W.ret
          ((with_reducible apply At.fin1); rfl; rfl; intro w' hw')
          exact ⟨by rw [hok, if_neg]; simp at hb; omega, by (exact hw'.fr)⟩
end Go.Proofs.YtlboppiogeaicaaDoor.co

/- The walks of slices.Index and Contains at []int, of core's Body and Check. Conditions: none. -/
namespace Go.Co
open Go.Eng Go.RowKit
set_option linter.unusedVariables false
set_option linter.unusedSimpArgs false
/-- the place of a number; -1: none -/
def idxN (v : Int) : List Int → Nat → Int
  | [], _ => -1
  | s :: l, i => if v = s then i else idxN v l (i + 1)
theorem idxN_get {v : Int} {l : List Int} {i k : Nat} {s : Int} (h : l[i]? = some s) : idxN v (l.drop i) k = if v = s then (k : Int) else idxN v (l.drop (i + 1)) (k + 1) := by
  obtain ⟨hi, rfl⟩ := List.getElem?_eq_some_iff.1 h
  rw [List.drop_eq_getElem_cons hi, idxN]
theorem idxN_end {v : Int} {l : List Int} {i k : Nat} (h : l.length ≤ i) : idxN v (l.drop i) k = -1 := by
  rw [List.drop_eq_nil_of_le h]; rfl
theorem idxN_mem (v : Int) : ∀ (l : List Int) (k : Nat), 0 ≤ idxN v l k ↔ v ∈ l
  | [], k => by simp [idxN]
  | s :: l, k => by
    rw [idxN, List.mem_cons]
    by_cases h : v = s
    · simp [h]
    · rw [if_neg h, idxN_mem v l (k + 1)]
      simp [h]
theorem kids_nodup {e : List Ex} (ht : IsTree e) {i : Nat} {x : Ex} (hx : e[i]? = some x) : x.kids.Nodup := by
  refine List.pairwise_iff_getElem.2 fun a b ha hb hab he => ?_
  have h1 := ht.down i x hx x.kids[a] (List.getElem_mem ha)
  have e1 : x.kids[a]? = some ((x.kids[a].toNat : Nat) : Int) := by rw [List.getElem?_eq_getElem ha]; congr 1; omega
  have e2 : x.kids[b]? = some ((x.kids[a].toNat : Nat) : Int) := by rw [List.getElem?_eq_getElem hb, ← he]; congr 1; omega
  have := ht.uniq _ i a i b ⟨x, hx, e1⟩ ⟨x, hx, e2⟩
  omega
theorem kids_len {e : List Ex} (ht : IsTree e) {i : Nat} {x : Ex} (hx : e[i]? = some x) : x.kids.length ≤ e.length := by
  have h1 := nodup_le (kids_nodup ht hx) (m := (List.range e.length).map fun (k : Nat) => (k : Int)) fun k hk => by
    have h1 := ht.down i x hx k hk
    have := (List.getElem?_eq_some_iff.1 hx).1
    refine List.mem_map.2 ⟨k.toNat, List.mem_range.2 (by omega), by omega⟩
  simpa using h1
theorem nodeE_zero {e : List Ex} {x : Ex} (h : nodeE e x = 0) : shapeB x = true ∧ rangesE x = 0 := by
  unfold nodeE at h
  by_cases h1 : shapeB x = false
  · rw [if_pos h1] at h; omega
  · rw [if_neg h1] at h
    refine ⟨by simpa using h1, ?_⟩
    by_cases h2 : rangesE x = 0
    · exact h2
    · rw [if_pos h2] at h; exact absurd h h2
theorem foldl_max_le {l : List Al} : ∀ {m : Nat} , m ≤ l.foldl (fun m a => max m a.binds.length) m ∧ ∀ a ∈ l, a.binds.length ≤ l.foldl (fun m a => max m a.binds.length) m := by
  induction l with
  | nil => intro m; simp
  | cons b r ih =>
    intro m
    rw [List.foldl_cons]
    have h1 := ih (m := max m b.binds.length)
    refine ⟨by omega, fun a ha => ?_⟩
    rcases List.mem_cons.1 ha with rfl | ha
    · omega
    · exact h1.2 a ha
theorem lim_of {x : Ex} (h1 : shapeB x = true) (h2 : rangesE x = 0) (h3 : x.kids.length ≤ 4096) : Lim x := by
  have hw : wide x ≤ 16 := by
    unfold rangesE at h2
    by_cases h3 : rangesOk x = false
    · rw [if_pos h3] at h2; omega
    · rw [if_neg h3] at h2
      by_cases h4 : (if x.op = 2 then 6 else 16) < wide x
      · rw [if_pos (Or.inl h4)] at h2; omega
      · split at h4 <;> omega
  have hf := foldl_max_le (l := x.alts) (m := x.binds.length)
  refine ⟨Nat.le_trans hf.1 hw, ?_, fun a ha => Nat.le_trans (hf.2 a ha) hw⟩
  unfold shapeB at h1
  split at h1
  · simp only [Bool.and_eq_true, altsB, decide_eq_true_eq] at h1
    omega
  · split at h1
    · cases h1
    · simp only [Bool.and_eq_true, decide_eq_true_eq] at h1
      omega
structure TreeOk (e : List Ex) : Prop where
  len : e.length ≤ 4096
  pos : 0 < e.length
  tree : IsTree e
  high : high (grow e (e.length - 1)) ≤ 400
theorem treeE_ok0 {e : List Ex} (h : treeE e = 0) : TreeOk e := by
  unfold treeE at h
  by_cases h1 : 4096 < e.length
  · rw [if_pos h1] at h; omega
  · rw [if_neg h1] at h
    split at h
    · rename_i h2
      refine ⟨by omega, h2.1, isTree_of h2.2.1 h2.2.2, ?_⟩
      split at h
      · omega
      · omega
    · omega
/-- the check of a node -/
noncomputable def oneE (e : List Ex) (flat : Bool) (x : Ex) : Int := if flatBad flat x.op then 3 else nodeE e x
theorem bodyE_tree {e : List Ex} {ps : List Int} {flat : Bool} (h : ¬ treeE e = 0) : bodyE e ps flat = treeE e := by unfold bodyE; rw [if_pos h]
theorem bodyE_one {e : List Ex} {ps : List Int} {flat : Bool} (h : treeE e = 0) (h2 : ¬ firstE (oneE e flat) e = 0) : bodyE e ps flat = firstE (oneE e flat) e := by
  unfold bodyE; rw [if_neg (by simpa using h)]; exact if_pos h2
theorem bodyE_twice {e : List Ex} {ps : List Int} {flat : Bool} (h : treeE e = 0) (h2 : firstE (oneE e flat) e = 0) (h3 : ¬ (ps ++ e.flatMap bindersX).Nodup) : bodyE e ps flat = 7 := by
  unfold bodyE; rw [if_neg (by simpa using h)]
  have h4 : ¬ ¬ firstE (fun x => if flatBad flat x.op then 3 else nodeE e x) e = 0 := fun h => h h2
  rw [if_neg h4, if_pos h3]
theorem bodyE_free {e : List Ex} {ps : List Int} {flat : Bool} (h : treeE e = 0) (h2 : firstE (oneE e flat) e = 0) (h3 : (ps ++ e.flatMap bindersX).Nodup) {n : Int} (hn : n ∈ fv (grow e (e.length - 1)) []) (hp : ¬ n ∈ ps) : bodyE e ps flat = 6 := by
  unfold bodyE; rw [if_neg (by simpa using h)]
  have h4 : ¬ ¬ firstE (fun x => if flatBad flat x.op then 3 else nodeE e x) e = 0 := fun h => h h2
  rw [if_neg h4, if_neg (fun h => h h3), if_pos ⟨n, hn, hp⟩]
theorem bodyE_ok {e : List Ex} {ps : List Int} {flat : Bool} (h : treeE e = 0) (h2 : firstE (oneE e flat) e = 0) (h3 : (ps ++ e.flatMap bindersX).Nodup) (h5 : ∀ n ∈ fv (grow e (e.length - 1)) [], n ∈ ps) : bodyE e ps flat = 0 := by
  unfold bodyE; rw [if_neg (by simpa using h)]
  have h4 : ¬ ¬ firstE (fun x => if flatBad flat x.op then 3 else nodeE e x) e = 0 := fun h => h h2
  rw [if_neg h4, if_neg (fun h => h h3), if_neg (fun ⟨n, hn, hp⟩ => hp (h5 n hn))]
theorem fv_names {e : List Ex} (ht : TreeOk e) : ∀ n ∈ fv (grow e (e.length - 1)) [], n ∈ e.map Ex.n := fun n hn => by
  have := ht.pos
  obtain ⟨j, x, sc', h1, h2, h3, _⟩ := (mem_fv ht.tree.down (e.length - 1) (by omega) []).1 hn
  exact List.mem_map.2 ⟨x, List.mem_of_getElem? h1, h3⟩
end Go.Co
namespace Go.Proofs.YtlboppiogeaicaaDoor.co
open Go.RowKit Go.Eng Go.Co
set_option linter.unusedVariables false
set_option linter.unusedSimpArgs false
set_option maxRecDepth 100000
theorem IIndex_calls (q : Option Addr) (cap : Nat) (l : List Int) (s : Int) (w : World) (hlen : l.length ≤ 9223372036854775807) (h : IntsO w (low w) l q) :
    Calls Tryd.prog 103 #[.slice q l.length cap, .int .i64 s] w fun e w' => e = .returned (.int .i64 (idxN s l 0)) ∧ Ext w w' := by
  refine enter Tryd.func103 rfl Tryd.ntmps103 rfl (Cls.start w) ?_
  (simp only [argEnv, Nat.zero_add, Nat.reduceAdd])
  apply W.sr
  apply oas; rfl; rfl
  apply OL.nx
  apply W.seq
  apply W.sr
  apply omv; rfl; rfl
  apply oop; rfl; apply Pev.len_slice; rfl; exact yes; rfl
  apply omv; rfl; rfl
  apply OL.nx
  apply W.block
  refine W.loop (G := Nat) (fun i => i ≤ l.length ∧ idxN s (l.drop i) i = idxN s l 0) (fun i => l.length - i)
    (fun i => [(8, true, .int .i64 (i : Int)), (7, true, .int .i64 (l.length : Int)), (0, true, .slice q l.length cap), (1, true, .int .i64 s)])
    (fun i => Cls [] [w]) 0 ⟨by omega, rfl⟩ (by exact Sub.au) (fun w' hw' => hw') ?_
  rintro i ⟨hi, hrest⟩
  apply W.sr
  apply obn; rfl; rfl; rfl; apply Bin.lss
  apply OL.nx
  apply W.seq
  (refine W.cnd (fun hlt => ?_) (fun hlt => ?_)) <;> (try (exfalso; first | omega | exact hlt trivial | contradiction))
  · obtain ⟨a, u, rfl, hab, hu, hcell⟩ := h.get (show i < l.length by omega)
    have hab : a.block < w.heap.size := hab
    rw [idxN_get hu] at hrest
    apply W.sk
    apply W.sb
    apply W.sr
    apply omv; rfl; rfl
    apply oas; rfl; rfl
    apply OL.nsr
    apply omv; rfl; rfl
    apply omv; rfl; rfl
    apply omv; rfl; rfl
    apply oop; rfl; apply Pev.idx; rfl; exact yes; rfl; exact yes; rfl; rfl; intro hcond; omega
    apply oop; rfl; apply Pev.load_kept; rfl; exact yes; exact .head _; rfl; intro hcond; assumption; intro hcond; (rw [add_block]; assumption); intro hcond; exact NotOwned.au
    apply obn; rfl; rfl; rfl; apply Bin.eql
    apply OL.nx
    (refine W.cnd (fun heq => ?_) (fun heq => ?_)) <;> (try (exfalso; first | omega | exact heq trivial | contradiction))
    · apply W.sr
      apply omv; rfl; rfl
      apply oas; rfl; rfl
      apply OL.nx
      refine W.rt ?_
      ((with_reducible apply At.fin1); rfl; rfl; intro w' hw')
      rw [if_pos (by simpa using heq)] at hrest
      exact ⟨by rw [hrest], by (exact hw'.fr)⟩
    · apply W.skip
      with_reducible apply At.in_normal
      with_reducible apply At.next
      apply W.reg
      apply obn; rfl; rfl; rfl; apply Bin.add_in; omega
      apply omv; rfl; rfl
      apply OL.nil
      rw [if_neg (by simpa using heq)] at hrest
      exact At.again (i + 1) ⟨by omega, hrest⟩ (by omega) (by exact Sub.au) (fun w' hw' => hw')
  · refine W.xt ?_
    with_reducible apply At.next
    apply W.sr
    apply oas; rfl; rfl
    apply OL.nx
    apply W.ret
    ((with_reducible apply At.fin1); rfl; rfl; intro w' hw')
    rw [idxN_end (by omega)] at hrest
    exact ⟨by rw [hrest], by (exact hw'.fr)⟩
theorem IContains_calls (q : Option Addr) (cap : Nat) (l : List Int) (s : Int) (w : World) (hlen : l.length ≤ 9223372036854775807) (h : IntsO w (low w) l q) :
    Calls Tryd.prog 70 #[.slice q l.length cap, .int .i64 s] w fun e w' => e = .returned (.bool (decide (s ∈ l))) ∧ Ext w w' := by
  refine enter Tryd.func70 rfl Tryd.ntmps70 rfl (Cls.start w) ?_
  (simp only [argEnv, Nat.zero_add, Nat.reduceAdd])
  apply W.sr
  apply oas; rfl; rfl
  apply OL.nsr
  apply omv; rfl; rfl
  apply omv; rfl; rfl
  (((first | (with_reducible apply OL.op) | (with_reducible apply QL.op)); (exact Guard.au); rfl; rfl); (exact Pev.call rfl (by exact Args.au) (fun _ w2 hw2 => (IIndex_calls q cap l s w2 hlen (h.at hw2 (by exact mau) (fun k hk => by exact NotOwned.au))).mono (fun e w3 h => ⟨h.1, hw2.ext h.2⟩))))
  apply obn; rfl; rfl; rfl; apply Bin.geq
  apply oas; rfl; rfl
  apply OL.nx
  apply W.ret
  ((with_reducible apply At.fin1); rfl; rfl; intro w' hw')
  exact ⟨by simp only [idxN_mem], by (exact hw'.fr)⟩
theorem Body_calls (es : List (Ex × ExY)) (q qp : Option Addr) (cap cp : Nat) (ps : List Int) (flat : Bool) (w : World) (he : Arr exR w (low w) es q) (hlen : es.length ≤ 9223372036854775807) (hp : IntsO w (low w) ps qp) (hpl : ps.length ≤ 4096)
    (hg : 1 < w.heap.size) (hs : arityAt w) :
    Calls Tryd.prog 37 [.slice q es.length cap, .slice qp ps.length cp, .bool flat].toArray w fun e w' => e = .returned (.int .i64 (bodyE (es.map Prod.fst) ps flat)) ∧ Ext w w' := by
  obtain ⟨e, hee⟩ : ∃ e, es.map Prod.fst = e := ⟨_, rfl⟩
  have hel : e.length = es.length := by rw [← hee, List.length_map]
  rw [hee]
  refine enter Tryd.func37 rfl Tryd.ntmps37 rfl (Cls.start w) ?_
  (simp only [argEnv, Nat.zero_add, Nat.reduceAdd])
  apply W.sr
  apply OL.box; rfl; rfl; exact CellsL.one rfl; (intro bk hbk; simp only [AllLe, and_true] at hbk)
  apply oas; rfl; rfl
  apply OL.nx
  apply W.seq
  apply W.sr
  apply old; rfl; rfl; exact .head _; rfl; rfl
  revert bk
  intro bx hbx
  (((first | (with_reducible apply OL.op) | (with_reducible apply QL.op)); (exact Guard.au); rfl; rfl); (exact Pev.call rfl (by exact Args.au) (fun _ w2 hw2 => (treeError_calls es q cap w2 (he.at hw2 (by exact mau) (fun k hk => by exact NotOwned.au)) hlen).mono (fun e w3 h => ⟨h.1, hw2.ext h.2⟩))))
  rw [hee]
  apply oas; rfl; rfl
  apply OL.nsr
  apply omv; rfl; rfl
  apply obn; rfl; rfl; rfl; apply Bin.neq
  apply OL.nx
  (refine W.cnd (fun hte => ?_) (fun hte => ?_)) <;> (try (exfalso; first | omega | exact hte trivial | contradiction))
  · apply W.sr
    apply omv; rfl; rfl
    apply oas; rfl; rfl
    apply OL.nx
    refine W.rt ?_
    ((with_reducible apply At.fin1); rfl; rfl; intro w' hw')
    exact ⟨by rw [bodyE_tree hte], by (exact hw'.fr)⟩
  have hte0 : treeE e = 0 := by simpa using hte
  have htok := treeE_ok0 hte0
  have hl4 := htok.len
  have hpos := htok.pos
  have hl4' : es.length ≤ 4096 := by omega
  have hkd : ∀ p ∈ es, ∀ k ∈ p.1.kids, 0 ≤ k ∧ k < (es.length : Int) := fun p hp k hk => by
    obtain ⟨i, hi⟩ := List.getElem?_of_mem hp
    have hx : e[i]? = some p.1 := by rw [← hee, List.getElem?_map, hi]; rfl
    have := htok.tree.down i p.1 hx k hk
    have := (List.getElem?_eq_some_iff.1 hx).1
    omega
  apply W.sk
  apply W.seq
  apply W.sr
  apply old; rfl; rfl; exact .head _; rfl; rfl
  apply oop; rfl; apply Pev.len_slice; rfl; exact yes; rfl
  apply omv; rfl; rfl
  apply OL.nx
  apply W.block
  refine W.loop (G := Nat) (fun i => i ≤ es.length ∧ firstE (oneE e flat) (e.drop i) = firstE (oneE e flat) e) (fun i => es.length - i)
    (fun i => [(1, true, .slice qp ps.length cp), (2, true, .bool flat), (3, true, .pointer (some ⟨bx, 0, none⟩)), (18, true, .slice q es.length cap), (19, true, .int .i64 (es.length : Int)), (20, true, .int .i64 (i : Int))])
    (fun i => Cls [blk bx 22 [.slice q es.length cap]] [w]) 0 ⟨by omega, rfl⟩ (by exact Sub.au) (fun w' hw' => hw'.thin (by exact Thin.au)) ?_
  rintro i ⟨hi, hrest⟩
  apply W.sr
  apply obn; rfl; rfl; rfl; apply Bin.lss
  apply OL.nx
  apply W.seq
  (refine W.cnd (fun hlt => ?_) (fun hlt => ?_)) <;> (try (exfalso; first | omega | exact hlt trivial | contradiction))
  · have hil : i < es.length := by omega
    obtain ⟨a, p, rfl, hab, hpi, hcell, hok⟩ := he.get hil
    have hab : a.block < w.heap.size := hab
    have hcell : CellsAt w (a.add (i * 5)) [.int .i64 p.1.op, .int .i64 p.1.n, .slice p.2.b.1 p.1.binds.length p.2.b.2, .slice p.2.k.1 p.1.kids.length p.2.k.2, .slice p.2.a.1 p.1.alts.length p.2.a.2] := hcell
    have hx : e[i]? = some p.1 := by rw [← hee, List.getElem?_map, hpi]; rfl
    rw [firstE_drop hx] at hrest
    apply W.sk
    apply W.sb
    apply W.sr
    apply oop; rfl; apply Pev.idx; rfl; exact yes; rfl; exact yes; rfl; rfl; intro hcond; omega
    apply oop; rfl; apply Pev.load_keptA; rfl; exact yes; exact .head _; rfl; intro hcond; assumption; rfl; intro hcond; (rw [add_block]; assumption); intro hcond; exact NotOwned.au
    apply OL.alloc; rfl; rfl; exact CellsL.agg; (intro bk hbk; simp only [AllLe, and_true] at hbk)
    apply OL.storeB; rfl; rfl; exact CellsL.agg; rfl; rfl; rfl; exact Swap.au; exact Put.au
    apply OL.nx
    apply W.seq
    apply W.sr
    apply omv; rfl; rfl
    apply omv; rfl; rfl
    apply oy; rfl; rfl; rfl; apply Pev.fld; rfl; exact yes; rfl
    apply oy; rfl; rfl; rfl; apply Pev.load_blk; rfl; exact fun h => h; exact .head _; rfl; rfl
    (((first | (with_reducible apply OL.op) | (with_reducible apply QL.op)); (exact Guard.au); rfl; rfl); (exact Pev.call rfl (by exact Args.au) (fun _ w2 hw2 => (coreOnly_calls p.1.op w2).mono (fun e w3 h => ⟨h.1, hw2.ext h.2⟩))))
    apply oop; rfl; apply Pev.pick_and; rfl; exact yes; rfl; exact fun h => h
    apply omv; rfl; rfl
    apply ono; rfl; rfl; rfl; apply Pev.move; rfl; exact yes
    apply ono; rfl; rfl; rfl; apply Pev.not; rfl; exact fun h => h
    apply ono; rfl; rfl; rfl; apply Pev.move; rfl; exact fun h => h
    apply OL.op; exact Guard.cyes rfl rfl; rfl; rfl; apply Pev.fld; rfl; exact yes; rfl
    apply OL.op; exact Guard.cyes rfl rfl; rfl; rfl; apply Pev.load_blk; rfl; exact fun h => h; exact .head _; rfl; rfl
    (((first | (with_reducible apply OL.op) | (with_reducible apply QL.op)); (exact Guard.au); rfl; rfl); (exact Pev.call rfl (by exact Args.au) (fun _ w2 hw2 => (flatOnly_calls p.1.op w2).mono (fun e w3 h => ⟨h.1, hw2.ext h.2⟩))))
    apply ono; rfl; rfl; rfl; apply Pev.pick_and; rfl; exact fun h => h; rfl; exact fun h => h
    apply oop; rfl; apply Pev.pick_or; rfl; exact yes; rfl; exact fun h => h
    apply OL.nx
    have hbadE : (flat && (decide (p.1.op = 2) || decide (p.1.op = 5) || decide (p.1.op = 12) || decide (p.1.op = 13)) || !flat && (decide (p.1.op = 14) || decide (p.1.op = 15) || decide (p.1.op = 16))) = flatBad flat p.1.op := rfl
    (refine W.cnd (fun hfb => ?_) (fun hfb => ?_)) <;> (try (exfalso; first | omega | exact hfb trivial | contradiction))
    · have hone : oneE e flat p.1 = 3 := by
        unfold oneE; rw [if_pos (by rw [← hbadE]; simpa using hfb)]
      rw [hone] at hrest
      apply W.sr
      apply oas; rfl; rfl
      apply OL.nx
      refine W.rt ?_
      ((with_reducible apply At.fin1); rfl; rfl; intro w' hw')
      exact ⟨by rw [bodyE_one hte0 (by rw [← hrest]; simp), ← hrest]; simp, by (exact hw'.fr)⟩
    have hone : oneE e flat p.1 = nodeE e p.1 := by
      unfold oneE; rw [if_neg (by rw [← hbadE]; simp only [Bool.not_eq_true, Bool.or_eq_false_iff, Bool.and_eq_false_iff, decide_eq_false_iff_not, Bool.not_eq_false']; exact hfb)]
    rw [hone] at hrest
    apply W.sk
    apply W.sr
    apply oop; rfl; apply Pev.load_blkA; rfl; exact yes; exact .head _; rfl; exact Take.au
    apply oop; rfl; apply Pev.makeFunc; exact Args.au; exact Args.au
    (((first | (with_reducible apply OL.op) | (with_reducible apply QL.op)); (exact Guard.au); rfl; rfl); (exact Pev.call rfl (by exact Args.au) (fun _ w2 hw2 => (nodeError_calls es (some a) cap bx p.1 p.2 w2 (hok.at hw2 (by exact mau) (fun k hk => by exact NotOwned.au)) (Nat.lt_of_lt_of_le hg (hw2.kp w (by exact mau)).size) (hs.at hg hw2 (by exact mau) (fun k hk => by exact NotOwned.au)) (he.at hw2 (by exact mau) (fun k hk => by exact NotOwned.au)) hl4' ((blk_cell (hw2.item (i := blk bx 22 [.slice (some a) es.length cap]) (by exact mau))).trans rfl) (blk_lt (hw2.item (i := blk bx 22 [.slice (some a) es.length cap]) (by exact mau))) (hkd p (List.mem_of_getElem? hpi))).mono (fun e w3 h => ⟨h.1, hw2.ext h.2⟩))))
    rw [hee]
    apply oas; rfl; rfl
    apply OL.nsr
    apply omv; rfl; rfl
    apply obn; rfl; rfl; rfl; apply Bin.neq
    apply OL.nx
    (refine W.cnd (fun hne => ?_) (fun hne => ?_)) <;> (try (exfalso; first | omega | exact hne trivial | contradiction))
    · rw [if_neg (by simpa using hne)] at hrest
      apply W.sr
      apply omv; rfl; rfl
      apply oas; rfl; rfl
      apply OL.nx
      refine W.rt ?_
      ((with_reducible apply At.fin1); rfl; rfl; intro w' hw')
      exact ⟨by rw [bodyE_one hte0 (by rw [← hrest]; simpa using hne), ← hrest], by (exact hw'.fr)⟩
    rw [if_pos (by simpa using hne)] at hrest
    apply W.skip
    with_reducible apply At.in_normal
    with_reducible apply At.next
    apply W.reg
    apply obn; rfl; rfl; rfl; apply Bin.add_in; omega
    apply omv; rfl; rfl
    apply OL.nil
    exact At.again (i + 1) ⟨by omega, hrest⟩ (by omega) (by exact Sub.au) (fun w' hw' => hw'.thin (by exact Thin.au))
  · obtain rfl : i = es.length := by omega
    rw [← hel, List.drop_length] at hrest
    have hall : firstE (oneE e flat) e = 0 := hrest.symm
    refine W.xt ?_
    with_reducible apply At.next
    apply W.seq
    apply W.sr
    apply old; rfl; rfl; exact .head _; rfl; rfl
    apply omv; rfl; rfl
    have hzero : ∀ p ∈ es, nodeE e p.1 = 0 ∧ p.1.kids.length ≤ 4096 := fun p hp => by
      obtain ⟨i, hi⟩ := List.getElem?_of_mem hp
      have hx : e[i]? = some p.1 := by rw [← hee, List.getElem?_map, hi]; rfl
      have h1 := firstE_zero.1 hall p.1 (List.mem_of_getElem? hx)
      have h2 := kids_len htok.tree hx
      refine ⟨?_, by omega⟩
      unfold oneE at h1
      split at h1
      · omega
      · exact h1
    have hlim : ∀ p ∈ es, Lim p.1 := fun p hp => by
      obtain ⟨h1, h2⟩ := hzero p hp
      obtain ⟨h3, h4⟩ := nodeE_zero h1
      exact lim_of h3 h4 h2
    refine OL.callE (α := Bool) (fun z => .bool z) (fun z => z = true ↔ ¬ (ps ++ e.flatMap bindersX).Nodup) (fun _ => Cls [blk bx 22 [.slice q es.length cap]] [w]) rfl rfl (by exact Args.au) (fun w2 hw2 => (twice_calls es q qp cap cp ps w2 (he.at hw2 (by exact mau) (fun k hk => by exact NotOwned.au)) hl4' (hp.at hw2 (by exact mau) (fun k hk => by exact NotOwned.au)) hpl hlim).mono (fun e w3 ⟨bb, h1, h2, h3⟩ => ⟨bb, h1, by rw [hee] at h2; exact h2, hw2.ext h3⟩)) ?_
    rintro bb hbb
    apply OL.nx
    (refine W.cnd (fun htw => ?_) (fun htw => ?_)) <;> (try (exfalso; first | omega | exact htw trivial | contradiction))
    · apply W.sr
      apply oas; rfl; rfl
      apply OL.nx
      refine W.rt ?_
      ((with_reducible apply At.fin1); rfl; rfl; intro w' hw')
      exact ⟨by rw [bodyE_twice hte0 hall (hbb.1 htw)], by (exact hw'.fr)⟩
    have hnd : (ps ++ e.flatMap bindersX).Nodup := by
      by_cases h : (ps ++ e.flatMap bindersX).Nodup
      · exact h
      · exact absurd (hbb.2 h) (by simpa using htw)
    apply W.sk
    apply W.seq
    apply W.sr
    apply old; rfl; rfl; exact .head _; rfl; rfl
    refine OL.callE (α := Nat × World) (fun z => .pointer (some ⟨z.1, 0, none⟩)) (fun z => TrO z.2 (low z.2) (grow e (e.length - 1)) z.1 ∧ w.heap.size ≤ z.2.heap.size) (fun z => Cls [] [z.2, w]) rfl rfl (by exact Args.au) (fun w2 hw2 => (Grow_calls es q cap w2 (he.at hw2 (by exact mau) (fun k hk => by exact NotOwned.au)) hl4' (by omega) (by rw [hee]; exact htok.tree.down) hlim (fun p hp => (hzero p hp).2)).mono (fun e1 w3 ⟨b, h1, h2, h3⟩ => ⟨(b, w3), h1, ⟨by rw [hee, ← hel] at h3; exact h3, Nat.le_trans (hw2.kp w (by exact mau)).size h2.size⟩, ((hw2.ext h2).thin (by exact Thin.au)).note⟩)) ?_
    rintro ⟨bt, w3⟩ ⟨htr, hsz3⟩
    simp only at htr hsz3 ⊢
    refine OL.callE (α := List Int × Option Addr × Nat × World) (fun z => .slice z.2.1 z.1.length z.2.2.1) (fun z => z.1.length ≤ 1000000 ∧ (∀ n, n ∈ z.1 ↔ n ∈ fv (grow e (e.length - 1)) []) ∧ IntsO z.2.2.2 (low z.2.2.2) z.1 z.2.1 ∧ w.heap.size ≤ z.2.2.2.heap.size) (fun z => Cls [] [z.2.2.2, w]) rfl rfl (by exact Args.au) (fun w2 hw2 => (FreeOf_calls (grow e (e.length - 1)) bt (e.map Ex.n) w2 (htr.at hw2 (by exact mau) (fun k hk => NotOwned.nil)) (by have := htok.high; omega) (fv_names htok) (by rw [List.length_map]; omega)).mono (fun e1 w4 ⟨l, qf, c, h1, h2, h3, h4, h5, h6, h7, h8⟩ => ⟨(l, qf, c, w4), h1, ⟨h2, h6, h7, Nat.le_trans (hw2.kp w (by exact mau)).size h8.size⟩, (((hw2.ext h8).forget (by simp)).note)⟩)) ?_
    rintro ⟨l, qf, c, w4⟩ ⟨hll, hlm, hI, hsz4⟩
    simp only at hll hlm hI hsz4 ⊢
    apply oop; rfl; apply Pev.len_slice; rfl; exact yes; rfl
    apply omv; rfl; rfl
    apply OL.nx
    apply W.block
    refine W.loop (G := Nat) (fun i => i ≤ l.length ∧ ∀ n ∈ l.take i, n ∈ ps) (fun i => l.length - i)
      (fun i => [(1, true, .slice qp ps.length cp), (51, true, .slice qf l.length c), (52, true, .int .i64 (l.length : Int)), (53, true, .int .i64 (i : Int))])
      (fun i => Cls [] [w4, w]) 0 ⟨by omega, by simp⟩ (by exact Sub.au) (fun w' hw' => hw') ?_
    rintro i ⟨hi, hall2⟩
    apply W.sr
    apply obn; rfl; rfl; rfl; apply Bin.lss
    apply OL.nx
    apply W.seq
    (refine W.cnd (fun hlt2 => ?_) (fun hlt2 => ?_)) <;> (try (exfalso; first | omega | exact hlt2 trivial | contradiction))
    · have hil : i < l.length := by omega
      obtain ⟨av, v, hqv, habv, hv, hcv⟩ := hI.get hil
      have habv : av.block < w4.heap.size := habv
      rw [hqv]
      apply W.sk
      apply W.sb
      apply W.sr
      apply oop; rfl; apply Pev.idx; rfl; exact yes; rfl; exact yes; rfl; rfl; intro hcond; omega
      apply oop; rfl; apply Pev.load_kept; rfl; exact yes; exact .head _; rfl; intro hcond; assumption; intro hcond; (rw [add_block]; assumption); intro hcond; exact NotOwned.au
      apply oas; rfl; rfl
      apply OL.nsr
      apply omv; rfl; rfl
      apply omv; rfl; rfl
      (((first | (with_reducible apply OL.op) | (with_reducible apply QL.op)); (exact Guard.au); rfl; rfl); (exact Pev.call rfl (by exact Args.au) (fun _ w2 hw2 => (IContains_calls qp cp ps v w2 (by omega) (hp.at hw2 (by exact mau) (fun k hk => NotOwned.nil))).mono (fun e w3 h => ⟨h.1, hw2.ext h.2⟩))))
      apply oop; rfl; apply Pev.not; rfl; exact yes
      apply OL.nx
      (refine W.cnd (fun hin => ?_) (fun hin => ?_)) <;> (try (exfalso; first | omega | exact hin trivial | contradiction))
      · apply W.sr
        apply oas; rfl; rfl
        apply OL.nx
        refine W.rt ?_
        ((with_reducible apply At.fin1); rfl; rfl; intro w' hw')
        exact ⟨by rw [bodyE_free hte0 hall hnd ((hlm v).1 (List.mem_of_getElem? hv)) (by simpa using hin)], by (exact hw'.fr)⟩
      have hin' : v ∈ ps := by simpa using hin
      apply W.skip
      with_reducible apply At.in_normal
      with_reducible apply At.next
      apply W.reg
      apply obn; rfl; rfl; rfl; apply Bin.add_in; omega
      apply omv; rfl; rfl
      apply OL.nil
      refine At.again (i + 1) ⟨by omega, fun n hn => ?_⟩ (by omega) (by exact Sub.au) (fun w' hw' => hw')
      rw [List.take_add_one, hv] at hn
      simp at hn
      rcases hn with hn | rfl
      · exact hall2 n hn
      · exact hin'
    · obtain rfl : i = l.length := by omega
      rw [List.take_length] at hall2
      refine W.xt ?_
      with_reducible apply At.next
      apply W.sr
      apply oas; rfl; rfl
      apply OL.nx
      apply W.ret
      ((with_reducible apply At.fin1); rfl; rfl; intro w' hw')
      exact ⟨by rw [bodyE_ok hte0 hall hnd fun n hn => hall2 n ((hlm n).2 hn)], by (exact hw'.fr)⟩
theorem Check_calls (es : List (Ex × ExY)) (q : Option Addr) (cap : Nat) (w : World) (he : Arr exR w (low w) es q) (hlen : es.length ≤ 9223372036854775807)
    (hg : 1 < w.heap.size) (hs : arityAt w) :
    Calls Tryd.prog 11 [.slice q es.length cap].toArray w fun e w' => e = .returned (.int .i64 (bodyE (es.map Prod.fst) [] false)) ∧ Ext w w' := by
  refine enter Tryd.func11 rfl Tryd.ntmps11 rfl (Cls.start w) ?_
  (simp only [argEnv, Nat.zero_add, Nat.reduceAdd])
  apply W.sr
  apply oas; rfl; rfl
  apply OL.nsr
  apply omv; rfl; rfl
  (((first | (with_reducible apply OL.op) | (with_reducible apply QL.op)); (exact Guard.au); rfl; rfl); (exact Pev.call rfl (by exact Args.au) (fun _ w2 hw2 => (Body_calls es q none cap 0 [] false w2 (he.at hw2 (by exact mau) (fun k hk => by exact NotOwned.au)) hlen IntsO.nil (by simp) (Nat.lt_of_lt_of_le hg (hw2.kp w (by exact mau)).size) (hs.at hg hw2 (by exact mau) (fun k hk => by exact NotOwned.au))).mono (fun e w3 h => ⟨h.1, hw2.ext h.2⟩))))
  apply oas; rfl; rfl
  apply OL.nx
  apply W.ret
  ((with_reducible apply At.fin1); rfl; rfl; intro w' hw')
  exact ⟨rfl, by (exact hw'.fr)⟩
end Go.Proofs.YtlboppiogeaicaaDoor.co

/- The walk of core's Count and at. Conditions: none. -/
namespace Go.Proofs.YtlboppiogeaicaaDoor.co
open Go.RowKit Go.Eng Go.Co
set_option linter.unusedVariables false
set_option linter.unusedSimpArgs false
set_option maxRecDepth 100000
theorem at_calls (es : List (Ex × ExY)) (q : Option Addr) (cap : Nat) (n : Int) (w : World) (he : Arr exR w (low w) es q) (hlen : es.length ≤ 9223372036854775807) (hg : 1 < w.heap.size) (hs : arityAt w) :
    Calls Tryd.prog 39 [.slice q es.length cap, .int .i64 n].toArray w fun e w' => e = .returned (.int .i64 (if bodyE (es.map Prod.fst) [] false = 0 then (if 0 ≤ n ∧ n < (es.length : Int) then 0 else 12) else bodyE (es.map Prod.fst) [] false)) ∧ Ext w w' := by
  refine enter Tryd.func39 rfl Tryd.ntmps39 rfl (Cls.start w) ?_
  (simp only [argEnv, Nat.zero_add, Nat.reduceAdd])
  apply W.sr
  apply oas; rfl; rfl
  apply OL.nx
  apply W.seq
  apply W.sr
  apply omv; rfl; rfl
  (((first | (with_reducible apply OL.op) | (with_reducible apply QL.op)); (exact Guard.au); rfl; rfl); (exact Pev.call rfl (by exact Args.au) (fun _ w2 hw2 => (Check_calls es q cap w2 (he.at hw2 (by exact mau) (fun k hk => by exact NotOwned.au)) hlen (Nat.lt_of_lt_of_le hg (hw2.kp w (by exact mau)).size) (hs.at hg hw2 (by exact mau) (fun k hk => by exact NotOwned.au))).mono (fun e w3 h => ⟨h.1, hw2.ext h.2⟩))))
  apply oas; rfl; rfl
  apply OL.nsr
  apply omv; rfl; rfl
  apply obn; rfl; rfl; rfl; apply Bin.neq
  apply OL.nx
  (refine W.cnd (fun hne => ?_) (fun hne => ?_)) <;> (try (exfalso; first | omega | exact hne trivial | contradiction))
  · apply W.sr
    apply omv; rfl; rfl
    apply oas; rfl; rfl
    apply OL.nx
    refine W.rt ?_
    ((with_reducible apply At.fin1); rfl; rfl; intro w' hw')
    exact ⟨by rw [if_neg (by simpa using hne)], by (exact hw'.fr)⟩
  have h0 : bodyE (es.map Prod.fst) [] false = 0 := by simpa using hne
  rw [if_pos h0]
  apply W.sk
  apply W.seq
  apply W.sr
  apply omv; rfl; rfl
  apply obn; rfl; rfl; rfl; apply Bin.lss
  apply omv; rfl; rfl
  apply ono; rfl; rfl; rfl; apply Pev.move; rfl; exact yes
  apply ono; rfl; rfl; rfl; apply Pev.move; rfl; exact yes
  apply ono; rfl; rfl; rfl; apply Pev.len_slice; rfl; exact fun h => h; rfl
  apply ono; rfl; rfl; rfl; apply Pev.bin; rfl; exact fun h => h; rfl; exact fun h => h; intro hcond; apply Bin.geq
  apply oop; rfl; apply Pev.pick_or; rfl; exact yes; rfl; exact fun h => h
  apply OL.nx
  refine W.cond rfl (fun hb => ?_) (fun hb => ?_)
  · apply W.sr
    apply oas; rfl; rfl
    apply OL.nx
    refine W.rt ?_
    ((with_reducible apply At.fin1); rfl; rfl; intro w' hw')
    exact ⟨by rw [if_neg (by grind)], by (exact hw'.fr)⟩
  · apply W.sk
    apply W.sr
    apply oas; rfl; rfl
    apply OL.nx
    apply W.ret
    ((with_reducible apply At.fin1); rfl; rfl; intro w' hw')
    exact ⟨by rw [if_pos (by grind)], by (exact hw'.fr)⟩
theorem tszs_take_succ {ts : List Tr} {i : Nat} {t : Tr} (h : ts[i]? = some t) : tszs (ts.take (i + 1)) = tszs (ts.take i) + tsz t := by
  induction ts generalizing i with
  | nil => simp at h
  | cons u r ih =>
    cases i with
    | zero => simp at h; subst h; simp [tszs]
    | succ i =>
      have := ih (i := i) (by simpa using h)
      simp only [List.take_succ_cons, tszs]
      omega
theorem tszs_take_le {ts : List Tr} {i : Nat} : tszs (ts.take i) ≤ tszs ts := by
  induction ts generalizing i with
  | nil => simp
  | cons u r ih =>
    cases i with
    | zero => simp [tszs]
    | succ i =>
      have := ih (i := i)
      simp only [List.take_succ_cons, tszs]
      omega
theorem Count_calls : ∀ (m : Nat) (t : Tr) (b : Nat) (w : World), tsz t ≤ m → tsz t ≤ 1000000 → TrO w (low w) t b →
    Calls Tryd.prog 40 [.pointer (some ⟨b, 0, none⟩)].toArray w fun e w' => e = .returned (.int .i64 (tsz t : Int)) ∧ Ext w w' := by
  intro m
  induction m with
  | zero =>
    intro t b w hm
    obtain ⟨op, n, binds, kids, alts⟩ := t
    simp only [tsz] at hm
    omega
  | succ m ih =>
  intro t b w hm hbig ht
  obtain ⟨op, n, binds, kids, alts⟩ := t
  simp only [TrO] at ht
  obtain ⟨y, hnode, hkl, hks⟩ := ht
  have hbs : b < w.heap.size := hnode.own
  have hcells := hnode.cells
  have hcellI : ∀ {j : Nat} {v : Value}, ([.int .i64 op, .int .i64 n, .slice y.b.1 binds.length y.b.2, .slice y.k.1 kids.length y.k.2, .slice y.a.1 alts.length y.a.2] : List Value)[j]? = some v → w.cell? ⟨b, 0 + j, none⟩ = some v := fun {j v} hj => by
    have := hcells j v hj
    rwa [add_mid] at this
  have h3 := hcellI (j := 3) rfl
  simp only [tsz] at hm hbig
  refine enter Tryd.func40 rfl Tryd.ntmps40 rfl (Cls.start w) ?_
  (simp only [argEnv, Nat.zero_add, Nat.reduceAdd])
  apply W.sr
  apply oas; rfl; rfl
  apply OL.nsr
  apply oas; rfl; rfl
  apply OL.nx
  apply W.seq
  apply W.sr
  apply omv; rfl; rfl
  apply oop; rfl; apply Pev.nil_ptr; rfl; exact yes
  apply ofa; rfl; rfl; rfl
  apply oop; rfl; apply Pev.load_kept; rfl; exact yes; exact .head _; rfl; intro hcond; assumption; intro hcond; assumption; intro hcond; exact NotOwned.au
  apply oop; rfl; apply Pev.len_slice; rfl; exact yes; rfl
  apply omv; rfl; rfl
  apply OL.nx
  apply W.block
  refine W.loop (G := Nat) (fun i => i ≤ kids.length) (fun i => kids.length - i)
    (fun i => [(3, true, .int .i64 ((tszs (kids.take i) + 1 : Nat) : Int)), (9, true, .slice y.k.1 kids.length y.k.2), (10, true, .int .i64 (kids.length : Int)), (11, true, .int .i64 (i : Int))])
    (fun _ => Cls [] [w]) 0 (by omega) (by simp only [List.take_zero, tszs]; exact Sub.au) (fun w' hw' => hw') ?_
  rintro i hi
  apply W.sr
  apply obn; rfl; rfl; rfl; apply Bin.lss
  apply OL.nx
  apply W.seq
  (refine W.cnd (fun hlt => ?_) (fun hlt => ?_)) <;> (try (exfalso; first | omega | exact hlt trivial | contradiction))
  · have hil : i < kids.length := by omega
    obtain ⟨a, hqa, hab, htrs⟩ := hks (by omega)
    have hab : a.block < w.heap.size := hab
    have hki : kids[i]? = some kids[i] := List.getElem?_eq_getElem hil
    obtain ⟨b', hcb, hkid⟩ := htrs.get hki
    have hsz := tsz_get hki
    have h1 := tszs_take_succ hki
    have h2 := tszs_take_le (ts := kids) (i := i + 1)
    rw [hqa]
    apply W.sk
    apply W.sb
    apply W.sr
    apply oop; rfl; apply Pev.idx; rfl; exact yes; rfl; exact yes; rfl; rfl; intro hcond; omega
    apply oop; rfl; apply Pev.load_kept; rfl; exact yes; exact .head _; rfl; intro hcond; assumption; intro hcond; (rw [add_block]; assumption); intro hcond; exact NotOwned.au
    apply oas; rfl; rfl
    apply OL.nx
    apply W.reg
    apply omv; rfl; rfl
    apply omv; rfl; rfl
    (((first | (with_reducible apply OL.op) | (with_reducible apply QL.op)); (exact Guard.au); rfl; rfl); (exact Pev.call rfl (by exact Args.au) (fun _ w2 hw2 => (ih kids[i] b' w2 (by omega) (by omega) (hkid.at hw2 (by exact mau) (fun k hk => by exact NotOwned.au))).mono (fun e w3 h => ⟨h.1, hw2.ext h.2⟩))))
    apply obn; rfl; rfl; rfl; apply Bin.add_in; omega
    apply oas; rfl; rfl
    apply OL.nil
    with_reducible apply At.in_normal
    with_reducible apply At.next
    apply W.reg
    apply obn; rfl; rfl; rfl; apply Bin.add_in; omega
    apply omv; rfl; rfl
    apply OL.nil
    have e1 : ((tszs (kids.take i) + 1 : Nat) : Int) + (tsz kids[i] : Int) = ((tszs (kids.take (i + 1)) + 1 : Nat) : Int) := by omega
    try rw [e1]
    exact At.again (i + 1) (by omega) (by omega) (by exact Sub.au) (fun w' hw' => hw')
  · obtain rfl : i = kids.length := by omega
    rw [List.take_length]
    refine W.xt ?_
    with_reducible apply At.next
    apply W.sr
    apply omv; rfl; rfl
    apply oas; rfl; rfl
    apply OL.nx
    apply W.ret
    ((with_reducible apply At.fin1); rfl; rfl; intro w' hw')
    exact ⟨rfl, by (exact hw'.fr)⟩
end Go.Proofs.YtlboppiogeaicaaDoor.co

/- The walk of core's below. Conditions: none. (Printed by czb.py.) -/
namespace Go.Proofs.YtlboppiogeaicaaDoor.co
open Go.RowKit Go.Eng Go.Co
set_option linter.unusedVariables false
set_option linter.unusedSimpArgs false
set_option maxRecDepth 100000
theorem below_calls (es : List (Ex × ExY)) (q : Option Addr) (cap n : Nat) (w : World) (he : Arr exR w (low w) es q) (hlen : es.length ≤ 4096) (hcap : es.length ≤ cap) (hn : n < es.length) (hd : Down (es.map Prod.fst)) (hlim : ∀ p ∈ es, Lim p.1) (hkl : ∀ p ∈ es, p.1.kids.length ≤ 4096) :
    Calls Tryd.prog 41 [.slice q es.length cap, .int .i64 (n : Int)].toArray w fun e w' => ∃ b, e = .returned (.pointer (some ⟨b, 0, none⟩)) ∧ Ext w w' ∧ TrO w' (low w') (grow (es.map Prod.fst) n) b := by
  obtain ⟨e, hee⟩ : ∃ e, es.map Prod.fst = e := ⟨_, rfl⟩
  have hel : e.length = es.length := by rw [← hee, List.length_map]
  rw [hee] at hd ⊢
  have hget : ∀ {i : Nat}, i < es.length → ∃ a p, q = some a ∧ a.block < w.heap.size ∧ es[i]? = some p ∧ e[i]? = some p.1 ∧ CellsAt w (a.add (i * 5)) [.int .i64 p.1.op, .int .i64 p.1.n, .slice p.2.b.1 p.1.binds.length p.2.b.2, .slice p.2.k.1 p.1.kids.length p.2.k.2, .slice p.2.a.1 p.1.alts.length p.2.a.2] ∧ ExOk w (low w) p.1 p.2 := fun {i} hi => by
    obtain ⟨a, p, h1, h2, h3, h4, h5⟩ := he.get hi
    exact ⟨a, p, h1, h2, h3, by rw [← hee, List.getElem?_map, h3]; rfl, h4, h5⟩
  refine enter Tryd.func41 rfl Tryd.ntmps41 rfl (Cls.start w) ?_
  (simp only [argEnv, Nat.zero_add, Nat.reduceAdd])
  apply W.sr
  apply oas; rfl; rfl
  apply OL.nsr
  apply omv; rfl; rfl
  apply oop; rfl; apply Pev.len_slice; rfl; exact yes; rfl
  apply OL.makeSlice; rfl; rfl; rfl; rfl; rfl; rfl; rfl; omega; (intro bk hbk; simp only [AllLe, and_true] at hbk)
  apply oas; rfl; rfl
  apply OL.nx
  apply W.seq
  apply W.sr
  apply omv; rfl; rfl
  apply omv; rfl; rfl
  apply obn; rfl; rfl; rfl; apply Bin.add_in; omega
  apply oop; rfl; apply Pev.slice_hi; rfl; exact yes; rfl; exact yes; rfl; rfl; intro hcond; (simp only [Bool.and_eq_true, Bool.or_eq_true, Bool.not_eq_true', decide_eq_true_eq, decide_eq_false_iff_not] at *; omega)
  apply oop; rfl; apply Pev.len_slice; rfl; exact yes; rfl
  apply omv; rfl; rfl
  apply OL.nx
  apply W.block
  revert bk
  intro bn hbn
  have hz0 : List.replicate es.length (Value.pointer none) = nds (fun _ => 0) 0 es.length := nds_zero _ _
  refine W.exx (X := { x : World // bn < x.heap.size ∧ w.heap.size ≤ x.heap.size }) (C' := fun x => Cls [blk bn 69 (nds (fun _ => 0) 0 es.length)] [x.1, w]) (fun w2 hw2 => by rw [hz0] at hw2; exact ⟨⟨w2, hw2.lt _ (.head _) bn rfl, (hw2.kp w (.head _)).size⟩, hw2.note⟩) ?_
  rintro ⟨w0, hw0a, hw0b⟩
  simp only
  refine W.loop (G := Nat × World × (Nat → Nat)) (fun g => g.1 ≤ n + 1 ∧ w.heap.size ≤ g.2.1.heap.size ∧ bn < g.2.1.heap.size ∧ ∀ k, k < g.1 → TrO g.2.1 (fun b => b < g.2.1.heap.size ∧ b ≠ bn) (grow e k) (g.2.2 k)) (fun g => n + 1 - g.1)
    (fun g => [(1, true, .int .i64 (n : Int)), (5, true, .slice (some ⟨bn, 0, none⟩) es.length es.length), (17, true, .slice q (n + 1) cap), (18, true, .int .i64 ((n + 1 : Nat) : Int)), (19, true, .int .i64 (g.1 : Int))])
    (fun g => Cls [blk bn 69 (nds g.2.2 g.1 es.length)] [g.2.1, w]) (0, w0, fun _ => 0) ⟨by simp, hw0b, hw0a, fun k hk => by simp at hk⟩ (by exact Sub.au) (fun w' hw' => hw') ?_
  rintro ⟨i, wk, tb⟩ ⟨hi, hwk, hbnk, htr⟩
  simp only at hi hwk hbnk htr ⊢
  apply W.sr
  apply obn; rfl; rfl; rfl; apply Bin.lss
  apply OL.nx
  apply W.seq
  (refine W.cnd (fun hlt => ?_) (fun hlt => ?_)) <;> (try (exfalso; first | omega | exact hlt trivial | contradiction))
  · have hil : i < es.length := by omega
    have hin : i < n + 1 := by omega
    obtain ⟨a, p, rfl, hab, hp, hpe, hcell, hok⟩ := hget hil
    have hL := hlim p (List.mem_of_getElem? hp)
    have hkl1 := hkl p (List.mem_of_getElem? hp)
    have hdn := hd i _ hpe
    apply W.sk
    apply W.sb
    apply W.sr
    apply omv; rfl; rfl
    apply oop; rfl; apply Pev.idx; rfl; exact yes; rfl; exact yes; rfl; rfl; intro hcond; omega
    apply oop; rfl; apply Pev.load_keptA; rfl; exact yes; exact .tail _ (.head _); rfl; intro hcond; assumption; rfl; intro hcond; (rw [add_block]; assumption); intro hcond; exact NotOwned.au
    apply OL.alloc; rfl; rfl; exact CellsL.agg; (intro bk hbk; simp only [AllLe, and_true] at hbk)
    apply oas; rfl; rfl
    apply OL.storeB; rfl; rfl; exact CellsL.agg; rfl; rfl; rfl; exact Swap.au; exact Put.au
    apply OL.nsr
    apply ofa; rfl; rfl; rfl
    apply old; rfl; rfl; exact .head _; rfl; rfl
    apply ofa; rfl; rfl; rfl
    apply old; rfl; rfl; exact .head _; rfl; rfl
    apply ofa; rfl; rfl; rfl
    apply old; rfl; rfl; exact .head _; rfl; rfl
    apply ofa; rfl; rfl; rfl
    apply old; rfl; rfl; exact .head _; rfl; rfl
    apply oop; rfl; apply Pev.build; rfl; exact CellsL.agg; rfl; exact Fill.au; rfl
    apply OL.box; rfl; rfl; exact CellsL.agg; (intro bk hbk; simp only [AllLe, and_true] at hbk)
    apply oas; rfl; rfl
    apply OL.nx
    apply W.seq
    apply W.sr
    apply ofa; rfl; rfl; rfl
    apply old; rfl; rfl; exact .tail _ (.head _); rfl; rfl
    apply oop; rfl; apply Pev.len_slice; rfl; exact yes; rfl
    apply omv; rfl; rfl
    apply OL.nx
    apply W.block
    revert bk
    intro bt hbt
    revert bk
    intro bx hbx
    refine W.loop (G := Nat × GR) (fun g => g.1 ≤ p.1.kids.length) (fun g => p.1.kids.length - g.1)
      (fun g => [(1, true, .int .i64 (n : Int)), (5, true, .slice (some ⟨bn, 0, none⟩) es.length es.length), (6, true, .int .i64 (i : Int)), (8, true, .pointer (some ⟨bt, 0, none⟩)), (17, true, .slice (some a) (n + 1) cap), (18, true, .int .i64 ((n + 1 : Nat) : Int)), (19, true, .int .i64 (i : Int)), (35, true, .slice p.2.k.1 p.1.kids.length p.2.k.2), (36, true, .int .i64 (p.1.kids.length : Int)), (37, true, .int .i64 (g.1 : Int))])
      (fun g => Cls (blk bn 69 (nds tb i es.length) :: blk bx 28 [.int .i64 p.1.op, .int .i64 p.1.n, .slice p.2.b.1 p.1.binds.length p.2.b.2, .slice p.2.k.1 p.1.kids.length p.2.k.2, .slice p.2.a.1 p.1.alts.length p.2.a.2] :: blk bt 91 [.int .i64 p.1.op, .int .i64 p.1.n, .slice p.2.b.1 p.1.binds.length p.2.b.2, .slice g.2.q g.1 g.2.c, .slice p.2.a.1 p.1.alts.length p.2.a.2] :: row wk.heap.size g.2.O g.2.q g.1 g.2.c 69 1 (ptrs (kp tb (p.1.kids.take g.1))) :: []) [wk, w]) (0, ⟨fun _ => False, none, 0⟩) (by simp) (by exact Sub.au) (fun w' hw' => Cls.mv (A := [_]) (I := [_, _, _]) (H := []) (Cls.row_nil (hw'.perm (List.reverse_perm _).symm) wk.heap.size _ 1)) ?_
    rintro ⟨j, ⟨Ok, qk, ck⟩⟩ hj
    simp only at hj ⊢
    have hkl := hok.kl
    apply W.sr
    apply obn; rfl; rfl; rfl; apply Bin.lss
    apply OL.nx
    apply W.seq
    (refine W.cnd (fun hlt2 => ?_) (fun hlt2 => ?_)) <;> (try (exfalso; first | omega | exact hlt2 trivial | contradiction))
    · have hjl : j < p.1.kids.length := by omega
      obtain ⟨ak, k, hqk, habk, hk, hck⟩ := hok.k.get hjl
      have habk : ak.block < w.heap.size := habk
      have hkr := hdn k (List.mem_of_getElem? hk)
      obtain ⟨kn, rfl⟩ : ∃ kn : Nat, k = (kn : Int) := ⟨k.toNat, by omega⟩
      have hkn : (nds tb i es.length)[0 + (kn : Int).toNat * 1]? = some (.pointer (some ⟨tb kn, 0, none⟩)) := by
        have h1 := nds_get (tb := tb) (i := i) (n := es.length) (k := kn) (by omega) (by omega)
        simpa using h1
      rw [hqk]
      apply W.sk
      apply W.sb
      apply W.sr
      apply oop; rfl; apply Pev.idx; rfl; exact yes; rfl; exact yes; rfl; rfl; intro hcond; omega
      apply oop; rfl; apply Pev.load_kept; rfl; exact yes; exact .tail _ (.head _); rfl; intro hcond; assumption; intro hcond; (rw [add_block]; assumption); intro hcond; exact NotOwned.au
      apply oas; rfl; rfl
      apply OL.nx
      refine W.regany (X := XG [wk, w] p.1.binds.length wk.heap.size) (fun x e => [(53, true, bif e 12 then .pointer (some ⟨bt, 0 + 3, none⟩) else x.old 53), (52, true, bif e 11 then .pointer (some ⟨bt, 0, none⟩) else x.old 52), (51, true, bif e 10 then .slice (some ⟨x.g1, 0, none⟩) (j + 1) x.c1 else x.old 51), (50, true, bif e 9 then .slice (some ⟨x.b1, 0, none⟩) 1 1 else x.old 50), (49, true, bif e 8 then Value.pointer (some ⟨tb kn, 0, none⟩) else x.old 49), (48, true, bif e 7 then .pointer (some ⟨bn, 0 + (kn : Int).toNat * 1, none⟩) else x.old 48), (47, true, bif e 6 then .int .i64 (kn : Int) else x.old 47), (46, true, bif e 5 then .slice (some ⟨bn, 0, none⟩) es.length es.length else x.old 46), (45, true, bif e 4 then .slice qk j ck else x.old 45), (44, true, bif e 3 then .pointer (some ⟨bt, 0 + 3, none⟩) else x.old 44), (43, true, bif e 2 then .pointer (some ⟨bt, 0, none⟩) else x.old 43), (42, true, bif e 1 then .pointer (some ⟨bt, 0, none⟩) else x.old 42), (41, true, bif e 0 then .pointer (some ⟨bt, 0, none⟩) else x.old 41), (1, true, .int .i64 (n : Int)), (5, true, .slice (some ⟨bn, 0, none⟩) es.length es.length), (6, true, .int .i64 (i : Int)), (8, true, .pointer (some ⟨bt, 0, none⟩)), (10, true, .int .i64 (kn : Int)), (17, true, .slice (some a) (n + 1) cap), (18, true, .int .i64 ((n + 1 : Nat) : Int)), (19, true, .int .i64 (i : Int)), (35, true, .slice (some ak) p.1.kids.length p.2.k.2), (36, true, .int .i64 (p.1.kids.length : Int)), (37, true, .int .i64 (j : Int))])
        (fun x e => (blk bn 69 (nds tb i es.length)) :: (blk bx 28 [.int .i64 p.1.op, .int .i64 p.1.n, .slice p.2.b.1 p.1.binds.length p.2.b.2, .slice (some ak) p.1.kids.length p.2.k.2, .slice p.2.a.1 p.1.alts.length p.2.a.2]) :: (blk bt 91 [.int .i64 p.1.op, .int .i64 p.1.n, .slice p.2.b.1 p.1.binds.length p.2.b.2, bif e 13 then .slice (some ⟨x.g1, 0, none⟩) (j + 1) x.c1 else .slice qk j ck, .slice p.2.a.1 p.1.alts.length p.2.a.2]) :: (bif e 10 then row wk.heap.size x.O1 (some ⟨x.g1, 0, none⟩) (j + 1) x.c1 69 1 ((ptrs (kp tb (p.1.kids.take j))) ++ [Value.pointer (some ⟨tb kn, 0, none⟩)]) else row wk.heap.size Ok qk j ck 69 1 (ptrs (kp tb (p.1.kids.take j)))) :: (bif e 9 then blk x.b1 69 [Value.pointer (some ⟨tb kn, 0, none⟩)] else nothing) :: [])
        (fun old => ⟨fun _ => False, none, p.1.binds.length, Nat.le_refl _, wk.heap.size, Nat.le_refl _, 0, 0, fun _ => False, wk.heap.size, Nat.le_refl _, old⟩) (by kernel_rfl) (by kernel_rfl) (fun w hw => hw.drew) (fun old => by repeat (first | exact SubO.nil | apply SubO.cons rfl | refine SubO.old rfl ?_)) (fun old w' hw' => hw'.add_nothing) ?_ ?_
      · intro x e i o ho hei hd hcl
        have hi : i < 14 := (List.getElem?_eq_some_iff.1 ho).1
        obtain rfl | rfl | rfl | rfl | rfl | rfl | rfl | rfl | rfl | rfl | rfl | rfl | rfl | rfl : i = 0 ∨ i = 1 ∨ i = 2 ∨ i = 3 ∨ i = 4 ∨ i = 5 ∨ i = 6 ∨ i = 7 ∨ i = 8 ∨ i = 9 ∨ i = 10 ∨ i = 11 ∨ i = 12 ∨ i = 13 := by omega
        · cases ho
          have v0 : Eng.upd e 0 0 = true := upd_eq
          simp only [hei, cond_true, cond_false]
          apply omv; rfl; rfl
          apply OL.nil
          exact At.beside x (by repeat (first | exact Sub.nil | apply Sub.cons rfl | refine Sub.cons_eq rfl (by simp only [v0, cond_true, cond_false]) ?_)) (fun w' hw' => by first | exact hw' | (simp only [v0, cond_true, cond_false]; exact hw'))
        · cases ho
          have v1 : Eng.upd e 1 1 = true := upd_eq
          simp only [hei, cond_true, cond_false]
          apply omv; rfl; rfl
          apply OL.nil
          exact At.beside x (by repeat (first | exact Sub.nil | apply Sub.cons rfl | refine Sub.cons_eq rfl (by simp only [v1, cond_true, cond_false]) ?_)) (fun w' hw' => by first | exact hw' | (simp only [v1, cond_true, cond_false]; exact hw'))
        · cases ho
          have h1 : e 1 = true := hd ⟨1, .data⟩ (by simp) rfl
          have v2 : Eng.upd e 2 2 = true := upd_eq
          have v1 : Eng.upd e 2 1 = true := upd_mono h1
          simp only [hei, h1, cond_true, cond_false]
          apply oop; rfl; apply Pev.nil_ptr; rfl; exact yes
          apply OL.nil
          exact At.beside x (by repeat (first | exact Sub.nil | apply Sub.cons rfl | refine Sub.cons_eq rfl (by simp only [v2, v1, cond_true, cond_false]) ?_)) (fun w' hw' => by first | exact hw' | (simp only [v2, v1, cond_true, cond_false]; exact hw'))
        · cases ho
          have h2 : e 2 = true := hd ⟨2, .data⟩ (by simp) rfl
          have v3 : Eng.upd e 3 3 = true := upd_eq
          have v2 : Eng.upd e 3 2 = true := upd_mono h2
          simp only [hei, h2, cond_true, cond_false]
          apply ofa; rfl; rfl; rfl
          apply OL.nil
          exact At.beside x (by repeat (first | exact Sub.nil | apply Sub.cons rfl | refine Sub.cons_eq rfl (by simp only [v3, v2, cond_true, cond_false]) ?_)) (fun w' hw' => by first | exact hw' | (simp only [v3, v2, cond_true, cond_false]; exact hw'))
        · cases ho
          have h3 : e 3 = true := hd ⟨3, .data⟩ (by simp) rfl
          have h13 : e 13 = false := hcl.not (i := 4) (j := 13) rfl hei (by kernel_rfl)
          have v4 : Eng.upd e 4 4 = true := upd_eq
          have v3 : Eng.upd e 4 3 = true := upd_mono h3
          have v13 : Eng.upd e 4 13 = false := h13
          simp only [hei, h3, h13, cond_true, cond_false]
          apply old; rfl; rfl; exact .tail _ (.tail _ (.head _)); rfl; rfl
          apply OL.nil
          exact At.beside x (by repeat (first | exact Sub.nil | apply Sub.cons rfl | refine Sub.cons_eq rfl (by simp only [v4, v3, v13, cond_true, cond_false]) ?_)) (fun w' hw' => by first | exact hw' | (simp only [v4, v3, v13, cond_true, cond_false]; exact hw'))
        · cases ho
          have v5 : Eng.upd e 5 5 = true := upd_eq
          simp only [hei, cond_true, cond_false]
          apply omv; rfl; rfl
          apply OL.nil
          exact At.beside x (by repeat (first | exact Sub.nil | apply Sub.cons rfl | refine Sub.cons_eq rfl (by simp only [v5, cond_true, cond_false]) ?_)) (fun w' hw' => by first | exact hw' | (simp only [v5, cond_true, cond_false]; exact hw'))
        · cases ho
          have v6 : Eng.upd e 6 6 = true := upd_eq
          simp only [hei, cond_true, cond_false]
          apply omv; rfl; rfl
          apply OL.nil
          exact At.beside x (by repeat (first | exact Sub.nil | apply Sub.cons rfl | refine Sub.cons_eq rfl (by simp only [v6, cond_true, cond_false]) ?_)) (fun w' hw' => by first | exact hw' | (simp only [v6, cond_true, cond_false]; exact hw'))
        · cases ho
          have h5 : e 5 = true := hd ⟨5, .data⟩ (by simp) rfl
          have h6 : e 6 = true := hd ⟨6, .data⟩ (by simp) rfl
          have v7 : Eng.upd e 7 7 = true := upd_eq
          have v5 : Eng.upd e 7 5 = true := upd_mono h5
          have v6 : Eng.upd e 7 6 = true := upd_mono h6
          simp only [hei, h5, h6, cond_true, cond_false]
          apply oop; rfl; apply Pev.idxB; rfl; exact yes; rfl; exact yes; rfl; intro hcond; omega; rfl
          apply OL.nil
          exact At.beside x (by repeat (first | exact Sub.nil | apply Sub.cons rfl | refine Sub.cons_eq rfl (by simp only [v7, v5, v6, cond_true, cond_false]) ?_)) (fun w' hw' => by first | exact hw' | (simp only [v7, v5, v6, cond_true, cond_false]; exact hw'))
        · cases ho
          have h7 : e 7 = true := hd ⟨7, .data⟩ (by simp) rfl
          have v8 : Eng.upd e 8 8 = true := upd_eq
          have v7 : Eng.upd e 8 7 = true := upd_mono h7
          simp only [hei, h7, cond_true, cond_false]
          apply oop; rfl; apply Pev.load_blk; rfl; exact yes; exact .head _; rfl; assumption
          apply OL.nil
          exact At.beside x (by repeat (first | exact Sub.nil | apply Sub.cons rfl | refine Sub.cons_eq rfl (by simp only [v8, v7, cond_true, cond_false]) ?_)) (fun w' hw' => by first | exact hw' | (simp only [v8, v7, cond_true, cond_false]; exact hw'))
        · cases ho
          have h8 : e 8 = true := hd ⟨8, .data⟩ (by simp) rfl
          have v9 : Eng.upd e 9 9 = true := upd_eq
          have v8 : Eng.upd e 9 8 = true := upd_mono h8
          simp only [hei, h8, cond_true, cond_false]
          apply OL.buildSlice; rfl; rfl; rfl; exact Elems.au; rfl; rfl; (intro bk hbk; simp only [AllLe, and_true] at hbk)
          apply OL.nil
          exact At.beside { x with b1 := bk, hb1 := hbk.1 } (by repeat (first | exact Sub.nil | apply Sub.cons rfl | refine Sub.cons_eq rfl (by simp only [v9, v8, cond_true, cond_false]) ?_)) (fun w' hw' => by simp only [v9, v8, cond_true, cond_false]; exact Cls.fill (p := 4) (H := _ :: _ :: _ :: _ :: _ :: []) (.s (.s (.s (.s .z)))) hw')
        · cases ho
          have h4 : e 4 = true := hd ⟨4, .data⟩ (by simp) rfl
          have h9 : e 9 = true := hd ⟨9, .data⟩ (by simp) rfl
          have h13 : e 13 = false := hcl.not (i := 10) (j := 13) rfl hei (by kernel_rfl)
          have v10 : Eng.upd e 10 10 = true := upd_eq
          have v4 : Eng.upd e 10 4 = true := upd_mono h4
          have v9 : Eng.upd e 10 9 = true := upd_mono h9
          have v13 : Eng.upd e 10 13 = false := h13
          simp only [hei, h4, h9, h13, cond_true, cond_false]
          apply OL.append
          rfl
          rfl
          rfl
          rfl
          (repeat (first | apply Hole.z | apply Hole.s))
          (repeat (first | exact List.Mem.head _ | apply List.Mem.tail))
          (repeat (first | apply Take.zero | apply Take.succ))
          rfl
          rfl
          exact ⟨wk, .head _, Nat.le_refl _⟩
          omega
          intro O1 g1 cap1
          apply OL.nil
          exact At.beside { x with g1 := g1, c1 := cap1, O1 := O1 } (by repeat (first | exact Sub.nil | apply Sub.cons rfl | refine Sub.cons_eq rfl (by simp only [v10, v4, v9, v13, cond_true, cond_false]) ?_)) (fun w' hw' => by first | exact hw' | (simp only [v10, v4, v9, v13, cond_true, cond_false]; exact hw'))
        · cases ho
          have h0 : e 0 = true := hd ⟨0, .data⟩ (by simp) rfl
          have v11 : Eng.upd e 11 11 = true := upd_eq
          have v0 : Eng.upd e 11 0 = true := upd_mono h0
          simp only [hei, h0, cond_true, cond_false]
          apply oop; rfl; apply Pev.nil_ptr; rfl; exact yes
          apply OL.nil
          exact At.beside x (by repeat (first | exact Sub.nil | apply Sub.cons rfl | refine Sub.cons_eq rfl (by simp only [v11, v0, cond_true, cond_false]) ?_)) (fun w' hw' => by first | exact hw' | (simp only [v11, v0, cond_true, cond_false]; exact hw'))
        · cases ho
          have h11 : e 11 = true := hd ⟨11, .data⟩ (by simp) rfl
          have v12 : Eng.upd e 12 12 = true := upd_eq
          have v11 : Eng.upd e 12 11 = true := upd_mono h11
          simp only [hei, h11, cond_true, cond_false]
          apply ofa; rfl; rfl; rfl
          apply OL.nil
          exact At.beside x (by repeat (first | exact Sub.nil | apply Sub.cons rfl | refine Sub.cons_eq rfl (by simp only [v12, v11, cond_true, cond_false]) ?_)) (fun w' hw' => by first | exact hw' | (simp only [v12, v11, cond_true, cond_false]; exact hw'))
        · cases ho
          have h10 : e 10 = true := hd ⟨10, .data⟩ (by simp) rfl
          have h12 : e 12 = true := hd ⟨12, .data⟩ (by simp) rfl
          have v13 : Eng.upd e 13 13 = true := upd_eq
          have v10 : Eng.upd e 13 10 = true := upd_mono h10
          have v12 : Eng.upd e 13 12 = true := upd_mono h12
          simp only [hei, h10, h12, cond_true, cond_false]
          apply OL.storeB; rfl; rfl; exact CellsL.one rfl; rfl; rfl; rfl; exact Swap.au; exact Put.au
          apply OL.nil
          exact At.beside x (by repeat (first | exact Sub.nil | apply Sub.cons rfl | refine Sub.cons_eq rfl (by simp only [v13, v10, v12, cond_true, cond_false]) ?_)) (fun w' hw' => by first | exact hw' | (simp only [v13, v10, v12, cond_true, cond_false]; exact hw'))
      · intro x e2 hall
        have hx1 := x.hb1
        simp only [hall 0 (by decide), hall 1 (by decide), hall 2 (by decide), hall 3 (by decide), hall 4 (by decide), hall 5 (by decide), hall 6 (by decide), hall 7 (by decide), hall 8 (by decide), hall 9 (by decide), hall 10 (by decide), hall 11 (by decide), hall 12 (by decide), hall 13 (by decide), cond_true]
        have hsn : ptrs (kp tb (p.1.kids.take j)) ++ [.pointer (some ⟨tb kn, 0, none⟩)] = ptrs (kp tb (p.1.kids.take (j + 1))) := by
          rw [List.take_add_one, hk]
          simp [ptrs, kp]
        rw [hsn]
        with_reducible apply At.in_normal
        with_reducible apply At.next
        apply W.reg
        apply obn; rfl; rfl; rfl; apply Bin.add_in; omega
        apply omv; rfl; rfl
        apply OL.nil
        exact At.again (j + 1, ⟨x.O1, some ⟨x.g1, 0, none⟩, x.c1⟩) (by simp only; omega) (by simp only; omega) (by exact Sub.au) (fun w' hw' => hw'.thin (.keep (.keep (.keep (.keep (.blk ⟨hx1, by omega, trivial⟩ Thin.nil))))))
    obtain rfl : j = p.1.kids.length := by omega
    rw [List.take_length]
    refine W.xt ?_
    with_reducible apply At.next
    apply W.reg
    apply omv; rfl; rfl
    apply omv; rfl; rfl
    apply omv; rfl; rfl
    apply oop; rfl; apply Pev.idxB; rfl; exact yes; rfl; exact yes; rfl; intro hcond; omega; rfl
    (apply OL.storeI); rfl; rfl; rfl; rfl; rfl; (exact Swap.au); (rw [nds_length]; omega)
    have hset : (nds tb i es.length).set (0 + (i : Int).toNat * 1) (.pointer (some ⟨bt, 0, none⟩)) = nds (fun k => if k = i then bt else tb k) (i + 1) es.length := by
      rw [show 0 + (i : Int).toNat * 1 = i by simp, nds_set hil]
    rw [hset]
    apply OL.nil
    with_reducible apply At.in_normal
    with_reducible apply At.next
    apply W.reg
    apply obn; rfl; rfl; rfl; apply Bin.add_in; omega
    apply omv; rfl; rfl
    apply OL.nil
    refine At.againE (fun w' hw' => ⟨(i + 1, w', fun k => if k = i then bt else tb k), ⟨by simp only; omega, Nat.le_trans hwk (hw'.kp wk (.head _)).size, Nat.lt_of_lt_of_le hbnk (hw'.kp wk (.head _)).size, ?_⟩, by simp only; omega, (by exact Sub.au), ?_⟩)
    · intro k hk
      simp only at hk ⊢
      have hsz := (hw'.kp wk (.head _)).size
      have hold : ∀ m, m < i → TrO w' (fun b => b < w'.heap.size ∧ b ≠ bn) (grow e m) (tb m) := fun m hm =>
        TrO.mono (fun b hb => ⟨Nat.lt_of_lt_of_le hb.1 hsz, hb.2⟩) (TrO.stab (fun b hb => (hw'.kp wk (.head _)).block b hb.1 (NotOwned.not (by have h1 := hb.1; have h2 := hb.2; exact NotOwned.au))) (htr m hm))
      have hlow : ∀ k, low w k → w'.heap[k]? = w.heap[k]? := hw'.same (.tail _ (.head _)) (fun k hk => by have hk2 : k < w.heap.size := hk; exact NotOwned.au)
      have hlow2 : ∀ k, low w k → k < w'.heap.size ∧ k ≠ bn := fun k hk => ⟨hw'.up (.tail _ (.head _)) k hk, by have hk2 : k < w.heap.size := hk; omega⟩
      by_cases hki : k = i
      · subst hki
        rw [if_pos rfl, grow_eq hd hpe]
        have hbt2 := hw'.item (i := blk bt 91 [.int .i64 p.1.op, .int .i64 p.1.n, .slice p.2.b.1 p.1.binds.length p.2.b.2, .slice qk p.1.kids.length ck, .slice p.2.a.1 p.1.alts.length p.2.a.2]) (by exact mau)
        have hbt3 := hw'.lt (blk bt 91 [.int .i64 p.1.op, .int .i64 p.1.n, .slice p.2.b.1 p.1.binds.length p.2.b.2, .slice qk p.1.kids.length ck, .slice p.2.a.1 p.1.alts.length p.2.a.2]) (by exact mau) bt rfl
        have hrk := hw'.item (i := row wk.heap.size Ok qk p.1.kids.length ck 69 1 (ptrs (kp tb p.1.kids))) (by exact mau)
        have hrk3 := hw'.lt (row wk.heap.size Ok qk p.1.kids.length ck 69 1 (ptrs (kp tb p.1.kids))) (by exact mau)
        simp only [TrO]
        refine ⟨⟨p.2.b, (qk, ck), p.2.a⟩, ⟨⟨hbt3, by omega⟩, fun j v hj => ?_, hL.b, hL.a, hL.ab, (hok.b.stab hlow).mono hlow2, (hok.a.stab hlow).mono hlow2⟩, by rw [List.length_map]; exact hkl1, fun hl => ?_⟩
        · rw [add_mid, blk_cell hbt2, Nat.zero_add]
          rw [List.length_map] at hj
          exact hj
        · rw [List.length_map] at hl
          obtain ⟨a, h1, h2, h3⟩ := row_at hrk (by simpa [ptrs, kp] using hl)
          refine ⟨a, h1, ⟨hrk3 _ h2, by omega⟩, TrsO.of (bs := kp tb p.1.kids) (by simp [kp]) h3 (fun m t b h4 h5 => ?_)⟩
          simp only [kp, List.getElem?_map] at h4 h5
          cases hkm : p.1.kids[m]? with
          | none => rw [hkm] at h4; cases h4
          | some kv =>
            simp only [hkm, Option.map_some, Option.some.injEq] at h4 h5
            subst h4 h5
            have hkr := hdn kv (List.mem_of_getElem? hkm)
            exact hold kv.toNat (by omega)
      · rw [if_neg hki]
        exact hold k (by omega)
    · simp only
      have hany : ∀ (j : Eng.Item), (∀ k, j.own k → wk.heap.size ≤ k) → ∀ k, j.own k → AllLe [wk, w] k := fun j hj k hk => ⟨hj k hk, Nat.le_trans hwk (hj k hk), trivial⟩
      exact ((hw'.thin (.keep (.blk ⟨by omega, by omega, trivial⟩ (.blk ⟨by omega, by omega, trivial⟩ (.any (hany _ fun k hk => hk.1) Thin.nil))))).note).forget (fun s hs => by simp at hs ⊢; rcases hs with rfl | rfl <;> simp)
  · obtain rfl : i = n + 1 := by omega
    have hlast : (nds tb (n + 1) es.length)[0 + (n : Int).toNat * 1]? = some (.pointer (some ⟨tb n, 0, none⟩)) := by
      rw [show 0 + (n : Int).toNat * 1 = n by omega]
      exact nds_get (by omega) (by omega)
    refine W.xt ?_
    with_reducible apply At.next
    apply W.sr
    apply omv; rfl; rfl
    apply omv; rfl; rfl
    apply oop; rfl; apply Pev.idxB; rfl; exact yes; rfl; exact yes; rfl; intro hcond; omega; rfl
    apply oop; rfl; apply Pev.load_blk; rfl; exact yes; exact .head _; rfl; assumption
    apply oas; rfl; rfl
    apply OL.nx
    apply W.ret
    ((with_reducible apply At.fin1); rfl; rfl; intro w' hw')
    have hsz := (hw'.kp wk (.head _)).size
    exact ⟨tb n, rfl, by (exact hw'.fr), TrO.mono (fun b hb => Nat.lt_of_lt_of_le hb.1 hsz) (TrO.stab (fun b hb => (hw'.kp wk (.head _)).block b hb.1 (NotOwned.not (by have h1 := hb.1; have h2 := hb.2; exact NotOwned.au))) (htr _ (by omega)))⟩
end Go.Proofs.YtlboppiogeaicaaDoor.co

/- Plain: parents, depths and binders as the reference finds them. No program in sight. No condition. -/
namespace Go.Co
set_option linter.unusedVariables false
set_option linter.unusedSimpArgs false
/-- a tree, as both checks ask it -/
def TreeP (e : List Ex) : Prop := 0 < e.length ∧ Down e ∧ ∀ i : Nat, i + 1 < e.length → (kidsAll e).count (i : Int) = 1
theorem TreeP.tree {e : List Ex} (h : TreeP e) : IsTree e := isTree_of h.2.1 h.2.2
theorem kidsTo_all {e : List Ex} {i j : Nat} {x : Ex} (hx : e[i]? = some x) : ∃ r, kidsAll e = kidsTo e i j ++ r := by
  have hl := (List.getElem?_eq_some_iff.1 hx)
  obtain ⟨hl, rfl⟩ := hl
  refine ⟨(e[i].kids).drop j ++ kidsAll (e.drop (i + 1)), ?_⟩
  have h2 : kidsAll e = kidsAll (e.take i ++ e[i] :: e.drop (i + 1)) := by rw [← List.drop_eq_getElem_cons hl, List.take_append_drop]
  rw [h2]
  simp only [kidsTo, kidsAll, hx, Option.map_some, Option.getD_some, List.flatMap_append, List.flatMap_cons]
  rw [List.append_assoc, ← List.append_assoc (List.take j _), List.take_append_drop]
/-- the parents found so far -/
structure PI (e : List Ex) (P : List Int) (i j : Nat) : Prop where
  len : P.length = e.length
  nd : (kidsTo e i j).Nodup
  val : ∀ (k : Nat) (v : Int), P[k]? = some v → (v = -1 ∧ ¬ (k : Int) ∈ kidsTo e i j) ∨ (0 ≤ v ∧ (k : Int) ∈ kidsTo e i j ∧ ∃ m, Par e k v.toNat m)
  dn : ∀ (a : Nat) (x : Ex), a < i → e[a]? = some x → ∀ k ∈ x.kids, 0 ≤ k ∧ k < (a : Int)
theorem PI.start (e : List Ex) : PI e (List.replicate e.length (-1)) 0 0 where
  len := by simp
  nd := by rw [kidsTo_zero]; simp
  val := fun k v h => by
    rw [List.getElem?_replicate] at h
    split at h
    · exact .inl ⟨(Option.some.inj h).symm, by rw [kidsTo_zero]; simp⟩
    · cases h
  dn := fun a x h => by omega
theorem PI.step {e : List Ex} {P : List Int} {i j : Nat} {x : Ex} {k : Int} (h : PI e P i j) (hx : e[i]? = some x) (hk : x.kids[j]? = some k) (h0 : 0 ≤ k) (hi : k < (i : Int)) {v : Int} (hv : P[k.toNat]? = some v) (hv0 : v < 0) : PI e (P.set k.toNat (i : Int)) i (j + 1) := by
  have hkk : ((k.toNat : Nat) : Int) = k := by omega
  have hnot : ¬ k ∈ kidsTo e i j := by
    rcases h.val _ _ hv with ⟨_, h1⟩ | ⟨h1, _⟩
    · rwa [hkk] at h1
    · omega
  have hst := kidsTo_step hx hk
  refine ⟨by rw [List.length_set, h.len], ?_, fun m u hm => ?_, h.dn⟩
  · rw [hst]
    refine List.nodup_append.2 ⟨h.nd, by simp, fun a ha b hb => ?_⟩
    obtain rfl := List.mem_singleton.1 hb
    exact fun e => hnot (e ▸ ha)
  · rw [List.getElem?_set] at hm
    rw [hst]
    by_cases e1 : k.toNat = m
    · rw [if_pos e1] at hm
      split at hm
      · obtain rfl := Option.some.inj hm
        refine .inr ⟨by omega, by rw [← e1, hkk]; simp, ?_⟩
        refine ⟨j, x, by simpa using hx, by rw [← e1, hkk]; exact hk⟩
      · cases hm
    · rw [if_neg e1] at hm
      rcases h.val m u hm with ⟨h1, h2⟩ | ⟨h1, h2, h3⟩
      · refine .inl ⟨h1, fun h4 => ?_⟩
        rcases List.mem_append.1 h4 with h4 | h4
        · exact h2 h4
        · have := List.mem_singleton.1 h4
          omega
      · exact .inr ⟨h1, List.mem_append.2 (.inl h2), h3⟩
theorem PI.next {e : List Ex} {P : List Int} {i : Nat} {x : Ex} (h : PI e P i x.kids.length) (hx : e[i]? = some x) (hd : ∀ k ∈ x.kids, 0 ≤ k ∧ k < (i : Int)) : PI e P (i + 1) 0 where
  len := h.len
  nd := by rw [kidsTo_next hx]; exact h.nd
  val := by rw [kidsTo_next hx]; exact h.val
  dn := fun a y ha hy => by
    by_cases e1 : a = i
    · subst e1
      rw [hx] at hy
      obtain rfl := Option.some.inj hy
      exact hd
    · exact h.dn a y (by omega) hy
/-- a kid that already has a parent: no tree -/
theorem PI.twice {e : List Ex} {P : List Int} {i j : Nat} {x : Ex} {k : Int} (h : PI e P i j) (hx : e[i]? = some x) (hk : x.kids[j]? = some k) (h0 : 0 ≤ k) (hi : k < (i : Int)) {v : Int} (hv : P[k.toNat]? = some v) (hv0 : 0 ≤ v) : ¬ TreeP e := fun hg => by
  have hkk : ((k.toNat : Nat) : Int) = k := by omega
  have hin : k ∈ kidsTo e i j := by
    rcases h.val _ _ hv with ⟨h1, _⟩ | ⟨_, h1, _⟩
    · omega
    · rwa [hkk] at h1
  have hil := (List.getElem?_eq_some_iff.1 hx).1
  have h1 := hg.2.2 k.toNat (by omega)
  rw [hkk] at h1
  obtain ⟨r, hr⟩ := kidsTo_all (j := j + 1) hx
  rw [hr, kidsTo_step hx hk, List.count_append, List.count_append] at h1
  have := List.count_pos_iff.2 hin
  simp at h1
  omega
theorem PI.all {e : List Ex} {P : List Int} (h : PI e P e.length 0) : Down e := fun i x hx => h.dn i x (List.getElem?_eq_some_iff.1 hx).1 hx
theorem PI.good {e : List Ex} {P : List Int} (h : PI e P e.length 0) (h0 : 0 < e.length) (hp : ∀ (k : Nat) (v : Int), k + 1 < e.length → P[k]? = some v → 0 ≤ v) : TreeP e := by
  refine ⟨h0, h.all, fun i hi => ?_⟩
  obtain ⟨v, hv⟩ : ∃ v, P[i]? = some v := ⟨_, List.getElem?_eq_getElem (by rw [h.len]; omega)⟩
  have h1 := hp i v hi hv
  have hnd := h.nd
  rcases h.val i v hv with ⟨h2, _⟩ | ⟨_, h2, _⟩
  · omega
  · rw [kidsTo_end] at h2 hnd
    have h3 := List.count_pos_iff.2 h2
    have h4 := (List.nodup_iff_count.1 hnd) (i : Int)
    omega
theorem PI.bad {e : List Ex} {P : List Int} (h : PI e P e.length 0) {k : Nat} {v : Int} (hk : k + 1 < e.length) (hv : P[k]? = some v) (h0 : v < 0) : ¬ TreeP e := fun hg => by
  rcases h.val k v hv with ⟨_, h2⟩ | ⟨h2, _⟩
  · rw [kidsTo_end] at h2
    have h3 := hg.2.2 k hk
    have := List.count_eq_zero.2 h2
    omega
  · omega
/-- the list of the parents -/
structure Parents (e : List Ex) (P : List Int) : Prop where
  len : P.length = e.length
  par : ∀ k p m, Par e k p m → P[k]? = some (p : Int)
  root : P[e.length - 1]? = some (-1)
theorem PI.parents {e : List Ex} {P : List Int} (h : PI e P e.length 0) (hg : TreeP e) : Parents e P where
  len := h.len
  par := fun k p m hp => by
    have hl := hp.lt hg.2.1
    obtain ⟨v, hv⟩ : ∃ v, P[k]? = some v := ⟨_, List.getElem?_eq_getElem (by rw [h.len]; omega)⟩
    obtain ⟨x, hx, hk⟩ := hp
    rcases h.val k v hv with ⟨_, h2⟩ | ⟨h1, _, m', hp'⟩
    · rw [kidsTo_end] at h2
      exact absurd (mem_kidsAll.2 ⟨p, x, hx, List.mem_of_getElem? hk⟩) h2
    · obtain ⟨e1, e2⟩ := hg.tree.uniq k p m v.toNat m' ⟨x, hx, hk⟩ hp'
      rw [hv]
      congr 1
      omega
  root := by
    have h0 := hg.1
    obtain ⟨v, hv⟩ : ∃ v, P[e.length - 1]? = some v := ⟨_, List.getElem?_eq_getElem (by rw [h.len]; omega)⟩
    rcases h.val _ v hv with ⟨h1, _⟩ | ⟨_, _, m, hp⟩
    · rw [hv, h1]
    · have := hp.lt hg.2.1
      omega

/-! ### depths -/
inductive UnderN (e : List Ex) : Nat → Nat → Nat → Prop where
  | here {i : Nat} : UnderN e i i 0
  | up {i p m j d : Nat} (hp : Par e i p m) (h : UnderN e p j d) : UnderN e i j (d + 1)
theorem UnderN.le {e : List Ex} (hd : Down e) {i j d : Nat} (h : UnderN e i j d) : i + d ≤ j := by
  induction h with
  | here => omega
  | up hp _ ih => have := hp.lt hd; omega
theorem UnderN.down {e : List Ex} {i k j m d : Nat} (h : UnderN e i k d) (hp : Par e k j m) : UnderN e i j (d + 1) := by
  induction h with
  | here => exact .up hp .here
  | up hp' _ ih => exact .up hp' (ih hp)
theorem UnderN.uniq {e : List Ex} (ht : IsTree e) {i j d d' : Nat} (h : UnderN e i j d) (h' : UnderN e i j d') : d = d' := by
  induction h generalizing d' with
  | here =>
    cases h' with
    | here => rfl
    | up hp h2 => have := h2.le ht.down; have := (hp.lt ht.down).1; omega
  | up hp h ih =>
    cases h' with
    | here => have := h.le ht.down; have := (hp.lt ht.down).1; omega
    | up hp2 h2 =>
      obtain ⟨rfl, rfl⟩ := ht.uniq _ _ _ _ _ hp hp2
      rw [ih h2]
theorem high_kid {e : List Ex} (hd : Down e) {i p m : Nat} (hp : Par e i p m) : high (grow e i) + 1 ≤ high (grow e p) := by
  obtain ⟨x, hx, hk⟩ := hp
  rw [high_eq hx (hd p x hx)]
  have h1 : mx e x (m + 1) ≤ mx e x x.kids.length := by
    unfold mx
    have : (x.kids.take x.kids.length).map (fun k => grow e k.toNat) = (x.kids.take (m + 1)).map (fun k => grow e k.toNat) ++ ((x.kids.take x.kids.length).drop (m + 1)).map fun k => grow e k.toNat := by
      rw [← List.map_append]
      congr 1
      rw [List.take_length, List.take_append_drop]
    rw [this, highs_append]
    omega
  rw [mx_succ hk] at h1
  simp at h1
  omega
theorem high_ge {e : List Ex} (hd : Down e) {i j d : Nat} (h : UnderN e i j d) : high (grow e i) + d ≤ high (grow e j) := by
  induction h with
  | here => omega
  | up hp _ ih => have := high_kid hd hp; omega
theorem highs_ex : ∀ {l : List Tr}, highs l = 0 ∨ ∃ (m : Nat) (t : Tr), l[m]? = some t ∧ high t = highs l
  | [] => .inl rfl
  | t :: r => by
    rw [highs]
    rcases highs_ex (l := r) with h | ⟨m, u, h1, h2⟩
    · right
      exact ⟨0, t, rfl, by omega⟩
    · by_cases hc : highs r ≤ high t
      · exact .inr ⟨0, t, rfl, by omega⟩
      · exact .inr ⟨m + 1, u, by simpa using h1, by omega⟩
theorem high_ex {e : List Ex} (hd : Down e) : ∀ (i : Nat), i < e.length → ∃ j d, j < e.length ∧ UnderN e j i d ∧ d + 1 = high (grow e i) := by
  intro i
  induction i using Nat.strongRecOn with
  | _ i ih =>
    intro hi
    have hx : e[i]? = some e[i] := List.getElem?_eq_getElem hi
    have hks := hd i _ hx
    rw [high_eq hx hks]
    unfold mx
    rw [List.take_length]
    rcases highs_ex (l := e[i].kids.map fun k => grow e k.toNat) with h | ⟨m, t, h1, h2⟩
    · exact ⟨i, 0, hi, .here, by omega⟩
    · rw [List.getElem?_map] at h1
      cases hk : (e[i].kids)[m]? with
      | none => simp [hk] at h1
      | some k =>
        simp only [hk, Option.map_some, Option.some.injEq] at h1
        subst h1
        have hlt := hks k (List.mem_of_getElem? hk)
        have hkn : ((k.toNat : Nat) : Int) = k := by omega
        obtain ⟨j, d, hj, hu, hh⟩ := ih k.toNat (by omega) (by omega)
        exact ⟨j, d + 1, hj, hu.down ⟨_, hx, by rw [hkn]; exact hk⟩, by omega⟩
/-- the length of the way up -/
def dep (e : List Ex) (P : List Int) (i : Nat) : Nat :=
  match P[i]? with
  | some p => if h : 0 ≤ p ∧ i < p.toNat ∧ p.toNat < e.length then dep e P p.toNat + 1 else 1
  | none => 1
termination_by e.length - i
theorem dep_root {e : List Ex} {P : List Int} {i : Nat} (h : P[i]? = some (-1)) : dep e P i = 1 := by
  rw [dep, h]
  simp
theorem dep_up {e : List Ex} {P : List Int} {i : Nat} {p : Int} (h : P[i]? = some p) (h0 : 0 ≤ p ∧ i < p.toNat ∧ p.toNat < e.length) : dep e P i = dep e P p.toNat + 1 := by
  rw [dep, h]
  simp only [h0, and_self, dif_pos]
def depths (e : List Ex) (P : List Int) (n : Nat) : Nat := (List.range n).foldl (fun m i => max m (dep e P i)) 0
theorem depths_succ (e : List Ex) (P : List Int) (n : Nat) : depths e P (n + 1) = max (depths e P n) (dep e P n) := by
  unfold depths
  rw [List.range_succ, List.foldl_append]
  rfl
theorem dep_under {e : List Ex} {P : List Int} (ht : IsTree e) (hP : Parents e P) : ∀ {i : Nat}, i < e.length → ∃ d, UnderN e i (e.length - 1) d ∧ dep e P i = d + 1 := by
  intro i hi
  induction hm : e.length - i using Nat.strongRecOn generalizing i with
  | _ m ih =>
    by_cases hl : i + 1 < e.length
    · obtain ⟨p, q, hp⟩ := ht.one i hl
      have hlt := hp.lt ht.down
      obtain ⟨d, hu, hd⟩ := ih (e.length - p) (by omega) hlt.2 rfl
      refine ⟨d + 1, .up hp hu, ?_⟩
      rw [dep_up (hP.par i p q hp) (by omega)]
      simp only [Int.toNat_natCast]
      rw [hd]
    · have hi1 : i = e.length - 1 := by omega
      rw [hi1]
      exact ⟨0, .here, dep_root hP.root⟩
theorem depths_le {e : List Ex} {P : List Int} (ht : IsTree e) (hP : Parents e P) (h0 : 0 < e.length) : ∀ {n : Nat}, n ≤ e.length → depths e P n ≤ high (grow e (e.length - 1))
  | 0, _ => Nat.zero_le _
  | n + 1, h => by
    rw [depths_succ]
    have h1 := depths_le ht hP h0 (n := n) (by omega)
    obtain ⟨d, hu, hd⟩ := dep_under ht hP (i := n) (by omega)
    have h2 := high_ge ht.down hu
    have h3 : 0 < high (grow e n) := by
      have hx : e[n]? = some e[n] := List.getElem?_eq_getElem (by omega)
      rw [high_eq hx (ht.down n _ hx)]
      omega
    omega
theorem depths_ge {e : List Ex} {P : List Int} : ∀ {n i : Nat}, i < n → dep e P i ≤ depths e P n
  | n + 1, i, h => by
    rw [depths_succ]
    by_cases e1 : i = n
    · subst e1
      omega
    · have := depths_ge (e := e) (P := P) (n := n) (i := i) (by omega)
      omega
theorem depths_high {e : List Ex} {P : List Int} (ht : IsTree e) (hP : Parents e P) (h0 : 0 < e.length) : depths e P e.length = high (grow e (e.length - 1)) := by
  have h1 := depths_le ht hP h0 (Nat.le_refl _)
  obtain ⟨j, d, hj, hu, hh⟩ := high_ex ht.down (e.length - 1) (by omega)
  obtain ⟨d', hu', hd'⟩ := dep_under ht hP hj
  have := UnderN.uniq ht hu hu'
  have := depths_ge (e := e) (P := P) hj
  omega

/-! ### binders -/
def hitK (x : Ex) (i : Nat) (n : Int) (m : Nat) : Bool := decide (x.kids[m]? = some (i : Int)) && decide (n ∈ scopeX x m)
def hit (x : Ex) (i : Nat) (n : Int) : Bool := (List.range x.kids.length).any (hitK x i n)
def bnd (e : List Ex) (P : List Int) (n : Int) (i : Nat) : Int :=
  match P[i]? with
  | some p => if h : 0 ≤ p ∧ i < p.toNat ∧ p.toNat < e.length then (if hit (e.getD p.toNat ⟨0, 0, [], [], []⟩) i n then p else bnd e P n p.toNat) else -1
  | none => -1
termination_by e.length - i
theorem bnd_root {e : List Ex} {P : List Int} {n : Int} {i : Nat} (h : P[i]? = some (-1)) : bnd e P n i = -1 := by
  rw [bnd, h]
  simp
theorem bnd_up {e : List Ex} {P : List Int} {n : Int} {i p : Nat} {x : Ex} (h : P[i]? = some (p : Int)) (h0 : i < p) (hx : e[p]? = some x) : bnd e P n i = if hit x i n then (p : Int) else bnd e P n p := by
  have hl := (List.getElem?_eq_some_iff.1 hx).1
  rw [bnd, h]
  simp only [Int.toNat_natCast]
  rw [dif_pos ⟨by omega, h0, hl⟩]
  simp only [List.getD, hx, Option.getD_some]
theorem hit_par {e : List Ex} (ht : IsTree e) {i p m : Nat} {x : Ex} (hp : Par e i p m) (hx : e[p]? = some x) (n : Int) : hit x i n = true ↔ n ∈ scopeX x m := by
  obtain ⟨x', hx', hk⟩ := hp
  rw [hx] at hx'
  obtain rfl := Option.some.inj hx'
  unfold hit
  rw [List.any_eq_true]
  constructor
  · rintro ⟨m', hm', hh⟩
    unfold hitK at hh
    simp only [Bool.and_eq_true, decide_eq_true_eq] at hh
    obtain ⟨_, rfl⟩ := ht.uniq i p m p m' ⟨x, hx, hk⟩ ⟨x, hx, hh.1⟩
    exact hh.2
  · intro h
    refine ⟨m, List.mem_range.2 (List.getElem?_eq_some_iff.1 hk).1, ?_⟩
    unfold hitK
    simp only [Bool.and_eq_true, decide_eq_true_eq]
    exact ⟨hk, h⟩
/-- what the way up finds -/
theorem bnd_spec {e : List Ex} {P : List Int} (ht : IsTree e) (hP : Parents e P) (n : Int) : ∀ {i : Nat}, i < e.length →
    (bnd e P n i = -1 ∧ ∀ sc, Under e i (e.length - 1) sc → ¬ n ∈ sc) ∨ ∃ (k p m : Nat) (x : Ex) (sc : List Int), bnd e P n i = (p : Int) ∧ Under e i k sc ∧ ¬ n ∈ sc ∧ Par e k p m ∧ e[p]? = some x ∧ n ∈ scopeX x m := by
  intro i hi
  induction hm : e.length - i using Nat.strongRecOn generalizing i with
  | _ N ih =>
    by_cases hl : i + 1 < e.length
    · obtain ⟨p, m, hp⟩ := ht.one i hl
      have hlt := hp.lt ht.down
      obtain ⟨x, hx, hk⟩ := hp
      have hp : Par e i p m := ⟨x, hx, hk⟩
      rw [bnd_up (hP.par i p m hp) hlt.1 hx]
      by_cases hh : hit x i n = true
      · rw [if_pos hh]
        exact .inr ⟨i, p, m, x, [], rfl, .here, by simp, hp, hx, (hit_par ht hp hx n).1 hh⟩
      · rw [if_neg hh]
        have hns : ¬ n ∈ scopeX x m := fun h => hh ((hit_par ht hp hx n).2 h)
        rcases ih (e.length - p) (by omega) hlt.2 rfl with ⟨h1, h2⟩ | ⟨k, p', m', x', sc, h1, h2, h3, h4, h5, h6⟩
        · refine .inl ⟨h1, fun sc hu => ?_⟩
          cases hu with
          | here => simp
          | up hp2 hx2 hu2 =>
            obtain ⟨rfl, rfl⟩ := ht.uniq _ _ _ _ _ hp hp2
            rw [hx] at hx2
            obtain rfl := Option.some.inj hx2
            rw [List.mem_append]
            rintro (h | h)
            · exact hns h
            · exact h2 _ hu2 h
        · refine .inr ⟨k, p', m', x', scopeX x m ++ sc, h1, .up hp hx h2, ?_, h4, h5, h6⟩
          rw [List.mem_append]
          rintro (h | h)
          · exact hns h
          · exact h3 h
    · have hi1 : i = e.length - 1 := by omega
      rw [hi1]
      refine .inl ⟨bnd_root hP.root, fun sc hu => ?_⟩
      cases hu with
      | here => simp
      | up hp2 hx2 hu2 =>
        have := hu2.le ht.down
        have := hp2.lt ht.down
        omega
theorem Under.append {e : List Ex} {i j k : Nat} {sc sc' : List Int} (h : Under e i j sc) (h' : Under e j k sc') : Under e i k (sc ++ sc') := by
  induction h with
  | here => simpa using h'
  | up hp hx _ ih =>
    have := Under.up hp hx (ih h')
    simpa [List.append_assoc] using this
theorem bnd_neg {e : List Ex} {P : List Int} (ht : IsTree e) (hP : Parents e P) (n : Int) {i : Nat} (hi : i < e.length) : bnd e P n i < 0 ↔ ∀ sc, Under e i (e.length - 1) sc → ¬ n ∈ sc := by
  rcases bnd_spec ht hP n hi with ⟨h1, h2⟩ | ⟨k, p, m, x, sc, h1, h2, h3, h4, h5, h6⟩
  · rw [h1]
    exact ⟨fun _ => h2, fun _ => by omega⟩
  · rw [h1]
    constructor
    · intro h
      omega
    · intro h
      obtain ⟨sc', hu⟩ := ht.root (h4.lt ht.down).2
      have h7 := h _ (h2.append (.up h4 h5 hu))
      exact absurd (by simp [h6]) h7
end Go.Co

/- Plain: what stands at or below a node, and how many. No program in sight. No condition. -/
namespace Go.Co
set_option linter.unusedVariables false
set_option linter.unusedSimpArgs false
def Bel (e : List Ex) (at_ i : Nat) : Prop := ∃ sc, Under e i at_ sc
theorem Bel.le {e : List Ex} (hd : Down e) {a i : Nat} (h : Bel e a i) : i ≤ a := h.choose_spec.le hd
theorem Bel.cases {e : List Ex} {a i : Nat} : Bel e a i ↔ i = a ∨ ∃ p m, Par e i p m ∧ Bel e a p := by
  constructor
  · rintro ⟨sc, h⟩
    cases h with
    | here => exact .inl rfl
    | up hp hx h => exact .inr ⟨_, _, hp, _, h⟩
  · rintro (rfl | ⟨p, m, hp, sc, h⟩)
    · exact ⟨[], .here⟩
    · obtain ⟨x, hx, hk⟩ := hp
      exact ⟨_, .up ⟨x, hx, hk⟩ hx h⟩
/-- the marks so far: nodes c and above are done, and j kids of node c - 1 -/
def BelS (e : List Ex) (a c j k : Nat) : Prop := k = a ∨ ∃ p m, Par e k p m ∧ (c ≤ p ∨ (p + 1 = c ∧ m < j)) ∧ Bel e a p
structure BI (e : List Ex) (a : Nat) (B : List Bool) (c j : Nat) : Prop where
  len : B.length = e.length
  val : ∀ k : Nat, k < e.length → (B[k]? = some true ↔ BelS e a c j k)
theorem BelS.at {e : List Ex} (hd : Down e) {a i j : Nat} : BelS e a (i + 1) j i ↔ Bel e a i := by
  rw [Bel.cases]
  refine or_congr Iff.rfl ⟨fun ⟨p, m, h1, _, h3⟩ => ⟨p, m, h1, h3⟩, fun ⟨p, m, h1, h3⟩ => ⟨p, m, h1, .inl ?_, h3⟩⟩
  have := h1.lt hd
  omega
theorem BI.start {e : List Ex} (hd : Down e) {a : Nat} (ha : a < e.length) : BI e a ((List.replicate e.length false).set a true) (a + 1) 0 where
  len := by simp
  val := fun k hk => by
    rw [List.getElem?_set, List.length_replicate]
    by_cases e1 : a = k
    · subst e1
      simp [ha, BelS]
    · rw [if_neg e1, List.getElem?_replicate, if_pos hk]
      refine ⟨fun h => by simp at h, fun h => ?_⟩
      rcases h with h | ⟨p, m, _, h2, h3⟩
      · omega
      · have := h3.le hd
        omega
theorem BI.at {e : List Ex} (hd : Down e) {a i j : Nat} {B : List Bool} (h : BI e a B (i + 1) j) (hi : i < e.length) : B[i]? = some true ↔ Bel e a i := (h.val i hi).trans (BelS.at hd)
theorem BI.step {e : List Ex} (hd : Down e) {a i j : Nat} {B : List Bool} (h : BI e a B (i + 1) j) {x : Ex} {k : Nat} {u v : Bool} (hx : e[i]? = some x) (hk : x.kids[j]? = some (k : Int)) (hu : B[k]? = some u) (hv : B[i]? = some v) : BI e a (B.set k (u || v)) (i + 1) (j + 1) where
  len := by rw [List.length_set, h.len]
  val := fun n hn => by
    have hi := (List.getElem?_eq_some_iff.1 hx).1
    have hp : Par e k i j := ⟨x, hx, hk⟩
    have hki := hp.lt hd
    rw [List.getElem?_set]
    have hmono : BelS e a (i + 1) j n → BelS e a (i + 1) (j + 1) n := by
      rintro (h1 | ⟨p, m, h1, h2, h3⟩)
      · exact .inl h1
      · exact .inr ⟨p, m, h1, by omega, h3⟩
    by_cases e1 : k = n
    · subst e1
      rw [if_pos rfl, if_pos (by rw [h.len]; exact hn)]
      have h1 := h.val k hn
      have h2 := h.at hd hi
      rw [hu] at h1
      rw [hv] at h2
      constructor
      · intro h3
        simp only [Option.some.injEq, Bool.or_eq_true] at h3
        rcases h3 with rfl | rfl
        · exact hmono (h1.1 rfl)
        · exact .inr ⟨i, j, hp, .inr ⟨rfl, by omega⟩, h2.1 rfl⟩
      · intro h3
        simp only [Option.some.injEq, Bool.or_eq_true]
        rcases h3 with h3 | ⟨p, m, h3, h4, h5⟩
        · exact .inl (Option.some.inj (h1.2 (.inl h3)))
        · by_cases e2 : p = i ∧ m = j
          · obtain ⟨rfl, rfl⟩ := e2
            exact .inr (Option.some.inj (h2.2 h5))
          · exact .inl (Option.some.inj (h1.2 (.inr ⟨p, m, h3, by omega, h5⟩)))
    · rw [if_neg e1, h.val n hn]
      refine ⟨hmono, ?_⟩
      rintro (h1 | ⟨p, m, h1, h2, h3⟩)
      · exact .inl h1
      · refine .inr ⟨p, m, h1, ?_, h3⟩
        by_cases e2 : p = i ∧ m = j
        · obtain ⟨rfl, rfl⟩ := e2
          obtain ⟨x', h4, h5⟩ := h1
          rw [hx] at h4
          obtain rfl := Option.some.inj h4
          rw [hk] at h5
          exact absurd (by simp at h5; omega) e1
        · omega
theorem BI.next {e : List Ex} {a i : Nat} {B : List Bool} {x : Ex} (hx : e[i]? = some x) (h : BI e a B (i + 1) x.kids.length) : BI e a B i 0 where
  len := h.len
  val := fun n hn => by
    rw [h.val n hn]
    refine or_congr Iff.rfl ⟨fun ⟨p, m, h1, h2, h3⟩ => ⟨p, m, h1, by omega, h3⟩, fun ⟨p, m, h1, h2, h3⟩ => ⟨p, m, h1, ?_, h3⟩⟩
    by_cases e1 : p = i
    · subst e1
      obtain ⟨x', h4, h5⟩ := h1
      rw [hx] at h4
      obtain rfl := Option.some.inj h4
      exact .inr ⟨rfl, (List.getElem?_eq_some_iff.1 h5).1⟩
    · omega
theorem BI.end_ {e : List Ex} {a : Nat} {B : List Bool} (h : BI e a B 0 0) {n : Nat} (hn : n < e.length) : B[n]? = some true ↔ Bel e a n := by
  rw [h.val n hn, Bel.cases]
  exact or_congr Iff.rfl ⟨fun ⟨p, m, h1, _, h3⟩ => ⟨p, m, h1, h3⟩, fun ⟨p, m, h1, h3⟩ => ⟨p, m, h1, .inl (by omega), h3⟩⟩
/-! ### how many -/
def ids (e : List Ex) (i : Nat) : List Nat := i :: (match e[i]? with
  | none => []
  | some x => x.kids.flatMap fun k => if h : k.toNat < i then ids e k.toNat else [])
theorem ids_eq {e : List Ex} (h : Down e) {i : Nat} {x : Ex} (hx : e[i]? = some x) : ids e i = i :: x.kids.flatMap fun k => ids e k.toNat := by
  rw [ids, hx]
  simp only [List.cons.injEq, true_and]
  have hk : ∀ k ∈ x.kids, (if h : k.toNat < i then ids e k.toNat else []) = ids e k.toNat := fun k hk => by
    have := h i x hx k hk
    rw [dif_pos (by omega)]
  generalize x.kids = l at hk
  induction l with
  | nil => rfl
  | cons a r ih =>
    rw [List.flatMap_cons, List.flatMap_cons, hk a (.head _), ih fun k hm => hk k (.tail _ hm)]
theorem under_lin {e : List Ex} (ht : IsTree e) {x k : Nat} {sc : List Int} (h : Under e x k sc) : ∀ {k' : Nat} {sc' : List Int}, Under e x k' sc' → k ≤ k' → Bel e k' k := by
  induction h with
  | here => exact fun h2 _ => ⟨_, h2⟩
  | up hp hx h ih =>
    intro k' sc' h2 hle
    cases h2 with
    | here =>
      have := h.le ht.down
      have := hp.lt ht.down
      omega
    | up hp2 hx2 h2 =>
      obtain ⟨rfl, rfl⟩ := ht.uniq _ _ _ _ _ hp hp2
      exact ih h2 hle
theorem not_both {e : List Ex} (ht : IsTree e) {x i k k' m m' : Nat} (h : Bel e k x) (h' : Bel e k' x) (hp : Par e k i m) (hp' : Par e k' i m') (hlt : k < k') : False := by
  obtain ⟨sc, h⟩ := h
  obtain ⟨sc', h'⟩ := h'
  have h1 := under_lin ht h h' (by omega)
  rcases Bel.cases.1 h1 with h2 | ⟨p, q, h2, h3⟩
  · omega
  · obtain ⟨rfl, rfl⟩ := ht.uniq _ _ _ _ _ hp h2
    have := h3.le ht.down
    have := hp'.lt ht.down
    omega
theorem mem_ids {e : List Ex} (ht : IsTree e) : ∀ {i : Nat}, i < e.length → ∀ {n : Nat}, n ∈ ids e i ↔ Bel e i n := by
  intro i
  induction i using Nat.strongRecOn with
  | _ i ih =>
    intro hi n
    have hx : e[i]? = some e[i] := List.getElem?_eq_getElem hi
    rw [ids_eq ht.down hx, List.mem_cons, List.mem_flatMap]
    constructor
    · rintro (rfl | ⟨k, hk, hn⟩)
      · exact ⟨[], .here⟩
      · have hr := ht.down i _ hx k hk
        obtain ⟨sc, h⟩ := (ih k.toNat (by omega) (by omega)).1 hn
        obtain ⟨m, hm⟩ := List.getElem?_of_mem hk
        exact ⟨_, h.down ⟨_, hx, by rw [show ((k.toNat : Nat) : Int) = k by omega]; exact hm⟩ hx⟩
    · rintro ⟨sc, h⟩
      rcases h.split with ⟨h1, _⟩ | ⟨k, m, x, sc', h1, h2, h3, _⟩
      · exact .inl h1
      · right
        obtain ⟨y, h4, h5⟩ := h2
        rw [hx] at h4
        obtain rfl := Option.some.inj h4
        have hr := ht.down i _ hx k (List.mem_of_getElem? h5)
        refine ⟨k, List.mem_of_getElem? h5, ?_⟩
        rw [Int.toNat_natCast]
        exact (ih k (by omega) (by omega)).2 ⟨_, h1⟩
theorem kids_nodup2 {e : List Ex} (ht : IsTree e) {i : Nat} {x : Ex} (hx : e[i]? = some x) : x.kids.Nodup := by
  refine List.pairwise_iff_getElem.2 fun a b ha hb hab he => ?_
  have h1 := ht.down i x hx x.kids[a] (List.getElem_mem ha)
  have e1 : x.kids[a]? = some ((x.kids[a].toNat : Nat) : Int) := by rw [List.getElem?_eq_getElem ha]; congr 1; omega
  have e2 : x.kids[b]? = some ((x.kids[a].toNat : Nat) : Int) := by rw [List.getElem?_eq_getElem hb, ← he]; congr 1; omega
  have := ht.uniq _ i a i b ⟨x, hx, e1⟩ ⟨x, hx, e2⟩
  omega
theorem ids_nodup {e : List Ex} (ht : IsTree e) : ∀ {i : Nat}, i < e.length → (ids e i).Nodup := by
  intro i
  induction i using Nat.strongRecOn with
  | _ i ih =>
    intro hi
    have hx : e[i]? = some e[i] := List.getElem?_eq_getElem hi
    have hd := ht.down i _ hx
    rw [ids_eq ht.down hx, List.nodup_cons]
    refine ⟨fun h => ?_, ?_⟩
    · obtain ⟨k, hk, hn⟩ := List.mem_flatMap.1 h
      have hr := hd k hk
      have := ((mem_ids ht (by omega)).1 hn).le ht.down
      omega
    · refine List.pairwise_flatMap.2 ⟨fun k hk => ?_, ?_⟩
      · have hr := hd k hk
        exact ih k.toNat (by omega) (by omega)
      · refine List.pairwise_iff_getElem.2 fun a b ha hb hab n hn n' hn' he => ?_
        subst he
        have hra := hd _ (List.getElem_mem ha)
        have hrb := hd _ (List.getElem_mem hb)
        have h1 := (mem_ids ht (by omega)).1 hn
        have h2 := (mem_ids ht (by omega)).1 hn'
        have hpa : Par e (e[i].kids[a]).toNat i a := ⟨_, hx, by rw [List.getElem?_eq_getElem ha]; congr 1; omega⟩
        have hpb : Par e (e[i].kids[b]).toNat i b := ⟨_, hx, by rw [List.getElem?_eq_getElem hb]; congr 1; omega⟩
        rcases Nat.lt_trichotomy (e[i].kids[a]).toNat (e[i].kids[b]).toNat with h3 | h3 | h3
        · exact not_both ht h1 h2 hpa hpb h3
        · have := List.pairwise_iff_getElem.1 (kids_nodup2 ht hx) a b ha hb hab
          omega
        · exact not_both ht h2 h1 hpb hpa h3
/-- the places of the marks -/
def posT : List Bool → Nat → List Nat
  | [], _ => []
  | true :: r, i => i :: posT r (i + 1)
  | false :: r, i => posT r (i + 1)
theorem posT_len : ∀ (B : List Bool) (i : Nat), (posT B i).length = B.count true
  | [], _ => rfl
  | true :: r, i => by simp [posT, posT_len r]
  | false :: r, i => by simp [posT, posT_len r]
theorem mem_posT {n : Nat} : ∀ {B : List Bool} {i : Nat}, n ∈ posT B i ↔ i ≤ n ∧ B[n - i]? = some true
  | [], i => by simp [posT]
  | b :: r, i => by
    have h2 : (i ≤ n ∧ (b :: r)[n - i]? = some true) ↔ (n = i ∧ b = true) ∨ (i + 1 ≤ n ∧ r[n - (i + 1)]? = some true) := by
      by_cases h : n = i
      · subst h
        simp
        omega
      · by_cases h3 : i < n
        · rw [show n - i = (n - (i + 1)) + 1 by omega]
          simp only [List.getElem?_cons_succ]
          constructor
          · exact fun h4 => .inr ⟨by omega, h4.2⟩
          · rintro (h4 | h4)
            · exact absurd h4.1 h
            · exact ⟨by omega, h4.2⟩
        · constructor
          · exact fun h4 => by omega
          · rintro (h4 | h4) <;> omega
    rw [h2]
    cases b with
    | true => simp [posT, mem_posT (B := r) (i := i + 1)]
    | false => simp [posT, mem_posT (B := r) (i := i + 1)]
theorem posT_nodup : ∀ (B : List Bool) (i : Nat), (posT B i).Nodup
  | [], _ => by simp [posT]
  | true :: r, i => by
    rw [posT, List.nodup_cons]
    exact ⟨fun h => by have := (mem_posT.1 h).1; omega, posT_nodup r _⟩
  | false :: r, i => by rw [posT]; exact posT_nodup r _
theorem nodup_le_ {α : Type} : ∀ {l m : List α}, l.Nodup → (∀ x ∈ l, x ∈ m) → l.length ≤ m.length
  | [], _, _, _ => by simp
  | x :: r, m, hn, hs => by
    have hx := hs x (.head _)
    obtain ⟨m1, m2, rfl⟩ := List.append_of_mem hx
    rw [List.nodup_cons] at hn
    have := nodup_le_ (l := r) (m := m1 ++ m2) hn.2 (fun y hy => by
      have h1 := hs y (.tail _ hy)
      have h2 : y ≠ x := fun e => hn.1 (e ▸ hy)
      simp at h1 ⊢
      rcases h1 with h1 | h1 | h1
      · exact .inl h1
      · exact absurd h1 h2
      · exact .inr h1)
    simp at this ⊢
    omega
theorem count_ids {e : List Ex} (ht : IsTree e) {a : Nat} {B : List Bool} (ha : a < e.length) (h : BI e a B 0 0) : B.count true = (ids e a).length := by
  rw [← posT_len B 0]
  have hm : ∀ n, n ∈ posT B 0 ↔ n ∈ ids e a := fun n => by
    rw [mem_posT, mem_ids ht ha]
    simp only [Nat.zero_le, true_and, Nat.sub_zero]
    by_cases hn : n < e.length
    · exact h.end_ hn
    · rw [List.getElem?_eq_none (by rw [h.len]; omega)]
      refine ⟨fun h => (by cases h), fun h1 => ?_⟩
      have := h1.le ht.down
      omega
  have h1 := nodup_le_ (posT_nodup B 0) fun n hn => (hm n).1 hn
  have h2 := nodup_le_ (ids_nodup ht ha) fun n hn => (hm n).2 hn
  omega
end Go.Co

/- Plain: the number of nodes at or below a node; what a valid expression is. No program in sight. No condition. -/
namespace Go.Co
set_option linter.unusedVariables false
set_option linter.unusedSimpArgs false
theorem tszs_map {e : List Ex} {l : List Int} (h : ∀ k ∈ l, (ids e k.toNat).length = tsz (grow e k.toNat)) : (l.flatMap fun k => ids e k.toNat).length = tszs (l.map fun k => grow e k.toNat) := by
  induction l with
  | nil => rfl
  | cons a r ih =>
    rw [List.flatMap_cons, List.length_append, List.map_cons, tszs, ih fun k hk => h k (.tail _ hk), h a (.head _)]
theorem ids_tsz {e : List Ex} (hd : Down e) : ∀ {i : Nat}, i < e.length → (ids e i).length = tsz (grow e i) := by
  intro i
  induction i using Nat.strongRecOn with
  | _ i ih =>
    intro hi
    have hx : e[i]? = some e[i] := List.getElem?_eq_getElem hi
    rw [ids_eq hd hx, grow_eq hd hx, List.length_cons, tsz, tszs_map]
    intro k hk
    have := hd i _ hx k hk
    exact ih k.toNat (by omega) (by omega)
theorem ids_le {e : List Ex} (ht : IsTree e) {a : Nat} (ha : a < e.length) : (ids e a).length ≤ e.length := by
  have := nodup_le_ (m := List.range e.length) (ids_nodup ht ha) (fun n hn => by
    have := ((mem_ids ht ha).1 hn).le ht.down
    rw [List.mem_range]
    omega)
  rwa [List.length_range] at this
theorem tsz_le {e : List Ex} (ht : IsTree e) {a : Nat} (ha : a < e.length) : tsz (grow e a) ≤ e.length := by
  rw [← ids_tsz ht.down ha]
  exact ids_le ht ha
theorem count_tsz {e : List Ex} (ht : IsTree e) {a : Nat} {B : List Bool} (ha : a < e.length) (h : BI e a B 0 0) : B.count true = tsz (grow e a) := by
  rw [count_ids ht ha h, ids_tsz ht.down ha]
/-- a valid expression -/
structure BodyOk (e : List Ex) (ps : List Int) (flat : Bool) : Prop where
  tree : TreeOk e
  one : ∀ x ∈ e, oneE e flat x = 0
  nd : (ps ++ e.flatMap bindersX).Nodup
  fr : ∀ n ∈ fv (grow e (e.length - 1)) [], n ∈ ps
theorem BodyOk.of {e : List Ex} {ps : List Int} {flat : Bool} (h : bodyE e ps flat = 0) : BodyOk e ps flat := by
  by_cases h1 : treeE e = 0
  · by_cases h2 : firstE (oneE e flat) e = 0
    · by_cases h3 : (ps ++ e.flatMap bindersX).Nodup
      · refine ⟨treeE_ok0 h1, firstE_zero.1 h2, h3, fun n hn => ?_⟩
        by_cases hp : n ∈ ps
        · exact hp
        · rw [bodyE_free h1 h2 h3 hn hp] at h; cases h
      · rw [bodyE_twice h1 h2 h3] at h; cases h
    · rw [bodyE_one h1 h2] at h; exact absurd h h2
  · rw [bodyE_tree h1] at h; exact absurd h h1
theorem BodyOk.node {e : List Ex} {ps : List Int} {flat : Bool} (h : BodyOk e ps flat) {x : Ex} (hx : x ∈ e) : nodeE e x = 0 ∧ flatBad flat x.op = false := by
  have h1 := h.one x hx
  unfold oneE at h1
  split at h1
  · cases h1
  · rename_i h2
    exact ⟨h1, by simpa using h2⟩
theorem BodyOk.kl {e : List Ex} {ps : List Int} {flat : Bool} (h : BodyOk e ps flat) {x : Ex} (hx : x ∈ e) : x.kids.length ≤ 4096 := by
  obtain ⟨i, hi⟩ := List.getElem?_of_mem hx
  have := kids_len h.tree.tree hi
  have := h.tree.len
  omega
theorem BodyOk.lim {e : List Ex} {ps : List Int} {flat : Bool} (h : BodyOk e ps flat) {x : Ex} (hx : x ∈ e) : Lim x := by
  obtain ⟨h3, h4⟩ := nodeE_zero (h.node hx).1
  exact lim_of h3 h4 (h.kl hx)
theorem BodyOk.mk2 {e : List Ex} {ps : List Int} {flat : Bool} (h : treeE e = 0) (h2 : ∀ x ∈ e, oneE e flat x = 0) (h3 : (ps ++ e.flatMap bindersX).Nodup) (h5 : ∀ n ∈ fv (grow e (e.length - 1)) [], n ∈ ps) : bodyE e ps flat = 0 :=
  bodyE_ok h (firstE_zero.2 h2) h3 h5
end Go.Co

/- The walks of core's Size and of the reference's Below and Count. Conditions: none. -/
namespace Go.Co
open Go.Eng Go.RowKit
set_option linter.unusedVariables false
set_option linter.unusedSimpArgs false
noncomputable def atE (e : List Ex) (n : Int) : Int := if bodyE e [] false = 0 then (if 0 ≤ n ∧ n < (e.length : Int) then 0 else 12) else bodyE e [] false
def bls (l : List Bool) : List Value := l.map fun b => .bool b
theorem bls_length (l : List Bool) : (bls l).length = l.length := by simp [bls]
theorem bls_get {l : List Bool} {i : Nat} {b : Bool} (h : l[i]? = some b) : (bls l)[i]? = some (.bool b) := by simp [bls, h]
theorem bls_set (l : List Bool) (i : Nat) (b : Bool) : (bls l).set i (.bool b) = bls (l.set i b) := by simp [bls]
theorem bls_zero (n : Nat) : List.replicate n (Value.bool false) = bls (List.replicate n false) := by simp [bls]
/-- a slice of truth values -/
def BlsO (w : World) (O : Nat → Prop) (l : List Bool) (q : Option Addr) : Prop := 0 < l.length → ∃ a, q = some a ∧ O a.block ∧ CellsAt w a (bls l)
theorem BlsO.stab {w w' : World} {O : Nat → Prop} {l : List Bool} {q : Option Addr} (hk : ∀ k, O k → w'.heap[k]? = w.heap[k]?) (h : BlsO w O l q) : BlsO w' O l q := fun hl => by
  obtain ⟨a, h1, h2, h3⟩ := h hl
  exact ⟨a, h1, h2, cells_stab (hk _ h2) h3⟩
theorem BlsO.mono {w : World} {O O' : Nat → Prop} {l : List Bool} {q : Option Addr} (hk : ∀ k, O k → O' k) (h : BlsO w O l q) : BlsO w O' l q := fun hl => by
  obtain ⟨a, h1, h2, h3⟩ := h hl
  exact ⟨a, h1, hk _ h2, h3⟩
theorem BlsO.get {w : World} {O : Nat → Prop} {l : List Bool} {q : Option Addr} (h : BlsO w O l q) {i : Nat} (hi : i < l.length) : ∃ a u, q = some a ∧ O a.block ∧ l[i]? = some u ∧ w.cell? (a.add (i * 1)) = some (.bool u) := by
  obtain ⟨a, h1, h2, h3⟩ := h (by omega)
  have hu : l[i]? = some l[i] := List.getElem?_eq_getElem hi
  exact ⟨a, l[i], h1, h2, hu, by rw [Nat.mul_one]; exact h3 i _ (bls_get hu)⟩
theorem BlsO.at {w w' : World} {l : List Bool} {q : Option Addr} {H : List Eng.Item} {S : List World} (h : BlsO w (low w) l q) (hw : Cls H S w') (hs : w ∈ S) (hno : ∀ k, k < w.heap.size → NotOwned H k) : BlsO w' (low w') l q :=
  BlsO.mono (hw.up hs) (BlsO.stab (hw.same hs hno) h)
theorem count_take {l : List Bool} {i : Nat} {b : Bool} (h : l[i]? = some b) : (l.take (i + 1)).count true = (l.take i).count true + (if b then 1 else 0) := by
  rw [List.take_add_one, h]
  cases b <;> simp
end Go.Co
namespace Go.Proofs.YtlboppiogeaicaaDoor.co
open Go.RowKit Go.Eng Go.Co
set_option linter.unusedVariables false
set_option linter.unusedSimpArgs false
set_option maxRecDepth 100000
theorem Size_calls (es : List (Ex × ExY)) (q : Option Addr) (cap : Nat) (n : Int) (w : World) (he : Arr exR w (low w) es q) (hlen : es.length ≤ 9223372036854775807) (hcap : es.length ≤ cap) (hg : 1 < w.heap.size) (hs : arityAt w) :
    Calls Tryd.prog 13 [.slice q es.length cap, .int .i64 n].toArray w fun e w' => ∃ c : Int, e = .returned (.tuple #[.int .i64 c, .int .i64 (atE (es.map Prod.fst) n)]) ∧ Ext w w' ∧ (atE (es.map Prod.fst) n ≠ 0 → c = 0) ∧ (atE (es.map Prod.fst) n = 0 → c = (tsz (grow (es.map Prod.fst) n.toNat) : Int)) := by
  obtain ⟨e, hee⟩ : ∃ e, es.map Prod.fst = e := ⟨_, rfl⟩
  have hel : e.length = es.length := by rw [← hee, List.length_map]
  rw [hee]
  refine enter Tryd.func13 rfl Tryd.ntmps13 rfl (Cls.start w) ?_
  (simp only [argEnv, Nat.zero_add, Nat.reduceAdd])
  apply W.sr
  apply oas; rfl; rfl
  apply oas; rfl; rfl
  apply OL.nx
  apply W.seq
  apply W.sr
  apply omv; rfl; rfl
  apply omv; rfl; rfl
  (((first | (with_reducible apply OL.op) | (with_reducible apply QL.op)); (exact Guard.au); rfl; rfl); (exact Pev.call (v := .int .i64 (atE e n)) rfl (by exact Args.au) (fun _ w2 hw2 => (at_calls es q cap n w2 (he.at hw2 (by exact mau) (fun k hk => by exact NotOwned.au)) hlen (Nat.lt_of_lt_of_le hg (hw2.kp w (by exact mau)).size) (hs.at hg hw2 (by exact mau) (fun k hk => by exact NotOwned.au))).mono (fun e1 w3 h => ⟨by rw [h.1, hee, ← hel]; rfl, hw2.ext h.2⟩))))
  apply oas; rfl; rfl
  apply OL.nsr
  apply omv; rfl; rfl
  apply obn; rfl; rfl; rfl; apply Bin.neq
  apply OL.nx
  (refine W.cnd (fun hne => ?_) (fun hne => ?_)) <;> (try (exfalso; first | omega | exact hne trivial | contradiction))
  · apply W.sr
    apply omv; rfl; rfl
    apply oas; rfl; rfl
    apply oas; rfl; rfl
    apply OL.nx
    refine W.rt ?_
    ((with_reducible apply At.fin2); rfl; rfl; rfl; intro w' hw')
    exact ⟨0, rfl, by (exact hw'.fr), fun _ => rfl, fun h => absurd h (by simpa using hne)⟩
  have h0 : atE e n = 0 := by simpa using hne
  have hb0 : bodyE e [] false = 0 := by
    unfold atE at h0
    split at h0
    · assumption
    · exact h0
  have hn : 0 ≤ n ∧ n < (e.length : Int) := by
    unfold atE at h0
    rw [if_pos hb0] at h0
    split at h0
    · assumption
    · cases h0
  obtain ⟨m, rfl⟩ : ∃ m : Nat, n = (m : Int) := ⟨n.toNat, by omega⟩
  have hok := BodyOk.of hb0
  have hm : m < e.length := by omega
  have hl4 := hok.tree.len
  have hts := tsz_le hok.tree.tree hm
  have hin : ∀ p ∈ es, p.1 ∈ e := fun p hp => by rw [← hee]; exact List.mem_map_of_mem hp
  rw [h0]
  apply W.sk
  apply W.sr
  apply omv; rfl; rfl
  apply omv; rfl; rfl
  refine OL.callE (α := Nat × World) (fun z => .pointer (some ⟨z.1, 0, none⟩)) (fun z => TrO z.2 (low z.2) (grow e m) z.1 ∧ w.heap.size ≤ z.2.heap.size) (fun z => Cls [] [z.2, w]) rfl rfl (by exact Args.au) (fun w2 hw2 => (below_calls es q cap m w2 (he.at hw2 (by exact mau) (fun k hk => by exact NotOwned.au)) (by omega) hcap (by omega) (by rw [hee]; exact hok.tree.tree.down) (fun p hp => hok.lim (hin p hp)) (fun p hp => hok.kl (hin p hp))).mono (fun e1 w3 ⟨b, h1, h2, h3⟩ => ⟨(b, w3), h1, ⟨by rw [hee] at h3; exact h3, Nat.le_trans (hw2.kp w (by exact mau)).size h2.size⟩, (hw2.ext h2).note⟩)) ?_
  rintro ⟨bt, w3⟩ ⟨htr, hsz3⟩
  simp only at htr hsz3 ⊢
  (((first | (with_reducible apply OL.op) | (with_reducible apply QL.op)); (exact Guard.au); rfl; rfl); (exact Pev.call rfl (by exact Args.au) (fun _ w2 hw2 => (Count_calls (tsz (grow e m)) (grow e m) bt w2 (Nat.le_refl _) (by omega) (htr.at hw2 (by exact mau) (fun k hk => NotOwned.nil))).mono (fun e w3 h => ⟨h.1, hw2.ext h.2⟩))))
  apply oas; rfl; rfl
  apply oas; rfl; rfl
  apply OL.nx
  apply W.ret
  ((with_reducible apply At.fin2); rfl; rfl; rfl; intro w' hw')
  exact ⟨_, rfl, by (exact hw'.fr), fun h => absurd rfl h, fun _ => by rw [Int.toNat_natCast]⟩
end Go.Proofs.YtlboppiogeaicaaDoor.co

/- What a node does by itself (plain), and the walks of purity's wordly, primEffect, conditional, has and own. Conditions: none. -/
namespace Go.Co
open Go.Eng Go.RowKit
set_option linter.unusedVariables false
set_option linter.unusedSimpArgs false
/-- a node without what is below it -/
structure Sn where
  op : Int
  n : Int
  binds : List Int
def Sn.tr (s : Sn) : Tr := .mk s.op s.n s.binds [] []
def wordS (s : Sn) : Bool := decide (s.op = 1) || (decide (s.op = 8) && (decide (s.n ≤ 4) || decide (s.n = 9)))
def sn0 : Sn := ⟨0, 0, []⟩
def wordsS (ks : List Sn) : Bool := wordS (ks.getD 0 sn0) && (decide (ks.length = 1) || wordS (ks.getD 1 sn0))
def primS (n : Int) (ks : List Sn) : Int :=
  if n = 7 then 3 else if n = 8 ∨ n = 11 then 10 else if n = 10 then 18 else if n = 9 then 2
  else if n = 3 ∨ n = 4 then (if wordsS ks = true ∧ (ks.getD 1 sn0).op = 1 ∧ (ks.getD 1 sn0).n ≠ 0 then 0 else 2)
  else if wordsS ks = true then 0 else 2
def condL : List Al → Nat → Bool
  | [], c => decide (c = 2)
  | a :: r, c => if a.tag = -1 then true else if a.tag ≤ 1 ∧ a.binds.length = 0 then condL r (c + 1) else if a.tag ≤ 1 then false else condL r c
theorem condL_drop {l : List Al} {i c : Nat} {a : Al} (h : l[i]? = some a) : condL (l.drop i) c = if a.tag = -1 then true else if a.tag ≤ 1 ∧ a.binds.length = 0 then condL (l.drop (i + 1)) (c + 1) else if a.tag ≤ 1 then false else condL (l.drop (i + 1)) c := by
  obtain ⟨h1, rfl⟩ := List.getElem?_eq_some_iff.1 h
  rw [List.drop_eq_getElem_cons h1, condL]
def condS (k : Sn) (alts : List Al) : Bool := decide (k.op = 8) && (decide (k.n = 5) || decide (k.n = 6)) && condL alts 0
def ownS (op n : Int) (ks : List Sn) (alts : List Al) : Int :=
  if op = 17 then 2 else if op = 8 then primS n ks
  else if op = 3 then (if (ks.getD 0 sn0).op = 2 ∧ (ks.getD 0 sn0).binds.length + 1 = ks.length then 0 else 63)
  else if op = 7 then (if condS (ks.getD 0 sn0) alts = true then 0 else 2)
  else if op = 10 ∨ op = 11 then (if (ks.getD 0 sn0).op = 9 ∧ (op = 10 → n ∈ (ks.getD 0 sn0).binds) then 0 else 2)
  else if op = 12 then 6 else if op = 13 then 63 else 0
/-- a node's cells, by place -/
theorem TrO.cells {w : World} {O : Nat → Prop} {op n : Int} {binds : List Int} {kids : List Tr} {alts : List Al} {b : Nat} (h : TrO w O (.mk op n binds kids alts) b) :
    ∃ y : ExY, O b ∧ w.cell? ⟨b, 0 + 0, none⟩ = some (.int .i64 op) ∧ w.cell? ⟨b, 0 + 1, none⟩ = some (.int .i64 n) ∧ w.cell? ⟨b, 0 + 2, none⟩ = some (.slice y.b.1 binds.length y.b.2) ∧ w.cell? ⟨b, 0 + 3, none⟩ = some (.slice y.k.1 kids.length y.k.2) ∧ w.cell? ⟨b, 0 + 4, none⟩ = some (.slice y.a.1 alts.length y.a.2) ∧ IntsO w O binds y.b.1 ∧ binds.length ≤ 16 ∧ ArrP altR_ w O alts y.a.1 ∧ alts.length ≤ 4096 ∧ (∀ a ∈ alts, a.binds.length ≤ 16) ∧ (0 < kids.length → ∃ a, y.k.1 = some a ∧ O a.block ∧ TrsO w O kids a) ∧ kids.length ≤ 4096 := by
  simp only [TrO] at h
  obtain ⟨y, hn, hk, hks⟩ := h
  have hc : ∀ {j : Nat} {v : Value}, ([.int .i64 op, .int .i64 n, .slice y.b.1 binds.length y.b.2, .slice y.k.1 kids.length y.k.2, .slice y.a.1 alts.length y.a.2] : List Value)[j]? = some v → w.cell? ⟨b, 0 + j, none⟩ = some v := fun {j v} hj => by
    have := hn.cells j v hj
    rwa [add_mid] at this
  exact ⟨y, hn.own, hc (j := 0) rfl, hc (j := 1) rfl, hc (j := 2) rfl, hc (j := 3) rfl, hc (j := 4) rfl, hn.b, hn.bl, hn.a, hn.al, hn.ab, hks, hk⟩
end Go.Co
namespace Go.Proofs.YtlboppiogeaicaaDoor.co
open Go.RowKit Go.Eng Go.Co
set_option linter.unusedVariables false
set_option linter.unusedSimpArgs false
set_option maxRecDepth 100000
theorem wordly_calls (s : Sn) (b : Nat) (w : World) (ht : TrO w (low w) s.tr b) :
    Calls Tryd.prog 108 [.pointer (some ⟨b, 0, none⟩)].toArray w fun e w' => e = .returned (.bool (wordS s)) ∧ Ext w w' := by
  obtain ⟨y, hb, h0, h1, _⟩ := ht.cells
  have hb : b < w.heap.size := hb
  refine enter Tryd.func108 rfl Tryd.ntmps108 rfl (Cls.start w) ?_
  (simp only [argEnv, Nat.zero_add, Nat.reduceAdd])
  apply W.sr
  apply oas; rfl; rfl
  apply OL.nsr
  apply omv; rfl; rfl
  apply oop; rfl; apply Pev.nil_ptr; rfl; exact yes
  apply ofa; rfl; rfl; rfl
  apply oop; rfl; apply Pev.load_kept; rfl; exact yes; exact .head _; rfl; intro hcond; assumption; intro hcond; assumption; intro hcond; exact NotOwned.au
  apply obn; rfl; rfl; rfl; apply Bin.eql
  apply omv; rfl; rfl
  apply ono; rfl; rfl; rfl; apply Pev.move; rfl; exact yes
  apply ono; rfl; rfl; rfl; apply Pev.nil_ptr; rfl; exact fun h => h
  apply ono; rfl; rfl; rfl; apply Pev.fld; rfl; exact fun h => h; rfl
  apply ono; rfl; rfl; rfl; apply Pev.load_kept; rfl; exact fun h => h; exact .head _; rfl; intro hcond; assumption; intro hcond; assumption; intro hcond; exact NotOwned.au
  apply ono; rfl; rfl; rfl; apply Pev.bin; rfl; exact fun h => h; rfl; exact yes; intro hcond; apply Bin.eql
  apply ono; rfl; rfl; rfl; apply Pev.move; rfl; exact fun h => h
  apply OL.op; exact Guard.cyes rfl rfl; rfl; rfl; apply Pev.move; rfl; exact yes
  apply OL.op; exact Guard.cyes rfl rfl; rfl; rfl; apply Pev.nil_ptr; rfl; exact fun h => h
  apply OL.op; exact Guard.cyes rfl rfl; rfl; rfl; apply Pev.fld; rfl; exact fun h => h; rfl
  apply OL.op; exact Guard.cyes rfl rfl; rfl; rfl; apply Pev.load_kept; rfl; exact fun h => h; exact .head _; rfl; intro hcond; assumption; intro hcond; assumption; intro hcond; exact NotOwned.au
  apply OL.op; exact Guard.cyes rfl rfl; rfl; rfl; apply Pev.bin; rfl; exact fun h => h; rfl; exact yes; intro hcond; apply Bin.leq
  apply OL.op; exact Guard.cyes rfl rfl; rfl; rfl; apply Pev.move; rfl; exact fun h => h
  apply OL.op; exact Guard.cno rfl rfl; rfl; rfl; apply Pev.move; rfl; exact yes
  apply OL.op; exact Guard.cno rfl rfl; rfl; rfl; apply Pev.nil_ptr; rfl; exact fun h => h
  apply OL.op; exact Guard.cno rfl rfl; rfl; rfl; apply Pev.fld; rfl; exact fun h => h; rfl
  apply OL.op; exact Guard.cno rfl rfl; rfl; rfl; apply Pev.load_kept; rfl; exact fun h => h; exact .head _; rfl; intro hcond; assumption; intro hcond; assumption; intro hcond; exact NotOwned.au
  apply OL.op; exact Guard.cno rfl rfl; rfl; rfl; apply Pev.bin; rfl; exact fun h => h; rfl; exact yes; intro hcond; apply Bin.eql
  apply OL.op; exact Guard.cyes rfl rfl; rfl; rfl; apply Pev.pick_or; rfl; exact fun h => h; rfl; exact fun h => h
  apply ono; rfl; rfl; rfl; apply Pev.pick_and; rfl; exact fun h => h; rfl; exact fun h => h
  apply oop; rfl; apply Pev.pick_or; rfl; exact yes; rfl; exact fun h => h
  apply oas; rfl; rfl
  apply OL.nx
  apply W.ret
  ((with_reducible apply At.fin1); rfl; rfl; intro w' hw')
  refine ⟨?_, by (exact hw'.fr)⟩
  unfold wordS
  by_cases a1 : s.op = 1 <;> by_cases a2 : s.op = 8 <;> by_cases a3 : s.n ≤ 4 <;> by_cases a4 : s.n = 9 <;> simp [a1, a2, a3, a4]
theorem has_calls (q : Option Addr) (cap : Nat) (l : List Int) (s : Int) (w : World) (hlen : l.length ≤ 9223372036854775807) (h : IntsO w (low w) l q) :
    Calls Tryd.prog 86 [.slice q l.length cap, .int .i64 s].toArray w fun e w' => e = .returned (.bool (decide (s ∈ l))) ∧ Ext w w' := by
  refine enter Tryd.func86 rfl Tryd.ntmps86 rfl (Cls.start w) ?_
  (simp only [argEnv, Nat.zero_add, Nat.reduceAdd])
  apply W.sr
  apply oas; rfl; rfl
  apply OL.nx
  apply W.seq
  apply W.sr
  apply omv; rfl; rfl
  apply oop; rfl; apply Pev.len_slice; rfl; exact yes; rfl
  apply omv; rfl; rfl
  apply OL.nx
  apply W.block
  refine W.loop (G := Nat) (fun i => i ≤ l.length ∧ (s ∈ l.drop i ↔ s ∈ l)) (fun i => l.length - i)
    (fun i => [(1, true, .int .i64 s), (7, true, .slice q l.length cap), (8, true, .int .i64 (l.length : Int)), (9, true, .int .i64 (i : Int))])
    (fun i => Cls [] [w]) 0 ⟨by omega, by simp⟩ (by exact Sub.au) (fun w' hw' => hw') ?_
  rintro i ⟨hi, hrest⟩
  apply W.sr
  apply obn; rfl; rfl; rfl; apply Bin.lss
  apply OL.nx
  apply W.seq
  (refine W.cnd (fun hlt => ?_) (fun hlt => ?_)) <;> (try (exfalso; first | omega | exact hlt trivial | contradiction))
  · obtain ⟨a, u, rfl, hab, hu, hcell⟩ := h.get (show i < l.length by omega)
    have hab : a.block < w.heap.size := hab
    have hdm : s ∈ l.drop i ↔ u = s ∨ s ∈ l.drop (i + 1) := by
      obtain ⟨hi2, rfl⟩ := List.getElem?_eq_some_iff.1 hu
      rw [List.drop_eq_getElem_cons hi2, List.mem_cons]
      exact ⟨fun h => h.imp Eq.symm id, fun h => h.imp Eq.symm id⟩
    rw [hdm] at hrest
    apply W.sk
    apply W.sb
    apply W.sr
    apply oop; rfl; apply Pev.idx; rfl; exact yes; rfl; exact yes; rfl; rfl; intro hcond; omega
    apply oop; rfl; apply Pev.load_kept; rfl; exact yes; exact .head _; rfl; intro hcond; assumption; intro hcond; (rw [add_block]; assumption); intro hcond; exact NotOwned.au
    apply oas; rfl; rfl
    apply OL.nsr
    apply omv; rfl; rfl
    apply omv; rfl; rfl
    apply obn; rfl; rfl; rfl; apply Bin.eql
    apply OL.nx
    (refine W.cnd (fun heq => ?_) (fun heq => ?_)) <;> (try (exfalso; first | omega | exact heq trivial | contradiction))
    · apply W.sr
      apply oas; rfl; rfl
      apply OL.nx
      refine W.rt ?_
      ((with_reducible apply At.fin1); rfl; rfl; intro w' hw')
      have : s ∈ l := hrest.1 (.inl heq)
      exact ⟨by simp [this], by (exact hw'.fr)⟩
    · apply W.skip
      with_reducible apply At.in_normal
      with_reducible apply At.next
      apply W.reg
      apply obn; rfl; rfl; rfl; apply Bin.add_in; omega
      apply omv; rfl; rfl
      apply OL.nil
      refine At.again (i + 1) ⟨by omega, ?_⟩ (by omega) (by exact Sub.au) (fun w' hw' => hw')
      rw [← hrest]
      exact ⟨.inr, fun h => h.resolve_left heq⟩
  · refine W.xt ?_
    with_reducible apply At.next
    apply W.sr
    apply oas; rfl; rfl
    apply OL.nx
    apply W.ret
    ((with_reducible apply At.fin1); rfl; rfl; intro w' hw')
    rw [List.drop_eq_nil_of_le (by omega)] at hrest
    have : ¬ s ∈ l := fun h => by simpa using hrest.2 h
    exact ⟨by simp [this], by (exact hw'.fr)⟩
theorem conditional_calls (op n : Int) (binds : List Int) (ks : List Sn) (alts : List Al) (b : Nat) (w : World) (ht : TrO w (low w) (.mk op n binds (ks.map Sn.tr) alts) b) (hk : 1 ≤ ks.length) :
    Calls Tryd.prog 85 [.pointer (some ⟨b, 0, none⟩)].toArray w fun e w' => e = .returned (.bool (condS (ks.getD 0 sn0) alts)) ∧ Ext w w' := by
  obtain ⟨y, hb, h0, h1, h2, h3, h4, hI, hbl, hA, hal, hab, hks, hkl⟩ := ht.cells
  have hb : b < w.heap.size := hb
  rw [List.length_map] at hks h3
  obtain ⟨a, hqa, haa, htrs⟩ := hks (by omega)
  have haa : a.block < w.heap.size := haa
  obtain ⟨k0, hk0⟩ : ∃ k0, ks[0]? = some k0 := ⟨_, List.getElem?_eq_getElem (by omega)⟩
  obtain ⟨b0, hc0, ht0⟩ := htrs.get (i := 0) (t := k0.tr) (by rw [List.getElem?_map, hk0]; rfl)
  have hc0' : w.cell? (a.add ((0 : Int).toNat * 1)) = some (.pointer (some ⟨b0, 0, none⟩)) := hc0
  obtain ⟨y0, hb0, g0, g1, _⟩ := ht0.cells
  have hb0 : b0 < w.heap.size := hb0
  have hg0 : ks.getD 0 sn0 = k0 := by rw [List.getD_eq_getElem?_getD, hk0]; rfl
  obtain ⟨ps, hps, harr⟩ := hA
  have hpl : alts.length = ps.length := by rw [← hps, List.length_map]
  rw [hg0]
  rw [hqa] at h3
  refine enter Tryd.func85 rfl Tryd.ntmps85 rfl (Cls.start w) ?_
  (simp only [argEnv, Nat.zero_add, Nat.reduceAdd])
  apply W.sr
  apply oas; rfl; rfl
  apply OL.nsr
  apply omv; rfl; rfl
  apply oop; rfl; apply Pev.nil_ptr; rfl; exact yes
  apply ofa; rfl; rfl; rfl
  apply oop; rfl; apply Pev.load_kept; rfl; exact yes; exact .head _; rfl; intro hcond; assumption; intro hcond; assumption; intro hcond; exact NotOwned.au
  apply oop; rfl; apply Pev.idx; rfl; exact yes; rfl; exact yes; rfl; rfl; intro hcond; (simp only [Bool.and_eq_true, Bool.or_eq_true, Bool.not_eq_true', decide_eq_true_eq, decide_eq_false_iff_not] at *; omega)
  apply oop; rfl; apply Pev.load_kept; rfl; exact yes; exact .head _; rfl; intro hcond; assumption; intro hcond; assumption; intro hcond; exact NotOwned.au
  apply oas; rfl; rfl
  apply OL.nx
  apply W.seq
  apply W.sr
  apply omv; rfl; rfl
  apply oop; rfl; apply Pev.nil_ptr; rfl; exact yes
  apply ofa; rfl; rfl; rfl
  apply oop; rfl; apply Pev.load_kept; rfl; exact yes; exact .head _; rfl; intro hcond; assumption; intro hcond; assumption; intro hcond; exact NotOwned.au
  apply obn; rfl; rfl; rfl; apply Bin.neq
  apply omv; rfl; rfl
  apply ono; rfl; rfl; rfl; apply Pev.move; rfl; exact yes
  apply ono; rfl; rfl; rfl; apply Pev.nil_ptr; rfl; exact fun h => h
  apply ono; rfl; rfl; rfl; apply Pev.fld; rfl; exact fun h => h; rfl
  apply ono; rfl; rfl; rfl; apply Pev.load_kept; rfl; exact fun h => h; exact .head _; rfl; intro hcond; assumption; intro hcond; assumption; intro hcond; exact NotOwned.au
  apply ono; rfl; rfl; rfl; apply Pev.bin; rfl; exact fun h => h; rfl; exact yes; intro hcond; apply Bin.neq
  apply ono; rfl; rfl; rfl; apply Pev.move; rfl; exact fun h => h
  apply OL.op; exact Guard.cyes rfl rfl; rfl; rfl; apply Pev.move; rfl; exact yes
  apply OL.op; exact Guard.cyes rfl rfl; rfl; rfl; apply Pev.nil_ptr; rfl; exact fun h => h
  apply OL.op; exact Guard.cyes rfl rfl; rfl; rfl; apply Pev.fld; rfl; exact fun h => h; rfl
  apply OL.op; exact Guard.cyes rfl rfl; rfl; rfl; apply Pev.load_kept; rfl; exact fun h => h; exact .head _; rfl; intro hcond; assumption; intro hcond; assumption; intro hcond; exact NotOwned.au
  apply OL.op; exact Guard.cyes rfl rfl; rfl; rfl; apply Pev.bin; rfl; exact fun h => h; rfl; exact yes; intro hcond; apply Bin.neq
  apply ono; rfl; rfl; rfl; apply Pev.pick_and; rfl; exact fun h => h; rfl; exact fun h => h
  apply oop; rfl; apply Pev.pick_or; rfl; exact yes; rfl; exact fun h => h
  apply OL.nx
  refine W.cond rfl (fun hc => ?_) (fun hc => ?_)
  · apply W.sr
    apply oas; rfl; rfl
    apply OL.nx
    refine W.rt ?_
    ((with_reducible apply At.fin1); rfl; rfl; intro w' hw')
    refine ⟨?_, by (exact hw'.fr)⟩
    unfold condS
    by_cases a1 : k0.op = 8 <;> by_cases a2 : k0.n = 5 <;> by_cases a3 : k0.n = 6 <;> simp [a1, a2, a3] at hc ⊢
  have hcs : condS k0 alts = condL alts 0 := by
    unfold condS
    by_cases a1 : k0.op = 8 <;> by_cases a2 : k0.n = 5 <;> by_cases a3 : k0.n = 6 <;> simp [a1, a2, a3] at hc ⊢
  rw [hcs]
  apply W.sk
  apply W.sr
  apply oas; rfl; rfl
  apply OL.nx
  apply W.seq
  apply W.sr
  apply omv; rfl; rfl
  apply oop; rfl; apply Pev.nil_ptr; rfl; exact yes
  apply ofa; rfl; rfl; rfl
  apply oop; rfl; apply Pev.load_kept; rfl; exact yes; exact .head _; rfl; intro hcond; assumption; intro hcond; assumption; intro hcond; exact NotOwned.au
  apply oop; rfl; apply Pev.len_slice; rfl; exact yes; rfl
  apply omv; rfl; rfl
  apply OL.nx
  apply W.block
  refine W.loop (G := Nat × Nat) (fun g => g.1 ≤ ps.length ∧ g.2 ≤ g.1 ∧ condL alts 0 = condL (alts.drop g.1) g.2) (fun g => ps.length - g.1)
    (fun g => [(4, true, .int .i64 (g.2 : Int)), (35, true, .slice y.a.1 alts.length y.a.2), (36, true, .int .i64 (alts.length : Int)), (37, true, .int .i64 (g.1 : Int))])
    (fun _ => Cls [] [w]) (0, 0) ⟨by simp, by simp, by simp⟩ (by exact Sub.au) (fun w' hw' => hw') ?_
  rintro ⟨i, c⟩ ⟨hi, hc1, hrest⟩
  simp only at hi hc1 hrest ⊢
  apply W.sr
  apply obn; rfl; rfl; rfl; apply Bin.lss
  apply OL.nx
  apply W.seq
  (refine W.cnd (fun hlt => ?_) (fun hlt => ?_)) <;> (try (exfalso; first | omega | exact hlt trivial | contradiction))
  · obtain ⟨av, u, hqv, habv, hu, hcv, hoku⟩ := harr.get (show i < ps.length by omega)
    have habv : av.block < w.heap.size := habv
    have hcv : CellsAt w (av.add (i * 2)) [.int .i64 u.1.tag, .slice u.2.1 u.1.binds.length u.2.2] := hcv
    have hx : alts[i]? = some u.1 := by rw [← hps, List.getElem?_map, hu]; rfl
    rw [condL_drop hx] at hrest
    rw [hqv]
    apply W.sk
    apply W.sb
    apply W.sr
    apply oop; rfl; apply Pev.idx; rfl; exact yes; rfl; exact yes; rfl; rfl; intro hcond; omega
    apply oop; rfl; apply Pev.load_keptA; rfl; exact yes; exact .head _; rfl; intro hcond; assumption; rfl; intro hcond; (rw [add_block]; assumption); intro hcond; exact NotOwned.au
    apply OL.alloc; rfl; rfl; exact CellsL.agg; (intro bk hbk; simp only [AllLe, and_true] at hbk)
    apply OL.storeB; rfl; rfl; exact CellsL.agg; rfl; rfl; rfl; exact Swap.au; exact Put.au
    apply OL.nx
    apply W.block
    apply W.sr
    apply ofa; rfl; rfl; rfl
    apply old; rfl; rfl; exact .head _; rfl; rfl
    apply obn; rfl; rfl; rfl; apply Bin.eql
    apply oas; rfl; rfl
    apply OL.nx
    revert bk
    intro bx hbx
    (refine W.cnd (fun ht1 => ?_) (fun ht1 => ?_)) <;> (try (exfalso; first | omega | exact ht1 trivial | contradiction))
    · apply W.sr
      apply oas; rfl; rfl
      apply OL.nx
      refine W.rt ?_
      ((with_reducible apply At.fin1); rfl; rfl; intro w' hw')
      exact ⟨by rw [hrest, if_pos ht1], by (exact hw'.fr)⟩
    rw [if_neg ht1] at hrest
    apply W.sr
    apply ofa; rfl; rfl; rfl
    apply old; rfl; rfl; exact .head _; rfl; rfl
    apply obn; rfl; rfl; rfl; apply Bin.leq
    apply omv; rfl; rfl
    apply oy; rfl; rfl; rfl; apply Pev.fld; rfl; exact yes; rfl
    apply oy; rfl; rfl; rfl; apply Pev.load_blk; rfl; exact fun h => h; exact .head _; rfl; rfl
    apply oy; rfl; rfl; rfl; apply Pev.len_slice; rfl; exact fun h => h; rfl
    apply oy; rfl; rfl; rfl; apply Pev.bin; rfl; exact fun h => h; rfl; exact yes; intro hcond; apply Bin.eql
    apply oop; rfl; apply Pev.pick_and; rfl; exact yes; rfl; exact fun h => h
    apply oas; rfl; rfl
    apply OL.nx
    refine W.cond rfl (fun hc2 => ?_) (fun hc2 => ?_)
    · have h5 : u.1.tag ≤ 1 ∧ u.1.binds.length = 0 := by
        by_cases a1 : u.1.tag ≤ 1 <;> simp [a1] at hc2
        exact ⟨a1, by first | (simpa using hc2) | simp [hc2]⟩
      rw [if_pos h5] at hrest
      apply W.reg
      apply omv; rfl; rfl
      apply obn; rfl; rfl; rfl; apply Bin.add_in; omega
      apply oas; rfl; rfl
      apply OL.nil
      with_reducible apply At.in_normal
      with_reducible apply At.in_normal
      with_reducible apply At.next
      apply W.reg
      apply obn; rfl; rfl; rfl; apply Bin.add_in; omega
      apply omv; rfl; rfl
      apply OL.nil
      exact At.again (i + 1, c + 1) ⟨by simp only; omega, by simp only; omega, hrest⟩ (by simp only; omega) (by exact Sub.au) (fun w' hw' => hw'.thin (by exact Thin.au))
    have h5 : ¬ (u.1.tag ≤ 1 ∧ u.1.binds.length = 0) := fun ⟨a1, a2⟩ => by
      have a3 : u.1.binds = [] := List.eq_nil_of_length_eq_zero a2
      simp [a1, a3] at hc2
    rw [if_neg h5] at hrest
    apply W.sr
    apply ofa; rfl; rfl; rfl
    apply old; rfl; rfl; exact .head _; rfl; rfl
    apply obn; rfl; rfl; rfl; apply Bin.leq
    apply oas; rfl; rfl
    apply OL.nx
    (refine W.cnd (fun ht2 => ?_) (fun ht2 => ?_)) <;> (try (exfalso; first | omega | exact ht2 trivial | contradiction))
    · rw [if_pos ht2] at hrest
      apply W.sr
      apply oas; rfl; rfl
      apply OL.nx
      refine W.rt ?_
      ((with_reducible apply At.fin1); rfl; rfl; intro w' hw')
      exact ⟨by rw [hrest], by (exact hw'.fr)⟩
    · rw [if_neg (by omega)] at hrest
      apply W.skip
      with_reducible apply At.in_normal
      with_reducible apply At.in_normal
      with_reducible apply At.next
      apply W.reg
      apply obn; rfl; rfl; rfl; apply Bin.add_in; omega
      apply omv; rfl; rfl
      apply OL.nil
      exact At.again (i + 1, c) ⟨by simp only; omega, by simp only; omega, hrest⟩ (by simp only; omega) (by exact Sub.au) (fun w' hw' => hw'.thin (by exact Thin.au))
  · obtain rfl : i = ps.length := by omega
    rw [List.drop_eq_nil_of_le (by omega), condL] at hrest
    refine W.xt ?_
    with_reducible apply At.next
    apply W.sr
    apply omv; rfl; rfl
    apply obn; rfl; rfl; rfl; apply Bin.eql
    apply oas; rfl; rfl
    apply OL.nx
    apply W.ret
    ((with_reducible apply At.fin1); rfl; rfl; intro w' hw')
    refine ⟨?_, by (exact hw'.fr)⟩
    rw [hrest]
    by_cases a1 : c = 2
    · simp [a1]
    · have : ¬ (c : Int) = 2 := by omega
      simp [a1, this]
end Go.Proofs.YtlboppiogeaicaaDoor.co
