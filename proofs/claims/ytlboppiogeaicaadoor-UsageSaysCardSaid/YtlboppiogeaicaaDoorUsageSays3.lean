/- Texts of the proof of UsageSays, part 3: rules of a calculus for walking, plain laws, and walks of the functions that the law reaches. No condition. -/
import Derived.Sort.Grow
import Derived.Test.YtlboppiogeaicaaDoorProg
import Derived.Shelf.Lays
import Derived.Shelf.Sort.Plain
import Derived.Shelf.Slices.In.SortNone
import Derived.Shelf.GgSortFunc.InsertionK
import Derived.Shelf.SlGeneric
import Derived.Shelf.SlSortCmp.NoneTotal
import Derived.Shelf.SlicesG.Cmp
import Derived.Test.YtlboppiogeaicaaDoorUsageSays2
/- The walk of core's Grow. Conditions: none. (Printed by coh.py.) -/
namespace Go.Co
open Go.Eng Go.RowKit
set_option linter.unusedVariables false
set_option linter.unusedSimpArgs false
def nds (tb : Nat → Nat) (i n : Nat) : List Value := (List.range n).map fun k => if k < i then .pointer (some ⟨tb k, 0, none⟩) else .pointer none
theorem nds_length (tb : Nat → Nat) (i n : Nat) : (nds tb i n).length = n := by simp [nds]
theorem nds_zero (tb : Nat → Nat) (n : Nat) : List.replicate n (Value.pointer none) = nds tb 0 n := by
  refine List.ext_getElem? fun k => ?_
  by_cases h : k < n
  · simp [nds, List.getElem?_replicate, h]
  · simp [nds, List.getElem?_replicate, h]
theorem nds_get {tb : Nat → Nat} {i n k : Nat} (hk : k < i) (hn : k < n) : (nds tb i n)[k]? = some (.pointer (some ⟨tb k, 0, none⟩)) := by simp [nds, hk, hn]
theorem nds_set {tb : Nat → Nat} {i n b : Nat} (hi : i < n) : (nds tb i n).set i (.pointer (some ⟨b, 0, none⟩)) = nds (fun k => if k = i then b else tb k) (i + 1) n := by
  refine List.ext_getElem? fun k => ?_
  rw [List.getElem?_set]
  by_cases h : i = k
  · subst h
    simp [nds, hi]
  · rw [if_neg h]
    have h2 : ¬ k = i := fun e => h e.symm
    by_cases hk : k < n
    · have : (k < i) = (k < i + 1) := by simp; omega
      simp [nds, hk, h2, this]
    · rw [List.getElem?_eq_none (by rw [nds_length]; omega), List.getElem?_eq_none (by rw [nds_length]; omega)]
def kp (tb : Nat → Nat) (l : List Int) : List Nat := l.map fun k => tb k.toNat
def alSl (a : Al × Sc) : Sl := ⟨a.2.1, a.2.2, ints a.1.binds⟩
end Go.Co
namespace Go.Proofs.YtlboppiogeaicaaDoor.co
open Go.RowKit Go.Eng Go.Co
set_option linter.unusedVariables false
set_option linter.unusedSimpArgs false
set_option maxRecDepth 100000
structure XG (S : List World) (n B : Nat) where
  O : Nat → Prop
  q : Option Addr
  c : Nat
  hc : n ≤ c
  bt : Nat
  hbt : B ≤ bt
  g1 : Nat
  c1 : Nat
  O1 : Nat → Prop
  b1 : Nat
  hb1 : B ≤ b1
  old : Nat → Value
theorem Grow_callsF (es : List (Ex × ExY)) (q : Option Addr) (cap : Nat) (w : World) (he : Arr exR w (low w) es q) (hlen : es.length ≤ 4096) (h0 : 0 < es.length) (hd : Down (es.map Prod.fst)) (hlim : ∀ p ∈ es, Lim p.1) (hkl : ∀ p ∈ es, p.1.kids.length ≤ 4096) :
    Calls Tryd.prog 49 [.slice q es.length cap].toArray w fun e w' => ∃ b, e = .returned (.pointer (some ⟨b, 0, none⟩)) ∧ Ext w w' ∧ TrO w' (fresh w w') (grow (es.map Prod.fst) (es.length - 1)) b := by
  obtain ⟨e, hee⟩ : ∃ e, es.map Prod.fst = e := ⟨_, rfl⟩
  have hel : e.length = es.length := by rw [← hee, List.length_map]
  rw [hee] at hd ⊢
  have hget : ∀ {i : Nat}, i < es.length → ∃ a p, q = some a ∧ a.block < w.heap.size ∧ es[i]? = some p ∧ e[i]? = some p.1 ∧ CellsAt w (a.add (i * 5)) [.int .i64 p.1.op, .int .i64 p.1.n, .slice p.2.b.1 p.1.binds.length p.2.b.2, .slice p.2.k.1 p.1.kids.length p.2.k.2, .slice p.2.a.1 p.1.alts.length p.2.a.2] ∧ ExOk w (low w) p.1 p.2 := fun {i} hi => by
    obtain ⟨a, p, h1, h2, h3, h4, h5⟩ := he.get hi
    exact ⟨a, p, h1, h2, h3, by rw [← hee, List.getElem?_map, h3]; rfl, h4, h5⟩
  refine enter Tryd.func49 rfl Tryd.ntmps49 rfl (Cls.start w) ?_
  (simp only [argEnv, Nat.zero_add, Nat.reduceAdd])
  apply W.sr
  apply oas; rfl; rfl
  apply OL.nsr
  apply omv; rfl; rfl
  apply oop; rfl; apply Pev.len_slice; rfl; exact yes; rfl
  apply OL.makeSlice; rfl; rfl; rfl; rfl; rfl; rfl; rfl; omega; (intro bk hbk; simp only [AllLe, and_true] at hbk)
  apply oas; rfl; rfl
  apply OL.nx
  apply W.seq
  apply W.sr
  apply omv; rfl; rfl
  apply oop; rfl; apply Pev.len_slice; rfl; exact yes; rfl
  apply omv; rfl; rfl
  apply OL.nx
  apply W.block
  revert bk
  intro bn hbn
  have hz0 : List.replicate es.length (Value.pointer none) = nds (fun _ => 0) 0 es.length := nds_zero _ _
  refine W.exx (X := { x : World // bn < x.heap.size ∧ w.heap.size ≤ x.heap.size }) (C' := fun x => Cls [blk bn 69 (nds (fun _ => 0) 0 es.length)] [x.1, w]) (fun w2 hw2 => by rw [hz0] at hw2; exact ⟨⟨w2, hw2.lt _ (.head _) bn rfl, (hw2.kp w (.head _)).size⟩, hw2.note⟩) ?_
  rintro ⟨w0, hw0a, hw0b⟩
  simp only
  refine W.loop (G := Nat × World × (Nat → Nat)) (fun g => g.1 ≤ es.length ∧ w.heap.size ≤ g.2.1.heap.size ∧ bn < g.2.1.heap.size ∧ ∀ k, k < g.1 → TrO g.2.1 (fun b => b < g.2.1.heap.size ∧ b ≠ bn ∧ w.heap.size ≤ b) (grow e k) (g.2.2 k)) (fun g => es.length - g.1)
    (fun g => [(0, true, .slice q es.length cap), (3, true, .slice (some ⟨bn, 0, none⟩) es.length es.length), (14, true, .slice q es.length cap), (15, true, .int .i64 (es.length : Int)), (16, true, .int .i64 (g.1 : Int))])
    (fun g => Cls [blk bn 69 (nds g.2.2 g.1 es.length)] [g.2.1, w]) (0, w0, fun _ => 0) ⟨by simp, hw0b, hw0a, fun k hk => by simp at hk⟩ (by exact Sub.au) (fun w' hw' => hw') ?_
  rintro ⟨i, wk, tb⟩ ⟨hi, hwk, hbnk, htr⟩
  simp only at hi hwk hbnk htr ⊢
  apply W.sr
  apply obn; rfl; rfl; rfl; apply Bin.lss
  apply OL.nx
  apply W.seq
  (refine W.cnd (fun hlt => ?_) (fun hlt => ?_)) <;> (try (exfalso; first | omega | exact hlt trivial | contradiction))
  · have hil : i < es.length := by omega
    obtain ⟨a, p, rfl, hab, hp, hpe, hcell, hok⟩ := hget hil
    have hL := hlim p (List.mem_of_getElem? hp)
    have hLb := hL.b
    have hLa := hL.a
    have hkl1 := hkl p (List.mem_of_getElem? hp)
    have hdn := hd i _ hpe
    apply W.sk
    apply W.sb
    apply W.sr
    apply omv; rfl; rfl
    apply oop; rfl; apply Pev.idx; rfl; exact yes; rfl; exact yes; rfl; rfl; intro hcond; omega
    apply oop; rfl; apply Pev.load_keptA; rfl; exact yes; exact .tail _ (.head _); rfl; intro hcond; assumption; rfl; intro hcond; (rw [add_block]; assumption); intro hcond; exact NotOwned.au
    apply OL.alloc; rfl; rfl; exact CellsL.agg; (intro bk hbk; simp only [AllLe, and_true] at hbk)
    apply oas; rfl; rfl
    apply OL.storeB; rfl; rfl; exact CellsL.agg; rfl; rfl; rfl; exact Swap.au; exact Put.au
    apply OL.nx
    apply W.seq
    revert bk
    intro bx hbx
    refine W.cls (fun w' hw' => Cls.flip hw') ?_
    refine W.regany (X := XG [wk, w] p.1.binds.length wk.heap.size) (fun x e => [(6, true, bif e 9 then .pointer (some ⟨x.bt, 0, none⟩) else x.old 6), (29, true, bif e 8 then .pointer (some ⟨x.bt, 0, none⟩) else x.old 29), (28, true, bif e 7 then .agg [.int .i64 p.1.op, .int .i64 p.1.n, .slice x.q p.1.binds.length x.c, .slice none 0 0, .slice none 0 0].toArray else x.old 28), (27, true, bif e 6 then .slice x.q p.1.binds.length x.c else x.old 27), (26, true, bif e 5 then .slice p.2.b.1 p.1.binds.length p.2.b.2 else x.old 26), (25, true, bif e 4 then .pointer (some ⟨bx, 0 + 2, none⟩) else x.old 25), (24, true, bif e 3 then .int .i64 p.1.n else x.old 24), (23, true, bif e 2 then .pointer (some ⟨bx, 0 + 1, none⟩) else x.old 23), (22, true, bif e 1 then .int .i64 p.1.op else x.old 22), (21, true, bif e 0 then .pointer (some ⟨bx, 0 + 0, none⟩) else x.old 21), (0, true, .slice (some a) es.length cap), (3, true, .slice (some ⟨bn, 0, none⟩) es.length es.length), (4, true, .int .i64 (i : Int)), (14, true, .slice (some a) es.length cap), (15, true, .int .i64 (es.length : Int)), (16, true, .int .i64 (i : Int)), (5, true, .pointer (some ⟨bx, 0, none⟩))])
      (fun x e => (blk bn 69 (nds tb i es.length)) :: (blk bx 28 [.int .i64 p.1.op, .int .i64 p.1.n, .slice p.2.b.1 p.1.binds.length p.2.b.2, .slice p.2.k.1 p.1.kids.length p.2.k.2, .slice p.2.a.1 p.1.alts.length p.2.a.2]) :: (bif e 6 then pile wk.heap.size x.O [⟨x.q, x.c, ints p.1.binds⟩] else nothing) :: (bif e 8 then blk x.bt 91 [.int .i64 p.1.op, .int .i64 p.1.n, .slice x.q p.1.binds.length x.c, .slice none 0 0, .slice none 0 0] else nothing) :: [])
      (fun old => ⟨fun _ => False, none, p.1.binds.length, Nat.le_refl _, wk.heap.size, Nat.le_refl _, 0, 0, fun _ => False, wk.heap.size, Nat.le_refl _, old⟩) (by kernel_rfl) (by kernel_rfl) (fun w hw => hw.drew) (fun old => by repeat (first | exact SubO.nil | apply SubO.cons rfl | refine SubO.old rfl ?_)) (fun old w' hw' => hw'.add_nothing.add_nothing) ?_ ?_
    · intro x e i o ho hei hd hcl
      have hi : i < 10 := (List.getElem?_eq_some_iff.1 ho).1
      obtain rfl | rfl | rfl | rfl | rfl | rfl | rfl | rfl | rfl | rfl : i = 0 ∨ i = 1 ∨ i = 2 ∨ i = 3 ∨ i = 4 ∨ i = 5 ∨ i = 6 ∨ i = 7 ∨ i = 8 ∨ i = 9 := by omega
      · cases ho
        have v0 : Eng.upd e 0 0 = true := upd_eq
        simp only [hei, cond_true, cond_false]
        apply ofa; rfl; rfl; rfl
        apply OL.nil
        exact At.beside x (by repeat (first | exact Sub.nil | apply Sub.cons rfl | refine Sub.cons_eq rfl (by simp only [v0, cond_true, cond_false]) ?_)) (fun w' hw' => by first | exact hw' | (simp only [v0, cond_true, cond_false]; exact hw'))
      · cases ho
        have h0 : e 0 = true := hd ⟨0, .data⟩ (by simp) rfl
        have v1 : Eng.upd e 1 1 = true := upd_eq
        have v0 : Eng.upd e 1 0 = true := upd_mono h0
        simp only [hei, h0, cond_true, cond_false]
        apply old; rfl; rfl; exact .tail _ (.head _); rfl; rfl
        apply OL.nil
        exact At.beside x (by repeat (first | exact Sub.nil | apply Sub.cons rfl | refine Sub.cons_eq rfl (by simp only [v1, v0, cond_true, cond_false]) ?_)) (fun w' hw' => by first | exact hw' | (simp only [v1, v0, cond_true, cond_false]; exact hw'))
      · cases ho
        have v2 : Eng.upd e 2 2 = true := upd_eq
        simp only [hei, cond_true, cond_false]
        apply ofa; rfl; rfl; rfl
        apply OL.nil
        exact At.beside x (by repeat (first | exact Sub.nil | apply Sub.cons rfl | refine Sub.cons_eq rfl (by simp only [v2, cond_true, cond_false]) ?_)) (fun w' hw' => by first | exact hw' | (simp only [v2, cond_true, cond_false]; exact hw'))
      · cases ho
        have h2 : e 2 = true := hd ⟨2, .data⟩ (by simp) rfl
        have v3 : Eng.upd e 3 3 = true := upd_eq
        have v2 : Eng.upd e 3 2 = true := upd_mono h2
        simp only [hei, h2, cond_true, cond_false]
        apply old; rfl; rfl; exact .tail _ (.head _); rfl; rfl
        apply OL.nil
        exact At.beside x (by repeat (first | exact Sub.nil | apply Sub.cons rfl | refine Sub.cons_eq rfl (by simp only [v3, v2, cond_true, cond_false]) ?_)) (fun w' hw' => by first | exact hw' | (simp only [v3, v2, cond_true, cond_false]; exact hw'))
      · cases ho
        have v4 : Eng.upd e 4 4 = true := upd_eq
        simp only [hei, cond_true, cond_false]
        apply ofa; rfl; rfl; rfl
        apply OL.nil
        exact At.beside x (by repeat (first | exact Sub.nil | apply Sub.cons rfl | refine Sub.cons_eq rfl (by simp only [v4, cond_true, cond_false]) ?_)) (fun w' hw' => by first | exact hw' | (simp only [v4, cond_true, cond_false]; exact hw'))
      · cases ho
        have h4 : e 4 = true := hd ⟨4, .data⟩ (by simp) rfl
        have v5 : Eng.upd e 5 5 = true := upd_eq
        have v4 : Eng.upd e 5 4 = true := upd_mono h4
        simp only [hei, h4, cond_true, cond_false]
        apply old; rfl; rfl; exact .tail _ (.head _); rfl; rfl
        apply OL.nil
        exact At.beside x (by repeat (first | exact Sub.nil | apply Sub.cons rfl | refine Sub.cons_eq rfl (by simp only [v5, v4, cond_true, cond_false]) ?_)) (fun w' hw' => by first | exact hw' | (simp only [v5, v4, cond_true, cond_false]; exact hw'))
      · cases ho
        have h5 : e 5 = true := hd ⟨5, .data⟩ (by simp) rfl
        have h7 : e 7 = false := hcl.not (i := 6) (j := 7) rfl hei (by kernel_rfl)
        have h8 : e 8 = false := hcl.not (i := 7) (j := 8) rfl h7 (by kernel_rfl)
        have v6 : Eng.upd e 6 6 = true := upd_eq
        have v5 : Eng.upd e 6 5 = true := upd_mono h5
        have v7 : Eng.upd e 6 7 = false := h7
        have v8 : Eng.upd e 6 8 = false := h8
        simp only [hei, h5, h7, h8, cond_true, cond_false]
        refine OL.callE (α := (Nat → Prop) × Option Addr × Nat) (fun z => .slice z.2.1 p.1.binds.length z.2.2) (fun z => p.1.binds.length ≤ z.2.2) (fun z => Cls (pile wk.heap.size z.1 [⟨z.2.1, z.2.2, ints p.1.binds⟩] :: blk bn 69 (nds tb i es.length) :: blk bx 28 [.int .i64 p.1.op, .int .i64 p.1.n, .slice p.2.b.1 p.1.binds.length p.2.b.2, .slice p.2.k.1 p.1.kids.length p.2.k.2, .slice p.2.a.1 p.1.alts.length p.2.a.2] :: nothing :: nothing :: []) [wk, w]) rfl rfl (by exact Args.au) (fun w2 hw2 => ?_) ?_
        · exact (Clone_calls p.2.b.1 p.2.b.2 p.1.binds w2 (hok.b.at hw2 (.tail _ (.head _)) (fun k hk => by exact NotOwned.au)) (by omega)).mono fun e w3 ⟨q', c', h1, h2, h3, h4⟩ => ⟨(_, q', c'), h1, h4, hw2.pile_new (hw2.kp wk (.head _)).size h2 (fun hl => h3 (by rwa [ints_length] at hl))⟩
        rintro ⟨Oc, qc, cc⟩ hcc
        simp only at hcc ⊢
        apply OL.nil
        exact At.beside { x with O := Oc, q := qc, c := cc, hc := hcc } (by repeat (first | exact Sub.nil | apply Sub.cons rfl | refine Sub.cons_eq rfl (by simp only [v6, v5, v7, v8, cond_true, cond_false]) ?_)) (fun w' hw' => by simp only [v6, v5, v7, v8, cond_true, cond_false]; exact Cls.fill (p := 2) (H := _ :: _ :: _ :: _ :: []) (.s (.s .z)) hw')
      · cases ho
        have h1 : e 1 = true := hd ⟨1, .data⟩ (by simp) rfl
        have h3 : e 3 = true := hd ⟨3, .data⟩ (by simp) rfl
        have h6 : e 6 = true := hd ⟨6, .data⟩ (by simp) rfl
        have v7 : Eng.upd e 7 7 = true := upd_eq
        have v1 : Eng.upd e 7 1 = true := upd_mono h1
        have v3 : Eng.upd e 7 3 = true := upd_mono h3
        have v6 : Eng.upd e 7 6 = true := upd_mono h6
        simp only [hei, h1, h3, h6, cond_true, cond_false]
        apply oop; rfl; apply Pev.build; rfl; exact CellsL.agg; rfl; exact Fill.au; rfl
        apply OL.nil
        exact At.beside x (by repeat (first | exact Sub.nil | apply Sub.cons rfl | refine Sub.cons_eq rfl (by simp only [v7, v1, v3, v6, cond_true, cond_false]) ?_)) (fun w' hw' => by first | exact hw' | (simp only [v7, v1, v3, v6, cond_true, cond_false]; exact hw'))
      · cases ho
        have h7 : e 7 = true := hd ⟨7, .data⟩ (by simp) rfl
        have h9 : e 9 = false := hcl.not (i := 8) (j := 9) rfl hei (by kernel_rfl)
        have v8 : Eng.upd e 8 8 = true := upd_eq
        have v7 : Eng.upd e 8 7 = true := upd_mono h7
        have v9 : Eng.upd e 8 9 = false := h9
        simp only [hei, h7, h9, cond_true, cond_false]
        apply OL.box; rfl; rfl; exact CellsL.agg; (intro bk hbk; simp only [AllLe, and_true] at hbk)
        apply OL.nil
        exact At.beside { x with bt := bk, hbt := hbk.1 } (by repeat (first | exact Sub.nil | apply Sub.cons rfl | refine Sub.cons_eq rfl (by simp only [v8, v7, v9, cond_true, cond_false]) ?_)) (fun w' hw' => by simp only [v8, v7, v9, cond_true, cond_false]; exact Cls.fill (p := 3) (H := _ :: _ :: _ :: _ :: []) (.s (.s (.s .z))) hw')
      · cases ho
        have h8 : e 8 = true := hd ⟨8, .data⟩ (by simp) rfl
        have v9 : Eng.upd e 9 9 = true := upd_eq
        have v8 : Eng.upd e 9 8 = true := upd_mono h8
        simp only [hei, h8, cond_true, cond_false]
        apply oas; rfl; rfl
        apply OL.nil
        exact At.beside x (by repeat (first | exact Sub.nil | apply Sub.cons rfl | refine Sub.cons_eq rfl (by simp only [v9, v8, cond_true, cond_false]) ?_)) (fun w' hw' => by first | exact hw' | (simp only [v9, v8, cond_true, cond_false]; exact hw'))
    · intro x e2 hall
      have hx1 := x.hbt
      have hx2 := x.hc
      simp only [hall 0 (by decide), hall 1 (by decide), hall 2 (by decide), hall 3 (by decide), hall 4 (by decide), hall 5 (by decide), hall 6 (by decide), hall 7 (by decide), hall 8 (by decide), hall 9 (by decide), cond_true]
      generalize x.bt = bt at *
      generalize x.O = Ob at *
      generalize x.c = cb at *
      generalize x.q = qb at *
      clear x
      with_reducible apply At.next
      apply W.seq
      apply W.sr
      apply ofa; rfl; rfl; rfl
      apply old; rfl; rfl; exact .tail _ (.head _); rfl; rfl
      apply oop; rfl; apply Pev.len_slice; rfl; exact yes; rfl
      apply omv; rfl; rfl
      apply OL.nx
      apply W.block
      refine W.loop (G := Nat × GR) (fun g => g.1 ≤ p.1.kids.length) (fun g => p.1.kids.length - g.1)
        (fun g => [(0, true, .slice (some a) es.length cap), (3, true, .slice (some ⟨bn, 0, none⟩) es.length es.length), (4, true, .int .i64 (i : Int)), (5, true, .pointer (some ⟨bx, 0, none⟩)), (6, true, .pointer (some ⟨bt, 0, none⟩)), (14, true, .slice (some a) es.length cap), (15, true, .int .i64 (es.length : Int)), (16, true, .int .i64 (i : Int)), (31, true, .slice p.2.k.1 p.1.kids.length p.2.k.2), (32, true, .int .i64 (p.1.kids.length : Int)), (33, true, .int .i64 (g.1 : Int))])
        (fun g => Cls (blk bn 69 (nds tb i es.length) :: blk bx 28 [.int .i64 p.1.op, .int .i64 p.1.n, .slice p.2.b.1 p.1.binds.length p.2.b.2, .slice p.2.k.1 p.1.kids.length p.2.k.2, .slice p.2.a.1 p.1.alts.length p.2.a.2] :: pile wk.heap.size Ob [⟨qb, cb, ints p.1.binds⟩] :: blk bt 91 [.int .i64 p.1.op, .int .i64 p.1.n, .slice qb p.1.binds.length cb, .slice g.2.q g.1 g.2.c, .slice none 0 0] :: row wk.heap.size g.2.O g.2.q g.1 g.2.c 69 1 (ptrs (kp tb (p.1.kids.take g.1))) :: []) [wk, w]) (0, ⟨fun _ => False, none, 0⟩) (by simp) (by exact Sub.au) (fun w' hw' => Cls.mv (A := [_]) (I := [_, _, _, _]) (H := []) (hw'.row_nil wk.heap.size _ 1)) ?_
      rintro ⟨j, ⟨Ok, qk, ck⟩⟩ hj
      simp only at hj ⊢
      apply W.sr
      apply obn; rfl; rfl; rfl; apply Bin.lss
      apply OL.nx
      apply W.seq
      (refine W.cnd (fun hlt2 => ?_) (fun hlt2 => ?_)) <;> (try (exfalso; first | omega | exact hlt2 trivial | contradiction))
      · have hjl : j < p.1.kids.length := by omega
        obtain ⟨ak, k, hqk, habk, hk, hck⟩ := hok.k.get hjl
        have habk : ak.block < w.heap.size := habk
        have hkr := hdn k (List.mem_of_getElem? hk)
        obtain ⟨kn, rfl⟩ : ∃ kn : Nat, k = (kn : Int) := ⟨k.toNat, by omega⟩
        have hkn : (nds tb i es.length)[0 + (kn : Int).toNat * 1]? = some (.pointer (some ⟨tb kn, 0, none⟩)) := by
          have h1 := nds_get (tb := tb) (i := i) (n := es.length) (k := kn) (by omega) (by omega)
          simpa using h1
        rw [hqk]
        apply W.sk
        apply W.sb
        apply W.sr
        apply oop; rfl; apply Pev.idx; rfl; exact yes; rfl; exact yes; rfl; rfl; intro hcond; omega
        apply oop; rfl; apply Pev.load_kept; rfl; exact yes; exact .tail _ (.head _); rfl; intro hcond; assumption; intro hcond; (rw [add_block]; assumption); intro hcond; exact NotOwned.au
        apply oas; rfl; rfl
        apply OL.nx
        refine W.regany (X := XG [wk, w] p.1.binds.length wk.heap.size) (fun x e => [(49, true, bif e 12 then .pointer (some ⟨bt, 0 + 3, none⟩) else x.old 49), (48, true, bif e 11 then .pointer (some ⟨bt, 0, none⟩) else x.old 48), (47, true, bif e 10 then .slice (some ⟨x.g1, 0, none⟩) (j + 1) x.c1 else x.old 47), (46, true, bif e 9 then .slice (some ⟨x.b1, 0, none⟩) 1 1 else x.old 46), (45, true, bif e 8 then Value.pointer (some ⟨tb kn, 0, none⟩) else x.old 45), (44, true, bif e 7 then .pointer (some ⟨bn, 0 + (kn : Int).toNat * 1, none⟩) else x.old 44), (43, true, bif e 6 then .int .i64 (kn : Int) else x.old 43), (42, true, bif e 5 then .slice (some ⟨bn, 0, none⟩) es.length es.length else x.old 42), (41, true, bif e 4 then .slice qk j ck else x.old 41), (40, true, bif e 3 then .pointer (some ⟨bt, 0 + 3, none⟩) else x.old 40), (39, true, bif e 2 then .pointer (some ⟨bt, 0, none⟩) else x.old 39), (38, true, bif e 1 then .pointer (some ⟨bt, 0, none⟩) else x.old 38), (37, true, bif e 0 then .pointer (some ⟨bt, 0, none⟩) else x.old 37), (0, true, .slice (some a) es.length cap), (3, true, .slice (some ⟨bn, 0, none⟩) es.length es.length), (4, true, .int .i64 (i : Int)), (14, true, .slice (some a) es.length cap), (15, true, .int .i64 (es.length : Int)), (16, true, .int .i64 (i : Int)), (5, true, .pointer (some ⟨bx, 0, none⟩)), (6, true, .pointer (some ⟨bt, 0, none⟩)), (8, true, .int .i64 (kn : Int)), (31, true, .slice (some ak) p.1.kids.length p.2.k.2), (32, true, .int .i64 (p.1.kids.length : Int)), (33, true, .int .i64 (j : Int))])
          (fun x e => (blk bn 69 (nds tb i es.length)) :: (blk bx 28 [.int .i64 p.1.op, .int .i64 p.1.n, .slice p.2.b.1 p.1.binds.length p.2.b.2, .slice (some ak) p.1.kids.length p.2.k.2, .slice p.2.a.1 p.1.alts.length p.2.a.2]) :: (pile wk.heap.size Ob [⟨qb, cb, ints p.1.binds⟩]) :: (blk bt 91 [.int .i64 p.1.op, .int .i64 p.1.n, .slice qb p.1.binds.length cb, bif e 13 then .slice (some ⟨x.g1, 0, none⟩) (j + 1) x.c1 else .slice qk j ck, .slice none 0 0]) :: (bif e 10 then row wk.heap.size x.O1 (some ⟨x.g1, 0, none⟩) (j + 1) x.c1 69 1 ((ptrs (kp tb (p.1.kids.take j))) ++ [Value.pointer (some ⟨tb kn, 0, none⟩)]) else row wk.heap.size Ok qk j ck 69 1 (ptrs (kp tb (p.1.kids.take j)))) :: (bif e 9 then blk x.b1 69 [Value.pointer (some ⟨tb kn, 0, none⟩)] else nothing) :: [])
          (fun old => ⟨fun _ => False, none, p.1.binds.length, Nat.le_refl _, wk.heap.size, Nat.le_refl _, 0, 0, fun _ => False, wk.heap.size, Nat.le_refl _, old⟩) (by kernel_rfl) (by kernel_rfl) (fun w hw => hw.drew) (fun old => by repeat (first | exact SubO.nil | apply SubO.cons rfl | refine SubO.old rfl ?_)) (fun old w' hw' => hw'.add_nothing) ?_ ?_
        · intro x e i o ho hei hd hcl
          have hi : i < 14 := (List.getElem?_eq_some_iff.1 ho).1
          obtain rfl | rfl | rfl | rfl | rfl | rfl | rfl | rfl | rfl | rfl | rfl | rfl | rfl | rfl : i = 0 ∨ i = 1 ∨ i = 2 ∨ i = 3 ∨ i = 4 ∨ i = 5 ∨ i = 6 ∨ i = 7 ∨ i = 8 ∨ i = 9 ∨ i = 10 ∨ i = 11 ∨ i = 12 ∨ i = 13 := by omega
          · cases ho
            have v0 : Eng.upd e 0 0 = true := upd_eq
            simp only [hei, cond_true, cond_false]
            apply omv; rfl; rfl
            apply OL.nil
            exact At.beside x (by repeat (first | exact Sub.nil | apply Sub.cons rfl | refine Sub.cons_eq rfl (by simp only [v0, cond_true, cond_false]) ?_)) (fun w' hw' => by first | exact hw' | (simp only [v0, cond_true, cond_false]; exact hw'))
          · cases ho
            have v1 : Eng.upd e 1 1 = true := upd_eq
            simp only [hei, cond_true, cond_false]
            apply omv; rfl; rfl
            apply OL.nil
            exact At.beside x (by repeat (first | exact Sub.nil | apply Sub.cons rfl | refine Sub.cons_eq rfl (by simp only [v1, cond_true, cond_false]) ?_)) (fun w' hw' => by first | exact hw' | (simp only [v1, cond_true, cond_false]; exact hw'))
          · cases ho
            have h1 : e 1 = true := hd ⟨1, .data⟩ (by simp) rfl
            have v2 : Eng.upd e 2 2 = true := upd_eq
            have v1 : Eng.upd e 2 1 = true := upd_mono h1
            simp only [hei, h1, cond_true, cond_false]
            apply oop; rfl; apply Pev.nil_ptr; rfl; exact yes
            apply OL.nil
            exact At.beside x (by repeat (first | exact Sub.nil | apply Sub.cons rfl | refine Sub.cons_eq rfl (by simp only [v2, v1, cond_true, cond_false]) ?_)) (fun w' hw' => by first | exact hw' | (simp only [v2, v1, cond_true, cond_false]; exact hw'))
          · cases ho
            have h2 : e 2 = true := hd ⟨2, .data⟩ (by simp) rfl
            have v3 : Eng.upd e 3 3 = true := upd_eq
            have v2 : Eng.upd e 3 2 = true := upd_mono h2
            simp only [hei, h2, cond_true, cond_false]
            apply ofa; rfl; rfl; rfl
            apply OL.nil
            exact At.beside x (by repeat (first | exact Sub.nil | apply Sub.cons rfl | refine Sub.cons_eq rfl (by simp only [v3, v2, cond_true, cond_false]) ?_)) (fun w' hw' => by first | exact hw' | (simp only [v3, v2, cond_true, cond_false]; exact hw'))
          · cases ho
            have h3 : e 3 = true := hd ⟨3, .data⟩ (by simp) rfl
            have h13 : e 13 = false := hcl.not (i := 4) (j := 13) rfl hei (by kernel_rfl)
            have v4 : Eng.upd e 4 4 = true := upd_eq
            have v3 : Eng.upd e 4 3 = true := upd_mono h3
            have v13 : Eng.upd e 4 13 = false := h13
            simp only [hei, h3, h13, cond_true, cond_false]
            apply old; rfl; rfl; apply List.Mem.tail; exact .tail _ (.tail _ (.head _)); rfl; rfl
            apply OL.nil
            exact At.beside x (by repeat (first | exact Sub.nil | apply Sub.cons rfl | refine Sub.cons_eq rfl (by simp only [v4, v3, v13, cond_true, cond_false]) ?_)) (fun w' hw' => by first | exact hw' | (simp only [v4, v3, v13, cond_true, cond_false]; exact hw'))
          · cases ho
            have v5 : Eng.upd e 5 5 = true := upd_eq
            simp only [hei, cond_true, cond_false]
            apply omv; rfl; rfl
            apply OL.nil
            exact At.beside x (by repeat (first | exact Sub.nil | apply Sub.cons rfl | refine Sub.cons_eq rfl (by simp only [v5, cond_true, cond_false]) ?_)) (fun w' hw' => by first | exact hw' | (simp only [v5, cond_true, cond_false]; exact hw'))
          · cases ho
            have v6 : Eng.upd e 6 6 = true := upd_eq
            simp only [hei, cond_true, cond_false]
            apply omv; rfl; rfl
            apply OL.nil
            exact At.beside x (by repeat (first | exact Sub.nil | apply Sub.cons rfl | refine Sub.cons_eq rfl (by simp only [v6, cond_true, cond_false]) ?_)) (fun w' hw' => by first | exact hw' | (simp only [v6, cond_true, cond_false]; exact hw'))
          · cases ho
            have h5 : e 5 = true := hd ⟨5, .data⟩ (by simp) rfl
            have h6 : e 6 = true := hd ⟨6, .data⟩ (by simp) rfl
            have v7 : Eng.upd e 7 7 = true := upd_eq
            have v5 : Eng.upd e 7 5 = true := upd_mono h5
            have v6 : Eng.upd e 7 6 = true := upd_mono h6
            simp only [hei, h5, h6, cond_true, cond_false]
            apply oop; rfl; apply Pev.idxB; rfl; exact yes; rfl; exact yes; rfl; intro hcond; omega; rfl
            apply OL.nil
            exact At.beside x (by repeat (first | exact Sub.nil | apply Sub.cons rfl | refine Sub.cons_eq rfl (by simp only [v7, v5, v6, cond_true, cond_false]) ?_)) (fun w' hw' => by first | exact hw' | (simp only [v7, v5, v6, cond_true, cond_false]; exact hw'))
          · cases ho
            have h7 : e 7 = true := hd ⟨7, .data⟩ (by simp) rfl
            have v8 : Eng.upd e 8 8 = true := upd_eq
            have v7 : Eng.upd e 8 7 = true := upd_mono h7
            simp only [hei, h7, cond_true, cond_false]
            apply oop; rfl; apply Pev.load_blk; rfl; exact yes; exact .head _; rfl; assumption
            apply OL.nil
            exact At.beside x (by repeat (first | exact Sub.nil | apply Sub.cons rfl | refine Sub.cons_eq rfl (by simp only [v8, v7, cond_true, cond_false]) ?_)) (fun w' hw' => by first | exact hw' | (simp only [v8, v7, cond_true, cond_false]; exact hw'))
          · cases ho
            have h8 : e 8 = true := hd ⟨8, .data⟩ (by simp) rfl
            have v9 : Eng.upd e 9 9 = true := upd_eq
            have v8 : Eng.upd e 9 8 = true := upd_mono h8
            simp only [hei, h8, cond_true, cond_false]
            apply OL.buildSlice; rfl; rfl; rfl; exact Elems.au; rfl; rfl; (intro bk hbk; simp only [AllLe, and_true] at hbk)
            apply OL.nil
            exact At.beside { x with b1 := bk, hb1 := hbk.1 } (by repeat (first | exact Sub.nil | apply Sub.cons rfl | refine Sub.cons_eq rfl (by simp only [v9, v8, cond_true, cond_false]) ?_)) (fun w' hw' => by simp only [v9, v8, cond_true, cond_false]; exact Cls.fill (p := 5) (H := _ :: _ :: _ :: _ :: _ :: _ :: []) (.s (.s (.s (.s (.s .z))))) hw')
          · cases ho
            have h4 : e 4 = true := hd ⟨4, .data⟩ (by simp) rfl
            have h9 : e 9 = true := hd ⟨9, .data⟩ (by simp) rfl
            have h13 : e 13 = false := hcl.not (i := 10) (j := 13) rfl hei (by kernel_rfl)
            have v10 : Eng.upd e 10 10 = true := upd_eq
            have v4 : Eng.upd e 10 4 = true := upd_mono h4
            have v9 : Eng.upd e 10 9 = true := upd_mono h9
            have v13 : Eng.upd e 10 13 = false := h13
            simp only [hei, h4, h9, h13, cond_true, cond_false]
            apply OL.append
            rfl
            rfl
            rfl
            rfl
            (repeat (first | apply Hole.z | apply Hole.s))
            (repeat (first | exact List.Mem.head _ | apply List.Mem.tail))
            (repeat (first | apply Take.zero | apply Take.succ))
            rfl
            rfl
            exact ⟨wk, .head _, Nat.le_refl _⟩
            omega
            intro O1 g1 cap1
            apply OL.nil
            exact At.beside { x with g1 := g1, c1 := cap1, O1 := O1 } (by repeat (first | exact Sub.nil | apply Sub.cons rfl | refine Sub.cons_eq rfl (by simp only [v10, v4, v9, v13, cond_true, cond_false]) ?_)) (fun w' hw' => by first | exact hw' | (simp only [v10, v4, v9, v13, cond_true, cond_false]; exact hw'))
          · cases ho
            have h0 : e 0 = true := hd ⟨0, .data⟩ (by simp) rfl
            have v11 : Eng.upd e 11 11 = true := upd_eq
            have v0 : Eng.upd e 11 0 = true := upd_mono h0
            simp only [hei, h0, cond_true, cond_false]
            apply oop; rfl; apply Pev.nil_ptr; rfl; exact yes
            apply OL.nil
            exact At.beside x (by repeat (first | exact Sub.nil | apply Sub.cons rfl | refine Sub.cons_eq rfl (by simp only [v11, v0, cond_true, cond_false]) ?_)) (fun w' hw' => by first | exact hw' | (simp only [v11, v0, cond_true, cond_false]; exact hw'))
          · cases ho
            have h11 : e 11 = true := hd ⟨11, .data⟩ (by simp) rfl
            have v12 : Eng.upd e 12 12 = true := upd_eq
            have v11 : Eng.upd e 12 11 = true := upd_mono h11
            simp only [hei, h11, cond_true, cond_false]
            apply ofa; rfl; rfl; rfl
            apply OL.nil
            exact At.beside x (by repeat (first | exact Sub.nil | apply Sub.cons rfl | refine Sub.cons_eq rfl (by simp only [v12, v11, cond_true, cond_false]) ?_)) (fun w' hw' => by first | exact hw' | (simp only [v12, v11, cond_true, cond_false]; exact hw'))
          · cases ho
            have h10 : e 10 = true := hd ⟨10, .data⟩ (by simp) rfl
            have h12 : e 12 = true := hd ⟨12, .data⟩ (by simp) rfl
            have v13 : Eng.upd e 13 13 = true := upd_eq
            have v10 : Eng.upd e 13 10 = true := upd_mono h10
            have v12 : Eng.upd e 13 12 = true := upd_mono h12
            simp only [hei, h10, h12, cond_true, cond_false]
            apply OL.storeB; rfl; rfl; exact CellsL.one rfl; rfl; rfl; rfl; exact Swap.au; exact Put.au
            apply OL.nil
            exact At.beside x (by repeat (first | exact Sub.nil | apply Sub.cons rfl | refine Sub.cons_eq rfl (by simp only [v13, v10, v12, cond_true, cond_false]) ?_)) (fun w' hw' => by first | exact hw' | (simp only [v13, v10, v12, cond_true, cond_false]; exact hw'))
        · intro x e2 hall
          have hx1 := x.hb1
          simp only [hall 0 (by decide), hall 1 (by decide), hall 2 (by decide), hall 3 (by decide), hall 4 (by decide), hall 5 (by decide), hall 6 (by decide), hall 7 (by decide), hall 8 (by decide), hall 9 (by decide), hall 10 (by decide), hall 11 (by decide), hall 12 (by decide), hall 13 (by decide), cond_true]
          have hsn : ptrs (kp tb (p.1.kids.take j)) ++ [.pointer (some ⟨tb kn, 0, none⟩)] = ptrs (kp tb (p.1.kids.take (j + 1))) := by
            rw [List.take_add_one, hk]
            simp [ptrs, kp]
          rw [hsn]
          with_reducible apply At.in_normal
          with_reducible apply At.next
          apply W.reg
          apply obn; rfl; rfl; rfl; apply Bin.add_in; omega
          apply omv; rfl; rfl
          apply OL.nil
          exact At.again (j + 1, ⟨x.O1, some ⟨x.g1, 0, none⟩, x.c1⟩) (by simp only; omega) (by simp only; omega) (by exact Sub.au) (fun w' hw' => hw'.thin (.keep (.keep (.keep (.keep (.keep (.blk ⟨hx1, by omega, trivial⟩ Thin.same)))))))
      obtain rfl : j = p.1.kids.length := by omega
      rw [List.take_length]
      obtain ⟨ps, hps, harr⟩ := hok.alts
      have hpl : p.1.alts.length = ps.length := by rw [← hps, List.length_map]
      rw [hpl]
      refine W.xt ?_
      with_reducible apply At.next
      apply W.seq
      apply W.sr
      apply ofa; rfl; rfl; rfl
      apply old; rfl; rfl; exact .tail _ (.head _); rfl; rfl
      apply oop; rfl; apply Pev.len_slice; rfl; exact yes; rfl
      apply omv; rfl; rfl
      apply OL.nx
      apply W.block
      refine W.loop (G := Nat × GR × (Nat → Prop) × List (Al × Sc)) (fun g => g.1 ≤ ps.length ∧ g.2.2.2.map Prod.fst = (ps.take g.1).map Prod.fst ∧ ∀ s ∈ g.2.2.2, s.1.binds.length ≤ s.2.2) (fun g => ps.length - g.1)
        (fun g => [(0, true, .slice (some a) es.length cap), (3, true, .slice (some ⟨bn, 0, none⟩) es.length es.length), (4, true, .int .i64 (i : Int)), (6, true, .pointer (some ⟨bt, 0, none⟩)), (14, true, .slice (some a) es.length cap), (15, true, .int .i64 (es.length : Int)), (16, true, .int .i64 (i : Int)), (52, true, .slice p.2.a.1 ps.length p.2.a.2), (53, true, .int .i64 (ps.length : Int)), (54, true, .int .i64 (g.1 : Int))])
        (fun g => Cls (blk bn 69 (nds tb i es.length) :: pile wk.heap.size Ob [⟨qb, cb, ints p.1.binds⟩] :: blk bt 91 [.int .i64 p.1.op, .int .i64 p.1.n, .slice qb p.1.binds.length cb, .slice qk p.1.kids.length ck, .slice g.2.1.q g.1 g.2.1.c] :: row wk.heap.size Ok qk p.1.kids.length ck 69 1 (ptrs (kp tb p.1.kids)) :: row wk.heap.size g.2.1.O g.2.1.q g.1 g.2.1.c 132 2 (cat altR_.c g.2.2.2) :: pile wk.heap.size g.2.2.1 (g.2.2.2.map alSl) :: []) [wk, w]) (0, ⟨fun _ => False, none, 0⟩, (fun _ => False), []) ⟨by simp, by simp, fun s hs => by cases hs⟩ (by exact Sub.au) (fun w' hw' => ?_) ?_
      · have h1 := hw'.thin (.keep (.blk (by simp only [AllLe, and_true]; omega) Thin.same))
        exact Cls.mv (A := [_]) (I := [_, _, _, _, _]) (H := []) ((Cls.mv (A := [_]) (I := [_, _, _, _]) (H := []) (h1.row_nil wk.heap.size _ 2)).pile_nil wk.heap.size)
      rintro ⟨j, ⟨Oa, qa, ca⟩, Op, az⟩ ⟨hj2, has, hac⟩
      simp only at hj2 has hac ⊢
      have hasl : az.length = j := by
        have := congrArg List.length has
        simp at this
        omega
      apply W.sr
      apply obn; rfl; rfl; rfl; apply Bin.lss
      apply OL.nx
      apply W.seq
      (refine W.cnd (fun hlt2 => ?_) (fun hlt2 => ?_)) <;> (try (exfalso; first | omega | exact hlt2 trivial | contradiction))
      · have hjl : j < ps.length := by omega
        obtain ⟨aa, u, hqa, haba, hu, hca, hok2⟩ := harr.get hjl
        have haba : aa.block < w.heap.size := haba
        have hca : CellsAt w (aa.add (j * 2)) [.int .i64 u.1.tag, .slice u.2.1 u.1.binds.length u.2.2] := hca
        have huo := hok2.2.2
        have hul : u.1.binds.length ≤ 16 := hL.ab u.1 (by rw [← hps]; exact List.mem_map_of_mem (List.mem_of_getElem? hu))
        rw [hqa]
        apply W.sk
        apply W.sb
        apply W.sr
        apply oop; rfl; apply Pev.idx; rfl; exact yes; rfl; exact yes; rfl; rfl; intro hcond; omega
        apply oop; rfl; apply Pev.load_keptA; rfl; exact yes; exact .tail _ (.head _); rfl; intro hcond; assumption; rfl; intro hcond; (rw [add_block]; assumption); intro hcond; exact NotOwned.au
        apply OL.alloc; rfl; rfl; exact CellsL.agg; (intro bk hbk; simp only [AllLe, and_true] at hbk)
        apply OL.storeB; rfl; rfl; exact CellsL.agg; rfl; rfl; rfl; exact Swap.au; exact Put.au
        apply OL.nx
        revert bk
        intro ba hba
        refine W.cls (fun w' hw' => Cls.mv (A := [_]) (I := [_, _, _, _, _, _]) (H := []) hw') ?_
        simp only [List.cons_append, List.nil_append]
        refine W.regany (X := XG [wk, w] u.1.binds.length wk.heap.size) (fun x e => [(72, true, bif e 14 then .pointer (some ⟨bt, 0 + 4, none⟩) else x.old 72), (71, true, bif e 13 then .pointer (some ⟨bt, 0, none⟩) else x.old 71), (70, true, bif e 12 then .slice (some ⟨x.g1, 0, none⟩) (j + 1) x.c1 else x.old 70), (69, true, bif e 11 then .slice (some ⟨x.b1, 0, none⟩) 1 1 else x.old 69), (68, true, bif e 10 then .agg [.int .i64 u.1.tag, .slice x.q u.1.binds.length x.c].toArray else x.old 68), (67, true, bif e 9 then .slice x.q u.1.binds.length x.c else x.old 67), (66, true, bif e 8 then .slice u.2.1 u.1.binds.length u.2.2 else x.old 66), (65, true, bif e 7 then .pointer (some ⟨ba, 0 + 1, none⟩) else x.old 65), (64, true, bif e 6 then .int .i64 u.1.tag else x.old 64), (63, true, bif e 5 then .pointer (some ⟨ba, 0 + 0, none⟩) else x.old 63), (62, true, bif e 4 then .slice qa j ca else x.old 62), (61, true, bif e 3 then .pointer (some ⟨bt, 0 + 4, none⟩) else x.old 61), (60, true, bif e 2 then .pointer (some ⟨bt, 0, none⟩) else x.old 60), (59, true, bif e 1 then .pointer (some ⟨bt, 0, none⟩) else x.old 59), (58, true, bif e 0 then .pointer (some ⟨bt, 0, none⟩) else x.old 58), (0, true, .slice (some a) es.length cap), (3, true, .slice (some ⟨bn, 0, none⟩) es.length es.length), (4, true, .int .i64 (i : Int)), (14, true, .slice (some a) es.length cap), (15, true, .int .i64 (es.length : Int)), (16, true, .int .i64 (i : Int)), (6, true, .pointer (some ⟨bt, 0, none⟩)), (10, true, .pointer (some ⟨ba, 0, none⟩)), (52, true, .slice (some aa) ps.length p.2.a.2), (53, true, .int .i64 (ps.length : Int)), (54, true, .int .i64 (j : Int))])
          (fun x e => (blk bn 69 (nds tb i es.length)) :: (pile wk.heap.size Ob [⟨qb, cb, ints p.1.binds⟩]) :: (blk bt 91 [.int .i64 p.1.op, .int .i64 p.1.n, .slice qb p.1.binds.length cb, .slice qk p.1.kids.length ck, bif e 15 then .slice (some ⟨x.g1, 0, none⟩) (j + 1) x.c1 else .slice qa j ca]) :: (row wk.heap.size Ok qk p.1.kids.length ck 69 1 (ptrs (kp tb p.1.kids))) :: (bif e 12 then row wk.heap.size x.O1 (some ⟨x.g1, 0, none⟩) (j + 1) x.c1 132 2 (cat altR_.c az ++ [.int .i64 u.1.tag, .slice x.q u.1.binds.length x.c]) else row wk.heap.size Oa qa j ca 132 2 (cat altR_.c az)) :: (pile wk.heap.size Op (az.map alSl)) :: (blk ba 132 [.int .i64 u.1.tag, .slice u.2.1 u.1.binds.length u.2.2]) :: (bif e 9 then pile wk.heap.size x.O [⟨x.q, x.c, ints u.1.binds⟩] else nothing) :: (bif e 11 then blk x.b1 132 [.int .i64 u.1.tag, .slice x.q u.1.binds.length x.c] else nothing) :: [])
          (fun old => ⟨fun _ => False, none, u.1.binds.length, Nat.le_refl _, wk.heap.size, Nat.le_refl _, 0, 0, fun _ => False, wk.heap.size, Nat.le_refl _, old⟩) (by kernel_rfl) (by kernel_rfl) (fun w hw => hw.drew) (fun old => by repeat (first | exact SubO.nil | apply SubO.cons rfl | refine SubO.old rfl ?_)) (fun old w' hw' => hw'.add_nothing.add_nothing) ?_ ?_
        · intro x e i o ho hei hd hcl
          have hi : i < 16 := (List.getElem?_eq_some_iff.1 ho).1
          obtain rfl | rfl | rfl | rfl | rfl | rfl | rfl | rfl | rfl | rfl | rfl | rfl | rfl | rfl | rfl | rfl : i = 0 ∨ i = 1 ∨ i = 2 ∨ i = 3 ∨ i = 4 ∨ i = 5 ∨ i = 6 ∨ i = 7 ∨ i = 8 ∨ i = 9 ∨ i = 10 ∨ i = 11 ∨ i = 12 ∨ i = 13 ∨ i = 14 ∨ i = 15 := by omega
          · cases ho
            have v0 : Eng.upd e 0 0 = true := upd_eq
            simp only [hei, cond_true, cond_false]
            apply omv; rfl; rfl
            apply OL.nil
            exact At.beside x (by repeat (first | exact Sub.nil | apply Sub.cons rfl | refine Sub.cons_eq rfl (by simp only [v0, cond_true, cond_false]) ?_)) (fun w' hw' => by first | exact hw' | (simp only [v0, cond_true, cond_false]; exact hw'))
          · cases ho
            have v1 : Eng.upd e 1 1 = true := upd_eq
            simp only [hei, cond_true, cond_false]
            apply omv; rfl; rfl
            apply OL.nil
            exact At.beside x (by repeat (first | exact Sub.nil | apply Sub.cons rfl | refine Sub.cons_eq rfl (by simp only [v1, cond_true, cond_false]) ?_)) (fun w' hw' => by first | exact hw' | (simp only [v1, cond_true, cond_false]; exact hw'))
          · cases ho
            have h1 : e 1 = true := hd ⟨1, .data⟩ (by simp) rfl
            have v2 : Eng.upd e 2 2 = true := upd_eq
            have v1 : Eng.upd e 2 1 = true := upd_mono h1
            simp only [hei, h1, cond_true, cond_false]
            apply oop; rfl; apply Pev.nil_ptr; rfl; exact yes
            apply OL.nil
            exact At.beside x (by repeat (first | exact Sub.nil | apply Sub.cons rfl | refine Sub.cons_eq rfl (by simp only [v2, v1, cond_true, cond_false]) ?_)) (fun w' hw' => by first | exact hw' | (simp only [v2, v1, cond_true, cond_false]; exact hw'))
          · cases ho
            have h2 : e 2 = true := hd ⟨2, .data⟩ (by simp) rfl
            have v3 : Eng.upd e 3 3 = true := upd_eq
            have v2 : Eng.upd e 3 2 = true := upd_mono h2
            simp only [hei, h2, cond_true, cond_false]
            apply ofa; rfl; rfl; rfl
            apply OL.nil
            exact At.beside x (by repeat (first | exact Sub.nil | apply Sub.cons rfl | refine Sub.cons_eq rfl (by simp only [v3, v2, cond_true, cond_false]) ?_)) (fun w' hw' => by first | exact hw' | (simp only [v3, v2, cond_true, cond_false]; exact hw'))
          · cases ho
            have h3 : e 3 = true := hd ⟨3, .data⟩ (by simp) rfl
            have h15 : e 15 = false := hcl.not (i := 4) (j := 15) rfl hei (by kernel_rfl)
            have v4 : Eng.upd e 4 4 = true := upd_eq
            have v3 : Eng.upd e 4 3 = true := upd_mono h3
            have v15 : Eng.upd e 4 15 = false := h15
            simp only [hei, h3, h15, cond_true, cond_false]
            apply old; rfl; rfl; exact .tail _ (.tail _ (.head _)); rfl; rfl
            apply OL.nil
            exact At.beside x (by repeat (first | exact Sub.nil | apply Sub.cons rfl | refine Sub.cons_eq rfl (by simp only [v4, v3, v15, cond_true, cond_false]) ?_)) (fun w' hw' => by first | exact hw' | (simp only [v4, v3, v15, cond_true, cond_false]; exact hw'))
          · cases ho
            have v5 : Eng.upd e 5 5 = true := upd_eq
            simp only [hei, cond_true, cond_false]
            apply ofa; rfl; rfl; rfl
            apply OL.nil
            exact At.beside x (by repeat (first | exact Sub.nil | apply Sub.cons rfl | refine Sub.cons_eq rfl (by simp only [v5, cond_true, cond_false]) ?_)) (fun w' hw' => by first | exact hw' | (simp only [v5, cond_true, cond_false]; exact hw'))
          · cases ho
            have h5 : e 5 = true := hd ⟨5, .data⟩ (by simp) rfl
            have v6 : Eng.upd e 6 6 = true := upd_eq
            have v5 : Eng.upd e 6 5 = true := upd_mono h5
            simp only [hei, h5, cond_true, cond_false]
            apply old; rfl; rfl; apply List.Mem.tail; apply List.Mem.tail; apply List.Mem.tail; apply List.Mem.tail; exact .tail _ (.tail _ (.head _)); rfl; rfl
            apply OL.nil
            exact At.beside x (by repeat (first | exact Sub.nil | apply Sub.cons rfl | refine Sub.cons_eq rfl (by simp only [v6, v5, cond_true, cond_false]) ?_)) (fun w' hw' => by first | exact hw' | (simp only [v6, v5, cond_true, cond_false]; exact hw'))
          · cases ho
            have v7 : Eng.upd e 7 7 = true := upd_eq
            simp only [hei, cond_true, cond_false]
            apply ofa; rfl; rfl; rfl
            apply OL.nil
            exact At.beside x (by repeat (first | exact Sub.nil | apply Sub.cons rfl | refine Sub.cons_eq rfl (by simp only [v7, cond_true, cond_false]) ?_)) (fun w' hw' => by first | exact hw' | (simp only [v7, cond_true, cond_false]; exact hw'))
          · cases ho
            have h7 : e 7 = true := hd ⟨7, .data⟩ (by simp) rfl
            have v8 : Eng.upd e 8 8 = true := upd_eq
            have v7 : Eng.upd e 8 7 = true := upd_mono h7
            simp only [hei, h7, cond_true, cond_false]
            apply old; rfl; rfl; apply List.Mem.tail; apply List.Mem.tail; apply List.Mem.tail; apply List.Mem.tail; exact .tail _ (.tail _ (.head _)); rfl; rfl
            apply OL.nil
            exact At.beside x (by repeat (first | exact Sub.nil | apply Sub.cons rfl | refine Sub.cons_eq rfl (by simp only [v8, v7, cond_true, cond_false]) ?_)) (fun w' hw' => by first | exact hw' | (simp only [v8, v7, cond_true, cond_false]; exact hw'))
          · cases ho
            have h8 : e 8 = true := hd ⟨8, .data⟩ (by simp) rfl
            have h10 : e 10 = false := hcl.not (i := 9) (j := 10) rfl hei (by kernel_rfl)
            have h11 : e 11 = false := hcl.not (i := 10) (j := 11) rfl h10 (by kernel_rfl)
            have h12 : e 12 = false := hcl.not (i := 9) (j := 12) rfl hei (by kernel_rfl)
            have h15 : e 15 = false := hcl.not (i := 9) (j := 15) rfl hei (by kernel_rfl)
            have v9 : Eng.upd e 9 9 = true := upd_eq
            have v8 : Eng.upd e 9 8 = true := upd_mono h8
            have v10 : Eng.upd e 9 10 = false := h10
            have v11 : Eng.upd e 9 11 = false := h11
            have v12 : Eng.upd e 9 12 = false := h12
            have v15 : Eng.upd e 9 15 = false := h15
            simp only [hei, h8, h10, h11, h12, h15, cond_true, cond_false]
            refine OL.callE (α := (Nat → Prop) × Option Addr × Nat) (fun z => .slice z.2.1 u.1.binds.length z.2.2) (fun z => u.1.binds.length ≤ z.2.2) (fun z => Cls (pile wk.heap.size z.1 [⟨z.2.1, z.2.2, ints u.1.binds⟩] :: blk bn 69 (nds tb i es.length) :: pile wk.heap.size Ob [⟨qb, cb, ints p.1.binds⟩] :: blk bt 91 [.int .i64 p.1.op, .int .i64 p.1.n, .slice qb p.1.binds.length cb, .slice qk p.1.kids.length ck, .slice qa j ca] :: row wk.heap.size Ok qk p.1.kids.length ck 69 1 (ptrs (kp tb p.1.kids)) :: row wk.heap.size Oa qa j ca 132 2 (cat altR_.c az) :: pile wk.heap.size Op (az.map alSl) :: blk ba 132 [.int .i64 u.1.tag, .slice u.2.1 u.1.binds.length u.2.2] :: nothing :: nothing :: []) [wk, w]) rfl rfl (by exact Args.au) (fun w2 hw2 => ?_) ?_
            · exact (Clone_calls u.2.1 u.2.2 u.1.binds w2 (huo.at hw2 (.tail _ (.head _)) (fun k hk => by exact NotOwned.au)) (by omega)).mono fun e w3 ⟨q', c', h1, h2, h3, h4⟩ => ⟨(_, q', c'), h1, h4, hw2.pile_new (hw2.kp wk (.head _)).size h2 (fun hl => h3 (by rwa [ints_length] at hl))⟩
            rintro ⟨Oc, qc, cc⟩ hcc
            simp only at hcc ⊢
            apply OL.nil
            exact At.beside { x with O := Oc, q := qc, c := cc, hc := hcc } (by repeat (first | exact Sub.nil | apply Sub.cons rfl | refine Sub.cons_eq rfl (by simp only [v9, v8, v10, v11, v12, v15, cond_true, cond_false]) ?_)) (fun w' hw' => by simp only [v9, v8, v10, v11, v12, v15, cond_true, cond_false]; exact Cls.fill (p := 7) (H := _ :: _ :: _ :: _ :: _ :: _ :: _ :: _ :: _ :: []) (.s (.s (.s (.s (.s (.s (.s .z))))))) hw')
          · cases ho
            have h6 : e 6 = true := hd ⟨6, .data⟩ (by simp) rfl
            have h9 : e 9 = true := hd ⟨9, .data⟩ (by simp) rfl
            have v10 : Eng.upd e 10 10 = true := upd_eq
            have v6 : Eng.upd e 10 6 = true := upd_mono h6
            have v9 : Eng.upd e 10 9 = true := upd_mono h9
            simp only [hei, h6, h9, cond_true, cond_false]
            apply oop; rfl; apply Pev.build; rfl; exact CellsL.agg; rfl; exact Fill.au; rfl
            apply OL.nil
            exact At.beside x (by repeat (first | exact Sub.nil | apply Sub.cons rfl | refine Sub.cons_eq rfl (by simp only [v10, v6, v9, cond_true, cond_false]) ?_)) (fun w' hw' => by first | exact hw' | (simp only [v10, v6, v9, cond_true, cond_false]; exact hw'))
          · cases ho
            have h10 : e 10 = true := hd ⟨10, .data⟩ (by simp) rfl
            have h12 : e 12 = false := hcl.not (i := 11) (j := 12) rfl hei (by kernel_rfl)
            have v11 : Eng.upd e 11 11 = true := upd_eq
            have v10 : Eng.upd e 11 10 = true := upd_mono h10
            have v12 : Eng.upd e 11 12 = false := h12
            simp only [hei, h10, h12, cond_true, cond_false]
            apply OL.buildSlice; rfl; rfl; rfl; exact Elems.au; rfl; rfl; (intro bk hbk; simp only [AllLe, and_true] at hbk)
            apply OL.nil
            exact At.beside { x with b1 := bk, hb1 := hbk.1 } (by repeat (first | exact Sub.nil | apply Sub.cons rfl | refine Sub.cons_eq rfl (by simp only [v11, v10, v12, cond_true, cond_false]) ?_)) (fun w' hw' => by simp only [v11, v10, v12, cond_true, cond_false]; exact Cls.fill (p := 8) (H := _ :: _ :: _ :: _ :: _ :: _ :: _ :: _ :: _ :: []) (.s (.s (.s (.s (.s (.s (.s (.s .z)))))))) hw')
          · cases ho
            have h4 : e 4 = true := hd ⟨4, .data⟩ (by simp) rfl
            have h11 : e 11 = true := hd ⟨11, .data⟩ (by simp) rfl
            have h15 : e 15 = false := hcl.not (i := 12) (j := 15) rfl hei (by kernel_rfl)
            have v12 : Eng.upd e 12 12 = true := upd_eq
            have v4 : Eng.upd e 12 4 = true := upd_mono h4
            have v11 : Eng.upd e 12 11 = true := upd_mono h11
            have v15 : Eng.upd e 12 15 = false := h15
            simp only [hei, h4, h11, h15, cond_true, cond_false]
            apply OL.append
            rfl
            rfl
            rfl
            rfl
            (repeat (first | apply Hole.z | apply Hole.s))
            (repeat (first | exact List.Mem.head _ | apply List.Mem.tail))
            (repeat (first | apply Take.zero | apply Take.succ))
            rfl
            rfl
            exact ⟨wk, .head _, Nat.le_refl _⟩
            omega
            intro O1 g1 cap1
            apply OL.nil
            exact At.beside { x with g1 := g1, c1 := cap1, O1 := O1 } (by repeat (first | exact Sub.nil | apply Sub.cons rfl | refine Sub.cons_eq rfl (by simp only [v12, v4, v11, v15, cond_true, cond_false]) ?_)) (fun w' hw' => by first | exact hw' | (simp only [v12, v4, v11, v15, cond_true, cond_false]; exact hw'))
          · cases ho
            have h0 : e 0 = true := hd ⟨0, .data⟩ (by simp) rfl
            have v13 : Eng.upd e 13 13 = true := upd_eq
            have v0 : Eng.upd e 13 0 = true := upd_mono h0
            simp only [hei, h0, cond_true, cond_false]
            apply oop; rfl; apply Pev.nil_ptr; rfl; exact yes
            apply OL.nil
            exact At.beside x (by repeat (first | exact Sub.nil | apply Sub.cons rfl | refine Sub.cons_eq rfl (by simp only [v13, v0, cond_true, cond_false]) ?_)) (fun w' hw' => by first | exact hw' | (simp only [v13, v0, cond_true, cond_false]; exact hw'))
          · cases ho
            have h13 : e 13 = true := hd ⟨13, .data⟩ (by simp) rfl
            have v14 : Eng.upd e 14 14 = true := upd_eq
            have v13 : Eng.upd e 14 13 = true := upd_mono h13
            simp only [hei, h13, cond_true, cond_false]
            apply ofa; rfl; rfl; rfl
            apply OL.nil
            exact At.beside x (by repeat (first | exact Sub.nil | apply Sub.cons rfl | refine Sub.cons_eq rfl (by simp only [v14, v13, cond_true, cond_false]) ?_)) (fun w' hw' => by first | exact hw' | (simp only [v14, v13, cond_true, cond_false]; exact hw'))
          · cases ho
            have h12 : e 12 = true := hd ⟨12, .data⟩ (by simp) rfl
            have h14 : e 14 = true := hd ⟨14, .data⟩ (by simp) rfl
            have v15 : Eng.upd e 15 15 = true := upd_eq
            have v12 : Eng.upd e 15 12 = true := upd_mono h12
            have v14 : Eng.upd e 15 14 = true := upd_mono h14
            simp only [hei, h12, h14, cond_true, cond_false]
            apply OL.storeB; rfl; rfl; exact CellsL.one rfl; rfl; rfl; rfl; exact Swap.au; exact Put.au
            apply OL.nil
            exact At.beside x (by repeat (first | exact Sub.nil | apply Sub.cons rfl | refine Sub.cons_eq rfl (by simp only [v15, v12, v14, cond_true, cond_false]) ?_)) (fun w' hw' => by first | exact hw' | (simp only [v15, v12, v14, cond_true, cond_false]; exact hw'))
        · intro x e2 hall
          have hx1 := x.hb1
          have hx2 := x.hc
          simp only [hall 0 (by decide), hall 1 (by decide), hall 2 (by decide), hall 3 (by decide), hall 4 (by decide), hall 5 (by decide), hall 6 (by decide), hall 7 (by decide), hall 8 (by decide), hall 9 (by decide), hall 10 (by decide), hall 11 (by decide), hall 12 (by decide), hall 13 (by decide), hall 14 (by decide), hall 15 (by decide), cond_true]
          have hsn : cat altR_.c az ++ [.int .i64 u.1.tag, .slice x.q u.1.binds.length x.c] = cat altR_.c (az ++ [(u.1, (x.q, x.c))]) := by
            rw [cat_append, cat_one]
            rfl
          rw [hsn]
          with_reducible apply At.in_normal
          with_reducible apply At.next
          apply W.reg
          apply obn; rfl; rfl; rfl; apply Bin.add_in; omega
          apply omv; rfl; rfl
          apply OL.nil
          have hax : (az ++ [(u.1, (x.q, x.c))]).map alSl = az.map alSl ++ [⟨x.q, x.c, ints u.1.binds⟩] := by rw [List.map_append]; rfl
          refine At.again (j + 1, ⟨x.O1, some ⟨x.g1, 0, none⟩, x.c1⟩, (fun k => x.O k ∨ Op k), az ++ [(u.1, (x.q, x.c))]) ⟨by simp only; omega, ?_, fun s hs => ?_⟩ (by simp only; omega) (by exact Sub.au) (fun w' hw' => ?_)
          · simp only
            rw [List.map_append, has, List.take_add_one, hu]
            simp
          · simp only at hs
            rcases List.mem_append.1 hs with hs | hs
            · exact hac s hs
            · obtain rfl := List.mem_singleton.1 hs
              exact hx2
          · simp only [hax]
            have h1 := hw'.thin (.keep (.keep (.keep (.keep (.keep (.keep (.blk (by simp only [AllLe, and_true]; omega) (.keep (.blk ⟨hx1, by omega, trivial⟩ Thin.nil)))))))))
            exact Cls.mv (A := [_]) (I := [_, _, _, _, _]) (H := []) (Cls.pile_merge (Cls.flip (Cls.mv (A := [_, _, _, _, _, _]) (I := [_]) (H := []) (Cls.mv (A := [_, _, _, _, _, _]) (I := [_]) (H := []) h1))))
      obtain rfl : j = ps.length := by omega
      rw [List.take_length, hps] at has
      rw [← hpl] at *
      refine W.xt ?_
      with_reducible apply At.next
      apply W.reg
      apply omv; rfl; rfl
      apply omv; rfl; rfl
      apply omv; rfl; rfl
      apply oop; rfl; apply Pev.idxB; rfl; exact yes; rfl; exact yes; rfl; intro hcond; omega; rfl
      (apply OL.storeI); rfl; rfl; rfl; rfl; rfl; (exact Swap.au); (rw [nds_length]; omega)
      have hset : (nds tb i es.length).set (0 + (i : Int).toNat * 1) (.pointer (some ⟨bt, 0, none⟩)) = nds (fun k => if k = i then bt else tb k) (i + 1) es.length := by
        rw [show 0 + (i : Int).toNat * 1 = i by simp, nds_set hil]
      rw [hset]
      apply OL.nil
      with_reducible apply At.in_normal
      with_reducible apply At.next
      apply W.reg
      apply obn; rfl; rfl; rfl; apply Bin.add_in; omega
      apply omv; rfl; rfl
      apply OL.nil
      refine At.againE (fun w' hw' => ⟨(i + 1, w', fun k => if k = i then bt else tb k), ⟨by simp only; omega, Nat.le_trans hwk (hw'.kp wk (.head _)).size, Nat.lt_of_lt_of_le hbnk (hw'.kp wk (.head _)).size, ?_⟩, by simp only; omega, (by exact Sub.au), ?_⟩)
      · intro k hk
        simp only at hk ⊢
        have hsz := (hw'.kp wk (.head _)).size
        have hold : ∀ m, m < i → TrO w' (fun b => b < w'.heap.size ∧ b ≠ bn ∧ w.heap.size ≤ b) (grow e m) (tb m) := fun m hm =>
          TrO.mono (fun b hb => ⟨Nat.lt_of_lt_of_le hb.1 hsz, hb.2⟩) (TrO.stab (fun b hb => (hw'.kp wk (.head _)).block b hb.1 (NotOwned.not (by have h1 := hb.1; have h2 := hb.2.1; exact NotOwned.au))) (htr m hm))
        have hup : ∀ (j : Eng.Item) (b : Nat), j ∈ (blk bn 69 (nds (fun k => if k = i then bt else tb k) (i + 1) es.length) :: pile wk.heap.size Ob [⟨qb, cb, ints p.1.binds⟩] :: blk bt 91 [.int .i64 p.1.op, .int .i64 p.1.n, .slice qb p.1.binds.length cb, .slice qk p.1.kids.length ck, .slice qa p.1.alts.length ca] :: row wk.heap.size Ok qk p.1.kids.length ck 69 1 (ptrs (kp tb p.1.kids)) :: row wk.heap.size Oa qa p.1.alts.length ca 132 2 (cat altR_.c az) :: pile wk.heap.size Op (az.map alSl) :: [] : List Eng.Item) → j.own b → wk.heap.size ≤ b → b < w'.heap.size ∧ b ≠ bn ∧ w.heap.size ≤ b := fun j b hj hb hle => ⟨hw'.lt j hj b hb, by omega, by omega⟩
        by_cases hki : k = i
        · subst hki
          rw [if_pos rfl, grow_eq hd hpe]
          have hbt := hw'.item (i := blk bt 91 [.int .i64 p.1.op, .int .i64 p.1.n, .slice qb p.1.binds.length cb, .slice qk p.1.kids.length ck, .slice qa p.1.alts.length ca]) (by exact mau)
          have hpb := hw'.item (i := pile wk.heap.size Ob [⟨qb, cb, ints p.1.binds⟩]) (by exact mau)
          have hrk := hw'.item (i := row wk.heap.size Ok qk p.1.kids.length ck 69 1 (ptrs (kp tb p.1.kids))) (by exact mau)
          have hra := hw'.item (i := row wk.heap.size Oa qa p.1.alts.length ca 132 2 (cat altR_.c az)) (by exact mau)
          have hpa := hw'.item (i := pile wk.heap.size Op (az.map alSl)) (by exact mau)
          simp only [TrO]
          refine ⟨⟨(qb, cb), (qk, ck), (qa, ca)⟩, ⟨hup _ bt (.tail _ (.tail _ (.head _))) rfl hx1, fun j v hj => ?_, hLb, hLa, hL.ab, fun hl => ?_, ⟨az, has, fun hl => ?_, fun s hs => ?_⟩⟩, by rw [List.length_map]; exact hkl1, fun hl => ?_⟩
          · rw [add_mid, blk_cell hbt, Nat.zero_add]
            rw [List.length_map] at hj
            exact hj
          · obtain ⟨a, h1, h2, h3⟩ := hpb _ (.head _) (by rw [ints_length]; exact hl)
            exact ⟨a, h1, hup (pile wk.heap.size Ob [⟨qb, cb, ints p.1.binds⟩]) _ (.tail _ (.head _)) h2 h2.1, h3⟩
          · obtain ⟨a, h1, h2, h3⟩ := row_at hra (by rw [cat_length (f := altR_.c) altR_.clen]; exact Nat.mul_pos hl (by decide))
            exact ⟨a, h1, hup (row wk.heap.size Oa qa p.1.alts.length ca 132 2 (cat altR_.c az)) _ (.tail _ (.tail _ (.tail _ (.tail _ (.head _))))) h2 h2.1, h3⟩
          · have hs1 : s.1 ∈ p.1.alts := by rw [← has]; exact List.mem_map_of_mem hs
            obtain ⟨u, hu, hus⟩ : ∃ u ∈ ps, u.1 = s.1 := by
              rw [← hps] at hs1
              obtain ⟨u, hu, hus⟩ := List.mem_map.1 hs1
              exact ⟨u, hu, hus⟩
            have hou := (harr.el u hu).1
            rw [hus] at hou
            refine ⟨hou, ⟨Nat.le_trans (hL.ab _ hs1) (by decide), hac s hs⟩, fun hl => ?_⟩
            obtain ⟨a, h1, h2, h3⟩ := hpa (alSl s) (List.mem_map_of_mem hs) (by show 0 < (ints s.1.binds).length; rw [ints_length]; exact hl)
            exact ⟨a, h1, hup (pile wk.heap.size Op (az.map alSl)) _ (.tail _ (.tail _ (.tail _ (.tail _ (.tail _ (.head _)))))) h2 h2.1, h3⟩
          · rw [List.length_map] at hl
            obtain ⟨a, h1, h2, h3⟩ := row_at hrk (by simpa [ptrs, kp] using hl)
            refine ⟨a, h1, hup (row wk.heap.size Ok qk p.1.kids.length ck 69 1 (ptrs (kp tb p.1.kids))) _ (.tail _ (.tail _ (.tail _ (.head _)))) h2 h2.1, TrsO.of (bs := kp tb p.1.kids) (by simp [kp]) h3 (fun m t b h4 h5 => ?_)⟩
            simp only [kp, List.getElem?_map] at h4 h5
            cases hkm : p.1.kids[m]? with
            | none => rw [hkm] at h4; cases h4
            | some kv =>
              simp only [hkm, Option.map_some, Option.some.injEq] at h4 h5
              subst h4 h5
              have hkr := hdn kv (List.mem_of_getElem? hkm)
              exact hold kv.toNat (by omega)
        · rw [if_neg hki]
          exact hold k (by omega)
      · simp only
        have hany : ∀ (j : Eng.Item), (∀ k, j.own k → wk.heap.size ≤ k) → ∀ k, j.own k → AllLe [wk, w] k := fun j hj k hk => ⟨hj k hk, Nat.le_trans hwk (hj k hk), trivial⟩
        exact ((hw'.thin (.keep (.any (hany _ fun k hk => hk.1) (.blk ⟨hx1, Nat.le_trans hwk hx1, trivial⟩ (.any (hany _ fun k hk => hk.1) (.any (hany _ fun k hk => hk.1) (.any (hany _ fun k hk => hk.1) Thin.nil))))))).note).forget (fun s hs => by simp at hs ⊢; rcases hs with rfl | rfl <;> simp)
  · obtain rfl : i = es.length := by omega
    have hlast : (nds tb es.length es.length)[0 + ((es.length : Int) - 1).toNat * 1]? = some (.pointer (some ⟨tb (es.length - 1), 0, none⟩)) := by
      rw [show 0 + ((es.length : Int) - 1).toNat * 1 = es.length - 1 by omega]
      exact nds_get (by omega) (by omega)
    refine W.xt ?_
    with_reducible apply At.next
    apply W.sr
    apply omv; rfl; rfl
    apply omv; rfl; rfl
    apply oop; rfl; apply Pev.len_slice; rfl; exact yes; rfl
    apply obn; rfl; rfl; rfl; apply Bin.sub_in; omega
    apply oop; rfl; apply Pev.idxB; rfl; exact yes; rfl; exact yes; rfl; intro hcond; omega; rfl
    apply oop; rfl; apply Pev.load_blk; rfl; exact yes; exact .head _; rfl; assumption
    apply oas; rfl; rfl
    apply OL.nx
    apply W.ret
    ((with_reducible apply At.fin1); rfl; rfl; intro w' hw')
    have hsz := (hw'.kp wk (.head _)).size
    exact ⟨tb (es.length - 1), rfl, by (exact hw'.fr), TrO.mono (fun b hb => ⟨hb.2.2, Nat.lt_of_lt_of_le hb.1 hsz⟩) (TrO.stab (fun b hb => (hw'.kp wk (.head _)).block b hb.1 (NotOwned.not (by have h1 := hb.1; have h2 := hb.2.1; exact NotOwned.au))) (htr _ (by omega)))⟩
theorem Grow_calls (es : List (Ex × ExY)) (q : Option Addr) (cap : Nat) (w : World) (he : Arr exR w (low w) es q) (hlen : es.length ≤ 4096) (h0 : 0 < es.length) (hd : Down (es.map Prod.fst)) (hlim : ∀ p ∈ es, Lim p.1) (hkl : ∀ p ∈ es, p.1.kids.length ≤ 4096) :
    Calls Tryd.prog 49 [.slice q es.length cap].toArray w fun e w' => ∃ b, e = .returned (.pointer (some ⟨b, 0, none⟩)) ∧ Ext w w' ∧ TrO w' (low w') (grow (es.map Prod.fst) (es.length - 1)) b :=
  (Grow_callsF es q cap w he hlen h0 hd hlim hkl).mono fun e w' ⟨b, h1, h2, h3⟩ => ⟨b, h1, h2, h3.mono fun k hk => hk.2⟩
end Go.Proofs.YtlboppiogeaicaaDoor.co

/- The walk of core's free. Conditions: none. -/
namespace Go.Co
open Go.Eng Go.RowKit
set_option linter.unusedVariables false
set_option linter.unusedSimpArgs false
/-- a map of counts -/
def intM (l : List (Int × Int)) : MI := l.map fun p => (p.1, .int .i64 p.2)
def lget : List (Int × Int) → Int → Option Int
  | [], _ => none
  | p :: r, k => if p.1 = k then some p.2 else lget r k
def lput : List (Int × Int) → Int → Int → List (Int × Int)
  | [], k, v => [(k, v)]
  | p :: r, k, v => if p.1 = k then (k, v) :: r else p :: lput r k v
def cf (l : List (Int × Int)) (k : Int) : Int := (lget l k).getD 0
theorem iget_intM (l : List (Int × Int)) (k : Int) : (iget (intM l) k).getD (.int .i64 0) = .int .i64 (cf l k) := by
  induction l with
  | nil => rfl
  | cons p r ih =>
    show (if p.1 = k then some (Value.int .i64 p.2) else iget (intM r) k).getD (.int .i64 0) = _
    unfold cf at ih ⊢
    rw [lget]
    by_cases h : p.1 = k
    · simp [h]
    · simp only [h, if_false]
      exact ih
theorem iput_intM (l : List (Int × Int)) (k v : Int) : iput (intM l) k (.int .i64 v) = intM (lput l k v) := by
  induction l with
  | nil => rfl
  | cons p r ih =>
    show (if p.1 = k then (k, Value.int .i64 v) :: intM r else (p.1, .int .i64 p.2) :: iput (intM r) k (.int .i64 v)) = _
    rw [lput]
    by_cases h : p.1 = k
    · simp [h, intM]
    · rw [if_neg h, if_neg h, ih]
      rfl
theorem cf_lput (l : List (Int × Int)) (k v j : Int) : cf (lput l k v) j = if k = j then v else cf l j := by
  induction l with
  | nil =>
    simp only [lput, cf, lget]
    split <;> simp
  | cons p r ih =>
    unfold cf at ih ⊢
    rw [lput]
    by_cases h : p.1 = k
    · rw [if_pos h]
      simp only [lget, h]
      split <;> simp_all
    · rw [if_neg h]
      simp only [lget]
      by_cases h2 : p.1 = j
      · rw [if_pos h2, if_pos h2, if_neg (fun e => h (h2.trans e.symm))]
      · rw [if_neg h2, if_neg h2]
        exact ih
/-- the counts are those of a list -/
def Cnt (l : List (Int × Int)) (sc : List Int) : Prop := ∀ k, cf l k = (sc.count k : Int)
theorem Cnt.inc {l : List (Int × Int)} {sc : List Int} (h : Cnt l sc) (k : Int) : Cnt (lput l k (cf l k + 1)) (k :: sc) := fun j => by
  rw [cf_lput, List.count_cons]
  by_cases e : k = j
  · subst e
    rw [if_pos rfl, h k]
    simp
  · rw [if_neg e, h j]
    simp [e]
theorem Cnt.dec {l : List (Int × Int)} {sc : List Int} {k : Int} (h : Cnt l (k :: sc)) : Cnt (lput l k (cf l k - 1)) sc := fun j => by
  rw [cf_lput]
  by_cases e : k = j
  · subst e
    rw [if_pos rfl, h k, List.count_cons]
    simp
  · rw [if_neg e, h j, List.count_cons]
    simp [e]
theorem Cnt.perm {l : List (Int × Int)} {sc sc' : List Int} (h : Cnt l sc) (hp : ∀ k, sc.count k = sc'.count k) : Cnt l sc' := fun k => by rw [h k, hp k]
theorem Cnt.mem {l : List (Int × Int)} {sc : List Int} (h : Cnt l sc) (k : Int) : cf l k = 0 ↔ ¬ k ∈ sc := by
  rw [h k, ← List.count_eq_zero]
  omega
mutual
def tsz : Tr → Nat
  | .mk _ _ _ kids _ => tszs kids + 1
def tszs : List Tr → Nat
  | [] => 0
  | t :: r => tsz t + tszs r
end
theorem tsz_get : ∀ {ts : List Tr} {i : Nat} {t : Tr}, ts[i]? = some t → tsz t ≤ tszs ts
  | [], _, _, h => by simp at h
  | u :: r, 0, t, h => by simp at h; subst h; simp only [tszs]; omega
  | u :: r, i + 1, t, h => by have := tsz_get (ts := r) (i := i) (t := t) (by simpa using h); simp only [tszs]; omega
theorem high_get : ∀ {ts : List Tr} {i : Nat} {t : Tr}, ts[i]? = some t → high t ≤ highs ts
  | [], _, _, h => by simp at h
  | u :: r, 0, t, h => by simp at h; subst h; simp only [highs]; omega
  | u :: r, i + 1, t, h => by have := high_get (ts := r) (i := i) (t := t) (by simpa using h); simp only [highs]; omega
end Go.Co
namespace Go.Eng
open Go.Co
section
variable {P : Program} {n : Nat} {l : Env} {H : List Item} {S : List World} {C : World → Prop} {c : Bool} {d : Option Nat} {ty : TypeId} {pos : String} {af : Array Edge} {g : Option (Nat × Bool)} {t : TypeId} {x y : Operand} {cx cy : Bool}
theorem Pev.clookup {k e : TypeId} {b : Nat} {m : List (Int × Int)} {s : Int} (hx : evl l x = some (cx, .map (some b))) (hcx : c = true → cx = true) (hy : evl l y = some (cy, .int .i64 s)) (hcy : c = true → cy = true) (ht : mapTi P t = some (k, e)) (hz : zeroV P e = some (.int .i64 0)) (hm : mapI b (intM m) ∈ H) :
    Pev P n l (Cls H S) ⟨d, .lookup t x y false, ty, pos, af, g⟩ c (.int .i64 (cf m s)) := by
  have h1 := Pev.ilookup (P := P) (n := n) (C := Cls H S) (d := d) (ty := ty) (pos := pos) (af := af) (g := g) hx hcx hy hcy ht hz (fun w hw => hw.item hm)
  rwa [iget_intM] at h1
end
end Go.Eng
namespace Go.Proofs.YtlboppiogeaicaaDoor.co
open Go.RowKit Go.Eng Go.Co
set_option linter.unusedVariables false
set_option linter.unusedSimpArgs false
set_option maxRecDepth 100000
structure FG where
  bm : List (Int × Int)
  l : List Int
theorem free_calls (s0 : World) (bb bo : Nat) (hbb : s0.heap.size ≤ bb) (hbo : s0.heap.size ≤ bo) :
    ∀ (m : Nat) (t : Tr) (b : Nat) (sc : List Int) (bm : List (Int × Int)) (l : List Int) (H : List Eng.Item) (S : List World) (w : World), tsz t ≤ m → TrO s0 (low s0) t b → Cnt bm sc → sc.length + 16 * high t ≤ 1000000 → (∀ k, k < s0.heap.size → NotOwned H k) →
      Cls (mapI bb (intM bm) :: mapI bo (setM l) :: H) (s0 :: S) w →
      Calls Tryd.prog 75 [.pointer (some ⟨b, 0, none⟩), .map (some bb), .map (some bo)].toArray w fun e w' => e = .returned (.tuple #[]) ∧ ∃ bm' l', Cnt bm' sc ∧ (∀ n, n ∈ l' ↔ n ∈ l ∨ n ∈ fv t sc) ∧ (l.Nodup → l'.Nodup) ∧ Cls (mapI bb (intM bm') :: mapI bo (setM l') :: H) (s0 :: S) w' := by
  intro m
  induction m with
  | zero =>
    intro t b sc bm l H S w hm
    obtain ⟨op, n, binds, kids, alts⟩ := t
    simp only [tsz] at hm
    omega
  | succ m ih =>
  intro t b sc bm l H S w hm ht hcnt hlen hno hc
  obtain ⟨op, n, binds, kids, alts⟩ := t
  simp only [TrO] at ht
  obtain ⟨y, hnode, hkl, hks⟩ := ht
  have hbs : b < s0.heap.size := hnode.own
  have hcells := hnode.cells
  have hcellI : ∀ {j : Nat} {v : Value}, ([.int .i64 op, .int .i64 n, .slice y.b.1 binds.length y.b.2, .slice y.k.1 kids.length y.k.2, .slice y.a.1 alts.length y.a.2] : List Value)[j]? = some v → s0.cell? ⟨b, 0 + j, none⟩ = some v := fun {j v} hj => by
    have := hcells j v hj
    rwa [add_mid] at this
  have h0 := hcellI (j := 0) rfl
  have h1 := hcellI (j := 1) rfl
  have h3 := hcellI (j := 3) rfl
  refine enter Tryd.func75 rfl Tryd.ntmps75 rfl hc ?_
  (simp only [argEnv, Nat.zero_add, Nat.reduceAdd])
  apply W.seq
  apply W.sr
  apply omv; rfl; rfl
  apply oop; rfl; apply Pev.nil_ptr; rfl; exact yes
  apply ofa; rfl; rfl; rfl
  apply oop; rfl; apply Pev.load_kept; rfl; exact yes; exact .head _; rfl; intro hcond; assumption; intro hcond; assumption; intro hcond; exact NotOwned.au
  apply obn; rfl; rfl; rfl; apply Bin.eql
  apply omv; rfl; rfl
  apply oy; rfl; rfl; rfl; apply Pev.move; rfl; exact yes
  apply oy; rfl; rfl; rfl; apply Pev.move; rfl; exact yes
  apply oy; rfl; rfl; rfl; apply Pev.nil_ptr; rfl; exact fun h => h
  apply oy; rfl; rfl; rfl; apply Pev.fld; rfl; exact fun h => h; rfl
  apply oy; rfl; rfl; rfl; apply Pev.load_kept; rfl; exact fun h => h; exact .head _; rfl; intro hcond; assumption; intro hcond; assumption; intro hcond; exact NotOwned.au
  apply oy; rfl; rfl; rfl; apply Pev.clookup; rfl; exact fun h => h; rfl; exact fun h => h; rfl; rfl; exact .head _
  apply oy; rfl; rfl; rfl; apply Pev.bin; rfl; exact fun h => h; rfl; exact yes; intro hcond; apply Bin.eql
  apply oop; rfl; apply Pev.pick_and; rfl; exact yes; rfl; exact fun h => h
  apply OL.nx
  refine W.joinx (G := List Int) (fun l1 => (∀ k, k ∈ l1 ↔ k ∈ l ∨ k ∈ (if op = 0 ∧ ¬ n ∈ sc then [n] else [])) ∧ (l.Nodup → l1.Nodup)) (fun l1 => [(0, true, .pointer (some ⟨b, 0, none⟩)), (1, true, .map (some bb)), (2, true, .map (some bo))]) (fun l1 => Cls (mapI bb (intM bm) :: mapI bo (setM l1) :: H) (s0 :: S)) ?_ ?_
  · refine W.cond rfl (fun hb => ?_) (fun hb => ?_)
    · have hop : op = 0 ∧ ¬ n ∈ sc := ⟨by grind, (hcnt.mem n).1 (by grind)⟩
      apply W.reg
      apply omv; rfl; rfl
      apply omv; rfl; rfl
      apply oop; rfl; apply Pev.nil_ptr; rfl; exact yes
      apply ofa; rfl; rfl; rfl
      apply oop; rfl; apply Pev.load_kept; rfl; exact yes; exact .head _; rfl; intro hcond; assumption; intro hcond; assumption; intro hcond; exact NotOwned.au
      apply oop; rfl; apply Pev.build; rfl; exact CellsL.agg; rfl; exact Fill.au; rfl
      apply OL.iput; rfl; rfl; rfl; rfl; exact Hole.au
      apply OL.nil
      by_cases hin : n ∈ l
      · rw [iput_setM_in hin]
        skip
        exact At.joinedx l ⟨fun k => by rw [if_pos hop]; simp; exact fun e => e ▸ hin, fun h => h⟩ (by exact Sub.au) (fun w' hw' => hw')
      · rw [iput_setM hin]
        skip
        exact At.joinedx (l ++ [n]) ⟨fun k => by rw [if_pos hop]; simp, fun h => nodup_snoc h hin⟩ (by exact Sub.au) (fun w' hw' => hw')
    · have hop : ¬ (op = 0 ∧ ¬ n ∈ sc) := fun ⟨h1, h2⟩ => by
        have h3 := (hcnt.mem n).2 h2
        rw [h1, h3] at hb
        simp at hb
      apply W.skip
      exact At.joinedx l ⟨fun k => by rw [if_neg hop]; simp, fun h => h⟩ (by exact Sub.au) (fun w' hw' => hw')
  rintro l1 ⟨hl1, hn1⟩
  apply W.sr
  apply omv; rfl; rfl
  apply oop; rfl; apply Pev.nil_ptr; rfl; exact yes
  apply ofa; rfl; rfl; rfl
  apply oop; rfl; apply Pev.load_kept; rfl; exact yes; exact .head _; rfl; intro hcond; assumption; intro hcond; assumption; intro hcond; exact NotOwned.au
  apply oop; rfl; apply Pev.len_slice; rfl; exact yes; rfl
  apply omv; rfl; rfl
  apply OL.nx
  apply W.block
  refine W.loop (G := Nat × FG) (fun g => g.1 ≤ kids.length ∧ Cnt g.2.bm sc ∧ (∀ k, k ∈ g.2.l ↔ k ∈ l1 ∨ ∃ m t, m < g.1 ∧ kids[m]? = some t ∧ k ∈ fv t (bound op binds alts m ++ sc)) ∧ (l.Nodup → g.2.l.Nodup)) (fun g => kids.length - g.1)
    (fun g => [(0, true, .pointer (some ⟨b, 0, none⟩)), (1, true, .map (some bb)), (2, true, .map (some bo)), (36, true, .slice y.k.1 kids.length y.k.2), (37, true, .int .i64 (kids.length : Int)), (38, true, .int .i64 (g.1 : Int))])
    (fun g => Cls (mapI bb (intM g.2.bm) :: mapI bo (setM g.2.l) :: H) (s0 :: S)) (0, ⟨bm, l1⟩) ⟨by simp, hcnt, fun k => by simp, hn1⟩ (by exact Sub.au) (fun w' hw' => hw') ?_
  rintro ⟨i, ⟨bm1, l2⟩⟩ ⟨hi, hcnt1, hl2, hn2⟩
  simp only at hi hcnt1 hl2 hn2 ⊢
  apply W.sr
  apply obn; rfl; rfl; rfl; apply Bin.lss
  apply OL.nx
  apply W.seq
  (refine W.cnd (fun hlt => ?_) (fun hlt => ?_)) <;> (try (exfalso; first | omega | exact hlt trivial | contradiction))
  · have hil : i < kids.length := by omega
    obtain ⟨a, hqa, hab, htrs⟩ := hks (by omega)
    have hab : a.block < s0.heap.size := hab
    have hki : kids[i]? = some kids[i] := List.getElem?_eq_getElem hil
    obtain ⟨b', hcb, hkid⟩ := htrs.get hki
    have hsz := tsz_get hki
    have hhi := high_get hki
    simp only [tsz] at hm
    simp only [high] at hlen
    rw [hqa]
    apply W.sk
    apply W.sb
    apply W.sr
    apply omv; rfl; rfl
    apply oop; rfl; apply Pev.idx; rfl; exact yes; rfl; exact yes; rfl; rfl; intro hcond; omega
    apply oop; rfl; apply Pev.load_kept; rfl; exact yes; exact .head _; rfl; intro hcond; assumption; intro hcond; (rw [add_block]; assumption); intro hcond; exact NotOwned.au
    apply oas; rfl; rfl
    apply oas; rfl; rfl
    apply OL.nsr
    apply omv; rfl; rfl
    apply omv; rfl; rfl
    refine OL.callE (α := Option Addr × Nat) (fun z => .slice z.1 (bound op binds alts i).length z.2) (fun z => IntsO s0 (low s0) (bound op binds alts i) z.1 ∧ (bound op binds alts i).length ≤ 16) (fun z => Cls (mapI bb (intM bm1) :: mapI bo (setM l2) :: H) (s0 :: S)) rfl rfl (by exact Args.au) (fun w2 hw2 => ?_) ?_
    · have hsame := hw2.same (.head _) (fun k hk => by exact NotOwned.au)
      refine (Bound_calls b op n binds kids.length alts y i w2 (low s0) (fun k hk => Nat.lt_of_lt_of_le hk (hw2.kp s0 (.head _)).size) (hnode.stab hsame) (by omega)).mono fun e w3 ⟨q, c, h4, h5, h6, h7⟩ => ⟨(q, c), h4, ⟨h6.stab (fun k hk => (hsame k hk).symm), h7⟩, hw2.ext h5⟩
    rintro ⟨qb, cb⟩ ⟨hIb, hb16⟩
    simp only at hIb hb16 ⊢
    generalize hbl : bound op binds alts i = bl at *
    apply oas; rfl; rfl
    apply OL.nx
    apply W.seq
    apply W.sr
    apply omv; rfl; rfl
    apply oop; rfl; apply Pev.len_slice; rfl; exact yes; rfl
    apply omv; rfl; rfl
    apply OL.nx
    apply W.block
    refine W.loop (G := Nat × List (Int × Int)) (fun g => g.1 ≤ bl.length ∧ Cnt g.2 (bl.take g.1 ++ sc)) (fun g => bl.length - g.1)
      (fun g => [(0, true, .pointer (some ⟨b, 0, none⟩)), (1, true, .map (some bb)), (2, true, .map (some bo)), (7, true, .pointer (some ⟨b', 0, none⟩)), (8, true, .slice qb bl.length cb), (36, true, .slice (some a) kids.length y.k.2), (37, true, .int .i64 (kids.length : Int)), (38, true, .int .i64 (i : Int)), (46, true, .slice qb bl.length cb), (47, true, .int .i64 (bl.length : Int)), (48, true, .int .i64 (g.1 : Int))])
      (fun g => Cls (mapI bb (intM g.2) :: mapI bo (setM l2) :: H) (s0 :: S)) (0, bm1) ⟨by simp, by simpa using hcnt1⟩ (by exact Sub.au) (fun w' hw' => hw') ?_
    rintro ⟨j, bm2⟩ ⟨hj, hcnt2⟩
    simp only at hj hcnt2 ⊢
    apply W.sr
    apply obn; rfl; rfl; rfl; apply Bin.lss
    apply OL.nx
    apply W.seq
    (refine W.cnd (fun hlt2 => ?_) (fun hlt2 => ?_)) <;> (try (exfalso; first | omega | exact hlt2 trivial | contradiction))
    · have hjl : j < bl.length := by omega
      obtain ⟨av, v, hqv, habv, hv, hcv⟩ := hIb.get hjl
      have habv : av.block < s0.heap.size := habv
      have hcb2 : 0 ≤ cf bm2 v ∧ cf bm2 v ≤ 2000000 := by
        have h5 : (bl.take j ++ sc).count v ≤ (bl.take j ++ sc).length := List.count_le_length
        rw [List.length_append, List.length_take] at h5
        rw [hcnt2 v]
        omega
      rw [hqv]
      apply W.sk
      apply W.sb
      apply W.sr
      apply oop; rfl; apply Pev.idx; rfl; exact yes; rfl; exact yes; rfl; rfl; intro hcond; omega
      apply oop; rfl; apply Pev.load_kept; rfl; exact yes; exact .head _; rfl; intro hcond; assumption; intro hcond; (rw [add_block]; assumption); intro hcond; exact NotOwned.au
      apply oas; rfl; rfl
      apply OL.nx
      apply W.reg
      apply omv; rfl; rfl
      apply omv; rfl; rfl
      apply oop; rfl; apply Pev.clookup; rfl; exact yes; rfl; exact yes; rfl; rfl; exact .head _
      apply obn; rfl; rfl; rfl; apply Bin.add_in; omega
      apply OL.iput; rfl; rfl; rfl; rfl; exact Hole.au
      apply OL.nil
      with_reducible apply At.in_normal
      with_reducible apply At.next
      apply W.reg
      apply obn; rfl; rfl; rfl; apply Bin.add_in; omega
      apply omv; rfl; rfl
      apply OL.nil
      rw [iput_intM]
      skip
      refine At.again (j + 1, lput bm2 v (cf bm2 v + 1)) ⟨by simp only; omega, (hcnt2.inc v).perm fun k => ?_⟩ (by simp only; omega) (by exact Sub.au) (fun w' hw' => hw')
      simp only [List.take_add_one, hv, Option.toList_some, List.count_append, List.count_cons, List.count_nil]
      omega
    · obtain rfl : j = bl.length := by omega
      rw [List.take_length] at hcnt2
      refine W.xt ?_
      with_reducible apply At.next
      apply W.sr
      apply omv; rfl; rfl
      apply omv; rfl; rfl
      apply omv; rfl; rfl
      refine OL.callE (α := FG) (fun _ => .tuple #[]) (fun z => Cnt z.bm (bl ++ sc) ∧ (∀ k, k ∈ z.l ↔ k ∈ l2 ∨ k ∈ fv kids[i] (bl ++ sc)) ∧ (l2.Nodup → z.l.Nodup)) (fun z => Cls (mapI bb (intM z.bm) :: mapI bo (setM z.l) :: H) (s0 :: S)) rfl rfl (by exact Args.au) (fun w2 hw2 => ?_) ?_
      · refine (ih kids[i] b' (bl ++ sc) bm2 l2 H S w2 (by omega) hkid hcnt2 (by rw [List.length_append]; omega) hno hw2).mono fun e w3 ⟨h4, bm', l', h5, h6, h7, h8⟩ => ⟨⟨bm', l'⟩, h4, ⟨h5, h6, h7⟩, h8⟩
      rintro ⟨bm3, l3⟩ ⟨hcnt3, hl3, hn3⟩
      simp only at hcnt3 hl3 hn3 ⊢
      apply OL.nsr
      apply omv; rfl; rfl
      apply oop; rfl; apply Pev.len_slice; rfl; exact yes; rfl
      apply omv; rfl; rfl
      apply OL.nx
      apply W.block
      refine W.loop (G := Nat × List (Int × Int)) (fun g => g.1 ≤ bl.length ∧ Cnt g.2 (bl.drop g.1 ++ sc)) (fun g => bl.length - g.1)
        (fun g => [(0, true, .pointer (some ⟨b, 0, none⟩)), (1, true, .map (some bb)), (2, true, .map (some bo)), (36, true, .slice (some a) kids.length y.k.2), (37, true, .int .i64 (kids.length : Int)), (38, true, .int .i64 (i : Int)), (61, true, .slice qb bl.length cb), (62, true, .int .i64 (bl.length : Int)), (63, true, .int .i64 (g.1 : Int))])
        (fun g => Cls (mapI bb (intM g.2) :: mapI bo (setM l3) :: H) (s0 :: S)) (0, bm3) ⟨by simp, by simpa using hcnt3⟩ (by exact Sub.au) (fun w' hw' => hw') ?_
      rintro ⟨j, bm4⟩ ⟨hj2, hcnt4⟩
      simp only at hj2 hcnt4 ⊢
      apply W.sr
      apply obn; rfl; rfl; rfl; apply Bin.lss
      apply OL.nx
      apply W.seq
      (refine W.cnd (fun hlt3 => ?_) (fun hlt3 => ?_)) <;> (try (exfalso; first | omega | exact hlt3 trivial | contradiction))
      · have hjl : j < bl.length := by omega
        obtain ⟨av, v, hqv, habv, hv, hcv⟩ := hIb.get hjl
        have habv : av.block < s0.heap.size := habv
        have hdrop : bl.drop j = v :: bl.drop (j + 1) := by
          obtain ⟨h5, rfl⟩ := List.getElem?_eq_some_iff.1 hv
          rw [List.drop_eq_getElem_cons h5]
        have hcb2 : 0 ≤ cf bm4 v ∧ cf bm4 v ≤ 2000000 := by
          have h5 : (bl.drop j ++ sc).count v ≤ (bl.drop j ++ sc).length := List.count_le_length
          rw [List.length_append, List.length_drop] at h5
          rw [hcnt4 v]
          omega
        rw [hdrop] at hcnt4
        rw [hqv]
        apply W.sk
        apply W.sb
        apply W.sr
        apply oop; rfl; apply Pev.idx; rfl; exact yes; rfl; exact yes; rfl; rfl; intro hcond; omega
        apply oop; rfl; apply Pev.load_kept; rfl; exact yes; exact .head _; rfl; intro hcond; assumption; intro hcond; (rw [add_block]; assumption); intro hcond; exact NotOwned.au
        apply oas; rfl; rfl
        apply OL.nx
        apply W.reg
        apply omv; rfl; rfl
        apply omv; rfl; rfl
        apply oop; rfl; apply Pev.clookup; rfl; exact yes; rfl; exact yes; rfl; rfl; exact .head _
        apply obn; rfl; rfl; rfl; apply Bin.sub_in; omega
        apply OL.iput; rfl; rfl; rfl; rfl; exact Hole.au
        apply OL.nil
        with_reducible apply At.in_normal
        with_reducible apply At.next
        apply W.reg
        apply obn; rfl; rfl; rfl; apply Bin.add_in; omega
        apply omv; rfl; rfl
        apply OL.nil
        rw [iput_intM]
        skip
        exact At.again (j + 1, lput bm4 v (cf bm4 v - 1)) ⟨by simp only; omega, hcnt4.dec⟩ (by simp only; omega) (by exact Sub.au) (fun w' hw' => hw')
      · obtain rfl : j = bl.length := by omega
        rw [List.drop_length, List.nil_append] at hcnt4
        refine W.xt ?_
        with_reducible apply At.in_normal
        with_reducible apply At.next
        apply W.reg
        apply obn; rfl; rfl; rfl; apply Bin.add_in; omega
        apply omv; rfl; rfl
        apply OL.nil
        refine At.again (i + 1, ⟨bm4, l3⟩) ⟨by simp only; omega, hcnt4, fun k => ?_, fun h => hn3 (hn2 h)⟩ (by simp only; omega) (by exact Sub.au) (fun w' hw' => hw')
        simp only
        rw [hl3, hl2]
        constructor
        · rintro ((h | ⟨m', t, h4, h5, h6⟩) | h)
          · exact .inl h
          · exact .inr ⟨m', t, by omega, h5, h6⟩
          · exact .inr ⟨i, kids[i], by omega, hki, by rw [hbl]; exact h⟩
        · rintro (h | ⟨m', t, h4, h5, h6⟩)
          · exact .inl (.inl h)
          · by_cases e : m' = i
            · subst e
              rw [hki] at h5
              obtain rfl := Option.some.inj h5
              rw [hbl] at h6
              exact .inr h6
            · exact .inl (.inr ⟨m', t, by omega, h5, h6⟩)
  · obtain rfl : i = kids.length := by omega
    refine W.xt ?_
    apply At.end_
    apply At.fin0
    rfl
    intro w' hw'
    refine ⟨rfl, bm1, l2, hcnt1, fun k => ?_, hn2, hw'⟩
    rw [hl2, hl1, fv, List.mem_append, mem_fvs, or_assoc]
    constructor
    · rintro (h | h | ⟨m', t, h4, h5, h6⟩)
      · exact .inl h
      · exact .inr (.inl h)
      · exact .inr (.inr ⟨m', t, h5, by rw [Nat.zero_add]; exact h6⟩)
    · rintro (h | h | ⟨m', t, h5, h6⟩)
      · exact .inl h
      · exact .inr (.inl h)
      · exact .inr (.inr ⟨m', t, (List.getElem?_eq_some_iff.1 h5).1, h5, by rw [Nat.zero_add] at h6; exact h6⟩)
end Go.Proofs.YtlboppiogeaicaaDoor.co

/- A grown row that a function of the library writes over in place (a sort, a compaction). General. No condition. -/
namespace Go.Eng
open Go.RowKit Go.Sort
set_option linter.unusedVariables false
set_option linter.unusedSimpArgs false

theorem putCells_take {α : Type} [Inhabited α] (enc : α → Value) (d : Array α) (c : Array Value) (h : d.size ≤ c.size) : (putCells enc 0 d c).toList.take d.size = d.toList.map enc := by
  apply List.ext_getElem?
  intro j
  rw [List.getElem?_take, List.getElem?_map]
  by_cases hj : j < d.size
  · rw [if_pos hj, Array.getElem?_toList, Array.getElem?_toList]
    unfold putCells
    rw [Array.getElem?_mapIdx, Array.getElem?_eq_getElem (show j < c.size by omega), Array.getElem?_eq_getElem hj]
    simp only [Option.map_some]
    rw [if_pos ⟨Nat.zero_le _, by omega⟩, Nat.sub_zero, getElem!_pos d j hj]
  · rw [if_neg hj, Array.getElem?_toList, Array.getElem?_eq_none (by omega)]; rfl
theorem putRow_heap {α : Type} [Inhabited α] (enc : α → Value) (w : World) (n g : Nat) (d : Array α) (os : Array Obj) {cur : Array Value} {e : TypeId} {fr : Nat × Nat} (hg : w.heap[g]? = some (.cells cur e fr)) :
    (grow (putRow enc (Sort.ahead w n) g 0 d) os).heap[g]? = some (.cells (putCells enc 0 d cur) e fr) := by
  have hlt : g < w.heap.size := (Array.getElem?_eq_some_iff.1 hg).1
  show ((w.heap.modify g (onCells (putCells enc 0 d))) ++ os)[g]? = _
  rw [Array.getElem?_append_left (by simpa using hlt), Array.getElem?_modify, if_pos rfl, hg]
  rfl
theorem putRow_other {α : Type} [Inhabited α] (enc : α → Value) (w : World) (n g : Nat) (d : Array α) (os : Array Obj) {k : Nat} (hk : k < w.heap.size) (hne : k ≠ g) :
    (grow (putRow enc (Sort.ahead w n) g 0 d) os).heap[k]? = w.heap[k]? := by
  show ((w.heap.modify g (onCells (putCells enc 0 d))) ++ os)[k]? = _
  rw [Array.getElem?_append_left (by simpa using hk), Array.getElem?_modify, if_neg (fun e => hne e.symm)]
theorem putRow_size {α : Type} [Inhabited α] (enc : α → Value) (w : World) (n g : Nat) (d : Array α) (os : Array Obj) : w.heap.size ≤ (grow (putRow enc (Sort.ahead w n) g 0 d) os).heap.size := by
  show _ ≤ ((w.heap.modify g (onCells (putCells enc 0 d))) ++ os).size
  simp
theorem Cls.rowPut {α : Type} [Inhabited α] {enc : α → Value} {p : Nat} {H : List Eng.Item} {S : List World} {w w' : World} {base m cap g n : Nat} {O : Nat → Prop} {e : TypeId} {xs : List Value} {F : Eng.Item → List Eng.Item}
    (hh : Hole p H (row base O (some ⟨g, 0, none⟩) m cap e 1 xs) F) (h : Cls H S w) (d : Array α) (hd : d.size = m) {os : Array Obj} (hw : w' = grow (putRow enc (Sort.ahead w n) g 0 d) os) : Cls (F (row base O (some ⟨g, 0, none⟩) m cap e 1 (d.toList.map enc))) S w' := by
  subst hw
  obtain ⟨h1, h2⟩ := hh.eq
  rw [h2]
  have hi := h.holds _ (List.mem_of_getElem? h1)
  have hO : O g := hi.1 _ rfl
  rcases hi.2.2 with ⟨h3, _⟩ | ⟨g', cap', cur, h3, hb, hg, h4, h5, h6, h7⟩
  · cases h3
  simp only [Value.slice.injEq, Option.some.injEq, Addr.mk.injEq] at h3
  obtain ⟨⟨rfl, _⟩, _, rfl⟩ := h3
  refine h.turn p h1 ⟨rfl, rfl, rfl, putRow_size _ _ _ _ _ _, fun k hk hno => putRow_other _ _ _ _ _ _ hk fun e => hno (by subst e; exact ⟨hb, hO⟩)⟩ ?_ (fun k hk => ⟨.inl hk, Nat.lt_of_lt_of_le (h.lt _ (List.mem_of_getElem? h1) k hk) (putRow_size _ _ _ _ _ _)⟩) (fun k hk => hk)
  refine ⟨fun a ha => by cases ha; exact hO, by simp [hd], .inr ⟨g, cap, _, rfl, hb, putRow_heap enc w n g d os hg, h4, h5, ?_, ?_⟩⟩
  · simp only [putCells, Array.size_mapIdx]; exact h6
  · rw [Nat.mul_one, ← hd]
    exact putCells_take enc d cur (by omega)
/-- what the library's contracts on rows ask -/
theorem row_holds {α : Type} [Inhabited α] {enc : α → Value} {w : World} {base m cap g : Nat} {O : Nat → Prop} {e : TypeId} {d : Array α} (h : (row base O (some ⟨g, 0, none⟩) m cap e 1 (d.toList.map enc)).holds w) : Holds enc w g 0 d ∧ g < w.heap.size := by
  rcases h.2.2 with ⟨h3, _⟩ | ⟨g', cap', cur, h3, hb, hg, h4, h5, h6, h7⟩
  · cases h3
  simp only [Value.slice.injEq, Option.some.injEq, Addr.mk.injEq] at h3
  obtain ⟨⟨rfl, _⟩, _, rfl⟩ := h3
  refine ⟨fun j hj => ⟨?_, ?_⟩, (Array.getElem?_eq_some_iff.1 hg).1⟩
  · rw [Nat.zero_add]
    refine row_cell h ?_
    rw [List.getElem?_map, Array.getElem?_toList, Array.getElem?_eq_getElem hj, getElem!_pos d j hj]; rfl
  · simp [World.frozen?, hg]
end Go.Eng

/-
  DERIVED: THE SHELF's CONTRACTS AT THIS DUMP, IN PLAIN WORDS (tools/lay-plain.mjs out of 'YtlboppiogeaicaaDoorShelfD.lean', which tools/lay-shelf.mjs wrote): THE SAME DECLARATIONS UNDER THE SAME NAMES: 'import', 'namespace', 'open', 'def', 'theorem' AND NOTHING ELSE: no command of the shelf's: FOR A HAND-IN. Each laying: the table of numbers ('.._ren') and one theorem, a field a fact of the dump's own or the kernel's comparison; each contract: ONE APPLICATION.
-/
namespace Go.Proofs
open Go.Shelf
def Tryd.lays189_ren : Go.Shelf.Ren := ⟨fun | 189 => 76 | 125 => 99 | 257 => 107 | 128 => 122 | 129 => 123 | 294 => 126 | 295 => 127 | 296 => 128 | 297 => 129 | 298 => 130 | 299 => 131 | 216 => 132 | 300 => 133 | 301 => 134 | 328 => 143 | 329 => 137 | 330 => 138 | 331 => 144 | 332 => 145 | 215 => 100 | 343 => 148 | n => n, fun | 28 => 25 | 3 => 3 | 46 => 146 | 0 => 0 | 51 => 165 | 53 => 139 | 4 => 4 | 183 => 159 | 182 => 158 | 131 => 150 | 5 => 5 | 9 => 9 | 218 => 173 | 222 => 177 | 228 => 183 | 229 => 184 | n => n, fun | n => n⟩
theorem Tryd.lays189 : Go.Proofs.Lays.n189 Tryd.prog Tryd.lays189_ren := {
  mixed := by kernel_rfl
  f125 := Tryd.func99.trans (congrArg some (by kernel_rfl))
  f128 := Tryd.func122.trans (congrArg some (by kernel_rfl))
  f129 := Tryd.func123.trans (congrArg some (by kernel_rfl))
  f189 := Tryd.func76.trans (congrArg some (by kernel_rfl))
  f215 := Tryd.func100.trans (congrArg some (by kernel_rfl))
  f216 := Tryd.func132.trans (congrArg some (by kernel_rfl))
  f257 := Tryd.func107.trans (congrArg some (by kernel_rfl))
  f294 := Tryd.func126.trans (congrArg some (by kernel_rfl))
  f295 := Tryd.func127.trans (congrArg some (by kernel_rfl))
  f296 := Tryd.func128.trans (congrArg some (by kernel_rfl))
  f297 := Tryd.func129.trans (congrArg some (by kernel_rfl))
  f298 := Tryd.func130.trans (congrArg some (by kernel_rfl))
  f299 := Tryd.func131.trans (congrArg some (by kernel_rfl))
  f300 := Tryd.func133.trans (congrArg some (by kernel_rfl))
  f301 := Tryd.func134.trans (congrArg some (by kernel_rfl))
  f328 := Tryd.func143.trans (congrArg some (by kernel_rfl))
  f329 := Tryd.func137.trans (congrArg some (by kernel_rfl))
  f330 := Tryd.func138.trans (congrArg some (by kernel_rfl))
  f331 := Tryd.func144.trans (congrArg some (by kernel_rfl))
  f332 := Tryd.func145.trans (congrArg some (by kernel_rfl))
  f343 := Tryd.func148.trans (congrArg some (by kernel_rfl))
  t0 := Tryd.underlying0
  a0 := Tryd.isAgg0
  z0 := Tryd.sizeOf0
  v0 := Tryd.zeroValue0
  t3 := Tryd.underlying3
  a3 := Tryd.isAgg3
  z3 := Tryd.sizeOf3
  v3 := Tryd.zeroValue3
  t4 := Tryd.underlying4
  a4 := Tryd.isAgg4
  z4 := Tryd.sizeOf4
  v4 := Tryd.zeroValue4
  t5 := Tryd.underlying5
  a5 := Tryd.isAgg5
  z5 := Tryd.sizeOf5
  v5 := Tryd.zeroValue5
  t9 := Tryd.underlying9
  a9 := Tryd.isAgg9
  z9 := Tryd.sizeOf9
  v9 := Tryd.zeroValue9
  t28 := Tryd.underlying25
  a28 := Tryd.isAgg25
  z28 := Tryd.sizeOf25
  v28 := Tryd.zeroValue25
  t46 := Tryd.underlying146
  a46 := Tryd.isAgg146
  z46 := Tryd.sizeOf146
  v46 := Tryd.zeroValue146
  t51 := Tryd.underlying165
  a51 := Tryd.isAgg165
  z51 := Tryd.sizeOf165
  v51 := Tryd.zeroValue165
  t53 := Tryd.underlying139
  a53 := Tryd.isAgg139
  z53 := Tryd.sizeOf139
  v53 := Tryd.zeroValue139
  t131 := Tryd.underlying150
  a131 := Tryd.isAgg150
  z131 := Tryd.sizeOf150
  v131 := Tryd.zeroValue150
  t182 := Tryd.underlying158
  a182 := Tryd.isAgg158
  z182 := Tryd.sizeOf158
  v182 := Tryd.zeroValue158
  t183 := Tryd.underlying159
  a183 := Tryd.isAgg159
  z183 := Tryd.sizeOf159
  v183 := Tryd.zeroValue159
  t218 := Tryd.underlying173
  a218 := Tryd.isAgg173
  z218 := Tryd.sizeOf173
  v218 := Tryd.zeroValue173
  t222 := Tryd.underlying177
  a222 := Tryd.isAgg177
  z222 := Tryd.sizeOf177
  v222 := Tryd.zeroValue177
  t228 := Tryd.underlying183
  a228 := Tryd.isAgg183
  z228 := Tryd.sizeOf183
  v228 := Tryd.zeroValue183
  t229 := Tryd.underlying184
  a229 := Tryd.isAgg184
  z229 := Tryd.sizeOf184
  v229 := Tryd.zeroValue184 }
end Go.Proofs

/- The walk of core's FreeOf: what the library's sort does to a row of ints. Conditions: none. -/
namespace Go.Co
open Go.Eng Go.RowKit
set_option linter.unusedVariables false
set_option linter.unusedSimpArgs false
def isrt (l : List Int) : List Int := l.mergeSort fun x y => decide (x ≤ y)
theorem isrt_perm (l : List Int) : (isrt l).Perm l := List.mergeSort_perm l _
theorem isrt_len (l : List Int) : (isrt l).length = l.length := (isrt_perm l).length_eq
theorem isrt_mem {l : List Int} {n : Int} : n ∈ isrt l ↔ n ∈ l := (isrt_perm l).mem_iff
theorem isrt_nodup {l : List Int} (h : l.Nodup) : (isrt l).Nodup := (isrt_perm l).symm.nodup h
theorem isrt_sorted (l : List Int) : (isrt l).Pairwise (· ≤ ·) := by
  have := List.pairwise_mergeSort (le := fun x y : Int => decide (x ≤ y)) (fun a b c h1 h2 => by simp at *; omega) (fun a b => by simp; omega) l
  exact this.imp fun h => by simpa using h
/-- a list without repetitions whose members lie in another one is no longer -/
theorem nodup_le : ∀ {l m : List Int}, l.Nodup → (∀ x ∈ l, x ∈ m) → l.length ≤ m.length
  | [], _, _, _ => by simp
  | x :: r, m, hn, hs => by
    have hx := hs x (.head _)
    obtain ⟨m1, m2, rfl⟩ := List.append_of_mem hx
    rw [List.nodup_cons] at hn
    have := nodup_le (l := r) (m := m1 ++ m2) hn.2 (fun y hy => by
      have h1 := hs y (.tail _ hy)
      have h2 : y ≠ x := fun e => hn.1 (e ▸ hy)
      simp at h1 ⊢
      rcases h1 with h1 | h1 | h1
      · exact .inl h1
      · exact absurd h1 h2
      · exact .inr h1)
    simp at this ⊢
    omega
theorem nodup_inj {α : Type} {l : List α} (h : l.Nodup) {i j : Nat} {x : α} (hi : l[i]? = some x) (hj : l[j]? = some x) : i = j := by
  have hp := List.pairwise_iff_getElem.1 h
  obtain ⟨h1, h2⟩ := List.getElem?_eq_some_iff.1 hi
  obtain ⟨h3, h4⟩ := List.getElem?_eq_some_iff.1 hj
  rcases Nat.lt_trichotomy i j with h5 | h5 | h5
  · exact absurd (h2.trans h4.symm) (hp i j h1 h3 h5)
  · exact h5
  · exact absurd (h4.trans h2.symm) (hp j i h3 h1 h5)
/-- the entries of a set's map -/
theorem set_key {es : Array MapEntry} {clock : Nat} {l : List Int} (h : MapIs es clock (setM l)) {i : Nat} {e : MapEntry} (he : es.toList[i]? = some e) : ∃ n, l[i]? = some n ∧ e.key = .int .i64 n := by
  have h1 := congrArg (fun z => z[i]?) h.es_
  simp only [icells, setM, List.map_map, List.getElem?_map, he, Option.map_some] at h1
  cases hl : l[i]? with
  | none => simp [hl] at h1
  | some n =>
    rw [hl] at h1
    simp at h1
    exact ⟨n, rfl, h1.1⟩
theorem set_len {es : Array MapEntry} {clock : Nat} {l : List Int} (h : MapIs es clock (setM l)) : es.toList.length = l.length := by
  have h1 := congrArg List.length h.es_
  simpa [icells, setM] using h1
theorem left_mem {es : Array MapEntry} {seen : Array Nat} {e : MapEntry} : e ∈ (leftOf es seen).toList ↔ e ∈ es.toList ∧ ¬ e.born ∈ seen := by
  unfold leftOf
  simp
/-- what has been taken out so far -/
def Taken (es : Array MapEntry) (seen : Array Nat) (xs : List Int) : Prop := xs.Nodup ∧ ∀ n, n ∈ xs ↔ ∃ e ∈ es.toList, e.key = .int .i64 n ∧ e.born ∈ seen
theorem Taken.step {es : Array MapEntry} {clock : Nat} {l : List Int} {seen : Array Nat} {xs : List Int} (hm : MapIs es clock (setM l)) (hl : l.Nodup) (h : Taken es seen xs) {e : MapEntry} {n : Int} (he : e ∈ (leftOf es seen).toList) (hk : e.key = .int .i64 n) : Taken es (seen.push e.born) (xs ++ [n]) := by
  obtain ⟨he1, he2⟩ := left_mem.1 he
  refine ⟨nodup_snoc h.1 fun hin => ?_, fun k => ?_⟩
  · obtain ⟨e', he', hk', hb'⟩ := (h.2 n).1 hin
    obtain ⟨i, hi⟩ := List.getElem?_of_mem he1
    obtain ⟨j, hj⟩ := List.getElem?_of_mem he'
    obtain ⟨a, ha, hka⟩ := set_key hm hi
    obtain ⟨b, hb, hkb⟩ := set_key hm hj
    rw [hk] at hka
    rw [hk'] at hkb
    simp only [Value.int.injEq, true_and] at hka hkb
    subst hka
    subst hkb
    have hij : i = j := nodup_inj hl ha hb
    subst hij
    rw [hi] at hj
    obtain rfl := Option.some.inj hj
    exact he2 hb'
  · rw [List.mem_append, h.2, List.mem_singleton]
    constructor
    · rintro (⟨e', h1, h2, h3⟩ | rfl)
      · exact ⟨e', h1, h2, by simp [h3]⟩
      · exact ⟨e, he1, hk, by simp⟩
    · rintro ⟨e', h1, h2, h3⟩
      rw [Array.mem_push] at h3
      rcases h3 with h3 | h3
      · exact .inl ⟨e', h1, h2, h3⟩
      · right
        by_cases hs : e'.born ∈ seen
        · exact absurd (h3 ▸ hs) he2
        · have hee : e' = e := by
            obtain ⟨i, hi⟩ := List.getElem?_of_mem he1
            obtain ⟨j, hj⟩ := List.getElem?_of_mem h1
            have hij : j = i := by
              have hnd := hm.nd
              have e1 : (es.toList.map (·.born))[i]? = some e.born := by rw [List.getElem?_map, hi]; rfl
              have e2 : (es.toList.map (·.born))[j]? = some e.born := by rw [List.getElem?_map, hj]; exact congrArg some h3
              exact nodup_inj hnd e2 e1
            subst hij
            rw [hi] at hj
            exact (Option.some.inj hj).symm
          rw [hee, hk] at h2
          simp at h2
          exact h2.symm
theorem Taken.done {es : Array MapEntry} {clock : Nat} {l : List Int} {seen : Array Nat} {xs : List Int} (hm : MapIs es clock (setM l)) (h : Taken es seen xs) (h0 : (leftOf es seen).size = 0) (n : Int) : n ∈ xs ↔ n ∈ l := by
  rw [h.2]
  constructor
  · rintro ⟨e, h1, h2, _⟩
    obtain ⟨i, hi⟩ := List.getElem?_of_mem h1
    obtain ⟨a, ha, hka⟩ := set_key hm hi
    rw [h2] at hka
    simp only [Value.int.injEq, true_and] at hka
    subst hka
    exact List.mem_of_getElem? ha
  · intro hn
    obtain ⟨i, hi⟩ := List.getElem?_of_mem hn
    have hil := (List.getElem?_eq_some_iff.1 hi).1
    obtain ⟨e, hes⟩ : ∃ e, es.toList[i]? = some e := ⟨_, List.getElem?_eq_getElem (by rw [set_len hm]; exact hil)⟩
    obtain ⟨a, ha, hka⟩ := set_key hm hes
    rw [hi] at ha
    obtain rfl := Option.some.inj ha
    refine ⟨_, List.mem_of_getElem? hes, hka, ?_⟩
    by_cases hs : e.born ∈ seen
    · exact hs
    · have := left_mem.2 ⟨List.mem_of_getElem? hes, hs⟩
      have h1 : (leftOf es seen).toList.length = 0 := h0
      rw [List.length_eq_zero_iff.1 h1] at this
      cases this
theorem Taken.nil (es : Array MapEntry) : Taken es #[] [] := ⟨by simp, fun n => by simp⟩
theorem Taken.sub {es : Array MapEntry} {clock : Nat} {l : List Int} {seen : Array Nat} {xs : List Int} (hm : MapIs es clock (setM l)) (h : Taken es seen xs) {n : Int} (hn : n ∈ xs) : n ∈ l := by
  obtain ⟨e, h1, h2, _⟩ := (h.2 n).1 hn
  obtain ⟨i, hi⟩ := List.getElem?_of_mem h1
  obtain ⟨a, ha, hka⟩ := set_key hm hi
  rw [h2] at hka
  simp only [Value.int.injEq, true_and] at hka
  subst hka
  exact List.mem_of_getElem? ha
end Go.Co
namespace Go.Proofs.YtlboppiogeaicaaDoor.co
open Go.RowKit Go.Eng Go.Co Go.Shelf Go.Sort
set_option linter.unusedVariables false
set_option linter.unusedSimpArgs false
set_option maxRecDepth 100000
theorem SortI_calls {p : Nat} {H : List Eng.Item} {S : List World} {w : World} {base cap : Nat} {O : Nat → Prop} {q : Option Addr} {xs : List Int} {F : Eng.Item → List Eng.Item}
    (hh : Hole p H (Eng.row base O q xs.length cap 3 1 (ints xs)) F) (h : Cls H S w) (hlen : xs.length < 4611686018427387904) :
    Calls Tryd.prog 76 #[.slice q xs.length cap] w fun e w' => e = .returned (.tuple #[]) ∧ Cls (F (Eng.row base O q xs.length cap 3 1 (ints (isrt xs)))) S w' := by
  by_cases h0 : xs.length = 0
  · obtain rfl : xs = [] := List.eq_nil_of_length_eq_zero h0
    refine (Any.slices_Sort_int_none Tryd.lays189 q cap w).mono fun e w' he => ⟨he.1, ?_⟩
    rw [he.2]
    have e2 : isrt [] = [] := by simp [isrt]
    rw [e2, hh.eq.2, set_same hh.eq.1]
    exact h
  · have hi := h.holds _ (List.mem_of_getElem? hh.eq.1)
    obtain ⟨g, rfl⟩ : ∃ g, q = some ⟨g, 0, none⟩ := by
      rcases hi.2.2 with ⟨h3, h4⟩ | ⟨g', cap', cur, h3, _⟩
      · omega
      · exact ⟨g', by simp only [Value.slice.injEq] at h3; exact h3.1⟩
    obtain ⟨h1, h2⟩ := row_holds (enc := Value.int .i64) (d := xs.toArray) hi
    have hc := Any.slices_Sort_int Tryd.lays189 g 0 cap xs w h1 h2 hlen
    refine hc.mono fun e w' he => ⟨he.1, ?_⟩
    obtain ⟨n, os, hw⟩ := he.2
    have hp := Cls.rowPut hh h (isrt xs).toArray (by simp [isrt_len]) hw
    exact hp
structure FO where
  seen : Array Nat
  xs : List Int
  O : Nat → Prop
  q : Option Addr
  c : Nat
theorem FreeOf_calls (t : Tr) (b : Nat) (L : List Int) (w : World) (ht : TrO w (low w) t b) (hh : 16 * high t ≤ 1000000) (hL : ∀ n ∈ fv t [], n ∈ L) (hLl : L.length ≤ 1000000) :
    Calls Tryd.prog 44 [.pointer (some ⟨b, 0, none⟩)].toArray w fun e w' => ∃ (l : List Int) (q : Option Addr) (c : Nat), e = .returned (.slice q l.length c) ∧ l.length ≤ 1000000 ∧ l.length ≤ c ∧ l.Pairwise (· ≤ ·) ∧ l.Nodup ∧ (∀ n, n ∈ l ↔ n ∈ fv t []) ∧ IntsO w' (low w') l q ∧ Ext w w' := by
  have hcnt0 : Cnt [] [] := fun k => by simp [cf, lget]
  have hlen0 : ([] : List Int).length + 16 * high t ≤ 1000000 := by rw [List.length_nil, Nat.zero_add]; exact hh
  refine enter Tryd.func44 rfl Tryd.ntmps44 rfl (Cls.start w) ?_
  (simp only [argEnv, Nat.zero_add, Nat.reduceAdd])
  apply W.sr
  apply oas; rfl; rfl
  apply OL.nsr
  apply OL.imakeMap; rfl; rfl; (intro bk hbk; simp only [AllLe, and_true] at hbk)
  apply oas; rfl; rfl
  apply OL.nsr
  apply omv; rfl; rfl
  apply OL.imakeMap; rfl; rfl; (intro bk hbk; simp only [AllLe, and_true] at hbk)
  apply omv; rfl; rfl
  revert bk
  intro bb hbb
  revert bk
  intro bo hbo
  refine OL.callE (α := FG) (fun _ => .tuple #[]) (fun z => (∀ n, n ∈ z.l ↔ n ∈ fv t []) ∧ z.l.Nodup) (fun z => Cls (mapI bo (setM z.l) :: []) [w]) rfl rfl (by exact Args.au) (fun w2 hw2 => ?_) ?_
  · have hfr := free_calls w bb bo hbb hbo (tsz t) t b [] [] [] [] [] w2 (Nat.le_refl _) ht hcnt0 hlen0 (fun k hk => NotOwned.nil) hw2
    refine Calls.mono hfr ?_
    rintro e w3 ⟨h1, bm', l', h2, h3, h4, h5⟩
    have hl' : ∀ n, n ∈ l' ↔ n ∈ fv t [] := fun n => by rw [h3]; simp
    have hn' : l'.Nodup := h4 List.nodup_nil
    refine ⟨⟨[], l'⟩, h1, ⟨hl', hn'⟩, ?_⟩
    exact h5.thin (Thin.any (fun k hk => hk ▸ ⟨hbb, trivial⟩) (by exact Thin.au))
  rintro ⟨_, l0⟩ ⟨hl0, hn0⟩
  simp only at hl0 hn0 ⊢
  refine OL.exx (X := { x : Array MapEntry × Nat // MapIs x.1 x.2 (setM l0) }) (C' := fun x => Cls [mapX bo x.1.1 x.1.2] [w]) (fun w' hw' => by
    obtain ⟨x, h1, h2⟩ := Cls.mapX_of .z hw'
    exact ⟨⟨x, h1⟩, h2⟩) ?_
  rintro ⟨⟨es, clock⟩, hm⟩
  simp only at hm ⊢
  have hnd := hm.nd
  apply OL.nsr
  apply oas; rfl; rfl
  apply OL.nx
  apply W.seq
  apply W.sr
  apply omv; rfl; rfl
  apply OL.rangeMap; rfl; rfl; rfl; (intro w' hw'; exact hw'.item (.head _)); (intro r hr; simp only [AllLe, and_true] at hr)
  apply OL.nx
  apply W.block
  refine W.loop (G := FO) (fun g => Taken es g.seen g.xs) (fun g => (leftOf es g.seen).size) (fun g => [(4, true, .slice g.q g.xs.length g.c), (12, true, .pointer (some ⟨r, 0, none⟩))])
    (fun g => Cls [row w.heap.size g.O g.q g.xs.length g.c 3 1 (ints g.xs), itI r bo clock g.seen clock, mapX bo es clock] [w]) ⟨#[], [], fun _ => False, none, 0⟩ (Taken.nil es) (by exact Sub.au) (fun w' hw' => hw'.row_nil w.heap.size _ 1) ?_
  rintro ⟨seen, xs, O, qx, cx⟩ hT
  simp only at hT ⊢
  have hxl : xs.length ≤ 1000000 := Nat.le_trans (nodup_le hT.1 fun n hn => hL n ((hl0 n).1 (hT.sub hm hn))) hLl
  apply W.sr
  apply OL.nextMap; rfl; rfl; (intro w' hw'; exact hw'.item (.tail _ (.tail _ (.head _)))); (exact hm.lt); (exact Nat.le_refl _); (exact .s .z)
  · intro h0
    have hall : ∀ n, n ∈ xs ↔ n ∈ fv t [] := fun n => (hT.done hm h0 n).trans (hl0 n)
    apply oex; rfl; rfl; rfl
    apply OL.nx
    apply W.seq
    refine W.cond rfl (fun hb => by cases hb) (fun hb => ?_)
    refine W.xt ?_
    with_reducible apply At.next
    apply W.sr
    apply omv; rfl; rfl
    refine OL.callE (α := Unit) (fun _ => .tuple #[]) (fun _ => True) (fun _ => Cls [row w.heap.size O qx xs.length cx 3 1 (ints (isrt xs)), itI r bo clock seen clock, mapX bo es clock] [w]) rfl rfl (by exact Args.au) (fun w2 hw2 => (SortI_calls .z hw2 (by omega)).mono fun e w3 h => ⟨(), h.1, trivial, h.2⟩) ?_
    rintro _ _
    apply OL.nsr
    apply omv; rfl; rfl
    apply oas; rfl; rfl
    apply OL.nx
    apply W.ret
    ((with_reducible apply At.fin1); rfl; rfl; intro w' hw')
    have hi := hw'.item (.head _)
    have hcap := row_le hi
    refine ⟨isrt xs, qx, cx, by rw [isrt_len], by rw [isrt_len]; exact hxl, by rw [isrt_len]; exact hcap, isrt_sorted xs, isrt_nodup hT.1, fun n => isrt_mem.trans (hall n), fun hl => ?_, by (exact hw'.fr)⟩
    exact SlAt.of_row hi (by rw [ints_length]; exact hl)
  · intro e he
    obtain ⟨n, hk⟩ : ∃ n, e.key = .int .i64 n := by
      obtain ⟨i, hi⟩ := List.getElem?_of_mem (left_mem.1 he).1
      obtain ⟨n, _, h⟩ := set_key hm hi
      exact ⟨n, h⟩
    have hT2 := hT.step hm hn0 he hk
    have hsh := left_shrinks es seen e he
    apply oex; rfl; rfl; rfl
    apply OL.nx
    apply W.seq
    refine W.cond rfl (fun hb => ?_) (fun hb => by cases hb)
    apply W.sk
    apply W.block
    apply W.sr
    (((first | (with_reducible apply OL.op) | (with_reducible apply QL.op)); (exact Guard.au); rfl; rfl); (apply Pev.entryMap); rfl; (intro hb2; exact hb2); (intro w' hw'; exact hw'.item (.tail _ (.tail _ (.head _)))); (exact .tail _ (.head _)); (exact (left_mem.1 he).1); (exact hnd))
    rw [hk]
    apply oex; rfl; rfl; rfl
    apply oas; rfl; rfl
    apply OL.nx
    apply W.reg
    apply omv; rfl; rfl
    apply omv; rfl; rfl
    apply OL.buildSlice; rfl; rfl; rfl; exact Elems.au; rfl; rfl; (intro bk hbk; simp only [AllLe, and_true] at hbk)
    apply OL.append; rfl; rfl; rfl; rfl; exact Hole.au; exact .head _; exact Take.au; rfl; rfl; exact ⟨_, .head _, Nat.le_refl _⟩; omega; intro O1 g1 cap1
    apply oas; rfl; rfl
    apply OL.nil
    with_reducible apply At.in_normal
    rw [show ints xs ++ [Value.int .i64 n] = ints (xs ++ [n]) by simp [ints], show xs.length + 1 = (xs ++ [n]).length by simp]
    exact At.again ⟨seen.push e.born, xs ++ [n], O1, some ⟨g1, 0, none⟩, cap1⟩ hT2 hsh (by exact Sub.au) (fun w' hw' => hw'.thin (by exact Thin.au))
end Go.Proofs.YtlboppiogeaicaaDoor.co

/- The walk of core's treeError. Conditions: none. (Printed by cod.py.) -/
namespace Go.Proofs.YtlboppiogeaicaaDoor.co
open Go.RowKit Go.Eng Go.Co
set_option linter.unusedVariables false
set_option linter.unusedSimpArgs false
set_option maxRecDepth 100000
structure XM (S : List World) where
  b1 : Nat
  hb1 : AllLe S b1
  b2 : Nat
  hb2 : AllLe S b2
  old : Nat → Value
theorem treeError_calls (es : List (Ex × ExY)) (q : Option Addr) (cap : Nat) (w : World) (he : Arr exR w (low w) es q) (hlen : es.length ≤ 9223372036854775807) :
    Calls Tryd.prog 64 [.slice q es.length cap].toArray w fun e w' => e = .returned (.int .i64 (treeE (es.map Prod.fst))) ∧ Ext w w' := by
  obtain ⟨e, hee⟩ : ∃ e, es.map Prod.fst = e := ⟨_, rfl⟩
  have hel : e.length = es.length := by rw [← hee, List.length_map]
  rw [hee]
  refine enter Tryd.func64 rfl Tryd.ntmps64 rfl (Cls.start w) ?_
  (simp only [argEnv, Nat.zero_add, Nat.reduceAdd])
  apply W.sr
  apply oas; rfl; rfl
  apply OL.nx
  apply W.seq
  apply W.sr
  apply omv; rfl; rfl
  apply oop; rfl; apply Pev.len_slice; rfl; exact yes; rfl
  apply obn; rfl; rfl; rfl; apply Bin.gtr
  apply OL.nx
  (refine W.cnd (fun hbig => ?_) (fun hbig => ?_)) <;> (try (exfalso; first | omega | exact hbig trivial | contradiction))
  · apply W.sr
    apply oas; rfl; rfl
    apply OL.nx
    refine W.rt ?_
    ((with_reducible apply At.fin1); rfl; rfl; intro w' hw')
    exact ⟨by rw [treeE_big (by omega)], by (exact hw'.fr)⟩
  apply W.sk
  apply W.seq
  apply W.sr
  apply omv; rfl; rfl
  apply oop; rfl; apply Pev.len_slice; rfl; exact yes; rfl
  apply obn; rfl; rfl; rfl; apply Bin.eql
  apply OL.nx
  (refine W.cnd (fun h0 => ?_) (fun h0 => ?_)) <;> (try (exfalso; first | omega | exact h0 trivial | contradiction))
  · apply W.sr
    apply oas; rfl; rfl
    apply OL.nx
    refine W.rt ?_
    ((with_reducible apply At.fin1); rfl; rfl; intro w' hw')
    exact ⟨by rw [treeE_bad (by omega) (fun h => by omega)], by (exact hw'.fr)⟩
  apply W.sk
  apply W.seq
  refine W.regany (X := XM [w]) (fun x e => [(4, true, bif e 7 then .slice (some ⟨x.b2, 0, none⟩) es.length es.length else x.old 4), (3, true, bif e 6 then .slice (some ⟨x.b1, 0, none⟩) es.length es.length else x.old 3), (22, true, bif e 5 then .slice (some ⟨x.b2, 0, none⟩) es.length es.length else x.old 22), (21, true, bif e 4 then .int .i64 (es.length : Int) else x.old 21), (20, true, bif e 3 then .slice q es.length cap else x.old 20), (19, true, bif e 2 then .slice (some ⟨x.b1, 0, none⟩) es.length es.length else x.old 19), (18, true, bif e 1 then .int .i64 (es.length : Int) else x.old 18), (17, true, bif e 0 then .slice q es.length cap else x.old 17), (0, true, .slice q es.length cap)])
    (fun x e => (bif e 2 then blk x.b1 3 (List.replicate es.length (.int .i64 0)) else nothing) :: (bif e 5 then blk x.b2 3 (List.replicate es.length (.int .i64 0)) else nothing) :: [])
    (fun old => ⟨w.heap.size, ⟨Nat.le_refl _, trivial⟩, w.heap.size, ⟨Nat.le_refl _, trivial⟩, old⟩) (by kernel_rfl) (by kernel_rfl) (fun w hw => hw.drew) (fun old => by repeat (first | exact SubO.nil | apply SubO.cons rfl | refine SubO.old rfl ?_)) (fun old w' hw' => hw'.add_nothing.add_nothing) ?_ ?_
  · intro x e i o ho hei hd hcl
    have hi : i < 8 := (List.getElem?_eq_some_iff.1 ho).1
    obtain rfl | rfl | rfl | rfl | rfl | rfl | rfl | rfl : i = 0 ∨ i = 1 ∨ i = 2 ∨ i = 3 ∨ i = 4 ∨ i = 5 ∨ i = 6 ∨ i = 7 := by omega
    · cases ho
      have v0 : Eng.upd e 0 0 = true := upd_eq
      simp only [hei, cond_true, cond_false]
      apply omv; rfl; rfl
      apply OL.nil
      exact At.beside x (by repeat (first | exact Sub.nil | apply Sub.cons rfl | refine Sub.cons_eq rfl (by simp only [v0, cond_true, cond_false]) ?_)) (fun w' hw' => by first | exact hw' | (simp only [v0, cond_true, cond_false]; exact hw'))
    · cases ho
      have h0 : e 0 = true := hd ⟨0, .data⟩ (by simp) rfl
      have v1 : Eng.upd e 1 1 = true := upd_eq
      have v0 : Eng.upd e 1 0 = true := upd_mono h0
      simp only [hei, h0, cond_true, cond_false]
      apply oop; rfl; apply Pev.len_slice; rfl; exact yes; rfl
      apply OL.nil
      exact At.beside x (by repeat (first | exact Sub.nil | apply Sub.cons rfl | refine Sub.cons_eq rfl (by simp only [v1, v0, cond_true, cond_false]) ?_)) (fun w' hw' => by first | exact hw' | (simp only [v1, v0, cond_true, cond_false]; exact hw'))
    · cases ho
      have h1 : e 1 = true := hd ⟨1, .data⟩ (by simp) rfl
      have h6 : e 6 = false := hcl.not (i := 2) (j := 6) rfl hei (by kernel_rfl)
      have v2 : Eng.upd e 2 2 = true := upd_eq
      have v1 : Eng.upd e 2 1 = true := upd_mono h1
      have v6 : Eng.upd e 2 6 = false := h6
      simp only [hei, h1, h6, cond_true, cond_false]
      apply OL.makeSlice; rfl; rfl; rfl; rfl; rfl; rfl; rfl; omega; (intro bk hbk; simp only [AllLe, and_true] at hbk)
      apply OL.nil
      exact At.beside { x with b1 := bk, hb1 := ⟨hbk, trivial⟩ } (by repeat (first | exact Sub.nil | apply Sub.cons rfl | refine Sub.cons_eq rfl (by simp only [v2, v1, v6, cond_true, cond_false]) ?_)) (fun w' hw' => by simp only [v2, v1, v6, cond_true, cond_false]; exact Cls.fill (p := 0) (H := _ :: _ :: []) .z hw')
    · cases ho
      have v3 : Eng.upd e 3 3 = true := upd_eq
      simp only [hei, cond_true, cond_false]
      apply omv; rfl; rfl
      apply OL.nil
      exact At.beside x (by repeat (first | exact Sub.nil | apply Sub.cons rfl | refine Sub.cons_eq rfl (by simp only [v3, cond_true, cond_false]) ?_)) (fun w' hw' => by first | exact hw' | (simp only [v3, cond_true, cond_false]; exact hw'))
    · cases ho
      have h3 : e 3 = true := hd ⟨3, .data⟩ (by simp) rfl
      have v4 : Eng.upd e 4 4 = true := upd_eq
      have v3 : Eng.upd e 4 3 = true := upd_mono h3
      simp only [hei, h3, cond_true, cond_false]
      apply oop; rfl; apply Pev.len_slice; rfl; exact yes; rfl
      apply OL.nil
      exact At.beside x (by repeat (first | exact Sub.nil | apply Sub.cons rfl | refine Sub.cons_eq rfl (by simp only [v4, v3, cond_true, cond_false]) ?_)) (fun w' hw' => by first | exact hw' | (simp only [v4, v3, cond_true, cond_false]; exact hw'))
    · cases ho
      have h4 : e 4 = true := hd ⟨4, .data⟩ (by simp) rfl
      have h7 : e 7 = false := hcl.not (i := 5) (j := 7) rfl hei (by kernel_rfl)
      have v5 : Eng.upd e 5 5 = true := upd_eq
      have v4 : Eng.upd e 5 4 = true := upd_mono h4
      have v7 : Eng.upd e 5 7 = false := h7
      simp only [hei, h4, h7, cond_true, cond_false]
      apply OL.makeSlice; rfl; rfl; rfl; rfl; rfl; rfl; rfl; omega; (intro bk hbk; simp only [AllLe, and_true] at hbk)
      apply OL.nil
      exact At.beside { x with b2 := bk, hb2 := ⟨hbk, trivial⟩ } (by repeat (first | exact Sub.nil | apply Sub.cons rfl | refine Sub.cons_eq rfl (by simp only [v5, v4, v7, cond_true, cond_false]) ?_)) (fun w' hw' => by simp only [v5, v4, v7, cond_true, cond_false]; exact Cls.fill (p := 1) (H := _ :: _ :: []) (.s .z) hw')
    · cases ho
      have h2 : e 2 = true := hd ⟨2, .data⟩ (by simp) rfl
      have v6 : Eng.upd e 6 6 = true := upd_eq
      have v2 : Eng.upd e 6 2 = true := upd_mono h2
      simp only [hei, h2, cond_true, cond_false]
      apply oas; rfl; rfl
      apply OL.nil
      exact At.beside x (by repeat (first | exact Sub.nil | apply Sub.cons rfl | refine Sub.cons_eq rfl (by simp only [v6, v2, cond_true, cond_false]) ?_)) (fun w' hw' => by first | exact hw' | (simp only [v6, v2, cond_true, cond_false]; exact hw'))
    · cases ho
      have h5 : e 5 = true := hd ⟨5, .data⟩ (by simp) rfl
      have v7 : Eng.upd e 7 7 = true := upd_eq
      have v5 : Eng.upd e 7 5 = true := upd_mono h5
      simp only [hei, h5, cond_true, cond_false]
      apply oas; rfl; rfl
      apply OL.nil
      exact At.beside x (by repeat (first | exact Sub.nil | apply Sub.cons rfl | refine Sub.cons_eq rfl (by simp only [v7, v5, cond_true, cond_false]) ?_)) (fun w' hw' => by first | exact hw' | (simp only [v7, v5, cond_true, cond_false]; exact hw'))
  · intro x e2 hall
    have hx1 : w.heap.size ≤ x.b1 := x.hb1.1
    have hx2 : w.heap.size ≤ x.b2 := x.hb2.1
    simp only [hall 0 (by decide), hall 1 (by decide), hall 2 (by decide), hall 3 (by decide), hall 4 (by decide), hall 5 (by decide), hall 6 (by decide), hall 7 (by decide), cond_true]
    generalize x.b1 = bd at *
    generalize x.b2 = bp at *
    clear x
    have hrz : List.replicate es.length (Value.int .i64 0) = ints (dl e 0 0) := by rw [← dl_zero, hel]
    have hrp : List.replicate es.length (Value.int .i64 0) = ints (pl e []) := by rw [← pl_zero, hel]
    have hget : ∀ {i : Nat}, i < es.length → ∃ a p, q = some a ∧ a.block < w.heap.size ∧ es[i]? = some p ∧ e[i]? = some p.1 ∧ CellsAt w (a.add (i * 5)) [.int .i64 p.1.op, .int .i64 p.1.n, .slice p.2.b.1 p.1.binds.length p.2.b.2, .slice p.2.k.1 p.1.kids.length p.2.k.2, .slice p.2.a.1 p.1.alts.length p.2.a.2] ∧ ExOk w (low w) p.1 p.2 := fun {i} hi => by
      obtain ⟨a, p, h1, h2, h3, h4, h5⟩ := he.get hi
      exact ⟨a, p, h1, h2, h3, by rw [← hee, List.getElem?_map, h3]; rfl, h4, h5⟩
    have h4096 : es.length ≤ 4096 := by omega
    have hkall : ∀ x ∈ e, x.kids.length ≤ 140737488355328 := fun x hx => by
      rw [← hee] at hx
      obtain ⟨p, hp, rfl⟩ := List.mem_map.1 hx
      exact (he.el p hp).kl
    with_reducible apply At.next
    apply W.seq
    apply W.sr
    apply omv; rfl; rfl
    apply oop; rfl; apply Pev.len_slice; rfl; exact yes; rfl
    apply omv; rfl; rfl
    apply OL.nx
    apply W.block
    refine W.loop (G := Nat) (fun i => i ≤ es.length ∧ ∀ (j : Nat) (x : Ex), j < i → e[j]? = some x → ∀ k ∈ x.kids, 0 ≤ k ∧ k < (j : Int)) (fun i => es.length - i)
      (fun i => [(0, true, .slice q es.length cap), (3, true, .slice (some ⟨bd, 0, none⟩) es.length es.length), (4, true, .slice (some ⟨bp, 0, none⟩) es.length es.length), (23, true, .slice q es.length cap), (24, true, .int .i64 (es.length : Int)), (25, true, .int .i64 (i : Int))])
      (fun i => Cls [blk bd 3 (ints (dl e i 0)), blk bp 3 (ints (pl e (kidsTo e i 0)))] [w]) 0 ⟨by omega, fun j x hj => by omega⟩ (by exact Sub.au) (fun w' hw' => by rw [← hrz, kidsTo_zero, ← hrp]; exact hw') ?_
    rintro i ⟨hi, hdn⟩
    apply W.sr
    apply obn; rfl; rfl; rfl; apply Bin.lss
    apply OL.nx
    apply W.seq
    (refine W.cnd (fun hlt => ?_) (fun hlt => ?_)) <;> (try (exfalso; first | omega | exact hlt trivial | contradiction))
    · have hil : i < es.length := by omega
      have hile : i < e.length := by omega
      obtain ⟨a, p, rfl, hab, hp, hpe, hcell, hok⟩ := hget hil
      have hkl := hok.kl
      apply W.sk
      apply W.sb
      apply W.sr
      apply omv; rfl; rfl
      apply oop; rfl; apply Pev.idx; rfl; exact yes; rfl; exact yes; rfl; rfl; intro hcond; omega
      apply oop; rfl; apply Pev.load_keptA; rfl; exact yes; exact .head _; rfl; intro hcond; assumption; rfl; intro hcond; (rw [add_block]; assumption); intro hcond; exact NotOwned.au
      apply OL.alloc; rfl; rfl; exact CellsL.agg; (intro bk hbk; simp only [AllLe, and_true] at hbk)
      apply oas; rfl; rfl
      apply OL.storeB; rfl; rfl; exact CellsL.agg; rfl; rfl; rfl; exact Swap.au; exact Put.au
      apply OL.nx
      apply W.seq
      apply W.sr
      apply ofa; rfl; rfl; rfl
      apply old; rfl; rfl; exact .head _; rfl; rfl
      apply oop; rfl; apply Pev.len_slice; rfl; exact yes; rfl
      apply omv; rfl; rfl
      apply OL.nx
      apply W.block
      revert bk
      intro bx hbx
      skip
      refine W.loop (G := Nat) (fun j => j ≤ p.1.kids.length ∧ ∀ (m : Nat) (k : Int), m < j → p.1.kids[m]? = some k → 0 ≤ k ∧ k < (i : Int)) (fun j => p.1.kids.length - j)
        (fun j => [(0, true, .slice (some a) es.length cap), (3, true, .slice (some ⟨bd, 0, none⟩) es.length es.length), (4, true, .slice (some ⟨bp, 0, none⟩) es.length es.length), (5, true, .int .i64 (i : Int)), (23, true, .slice (some a) es.length cap), (24, true, .int .i64 (es.length : Int)), (25, true, .int .i64 (i : Int)), (31, true, .slice p.2.k.1 p.1.kids.length p.2.k.2), (32, true, .int .i64 (p.1.kids.length : Int)), (33, true, .int .i64 (j : Int))])
        (fun j => Cls [blk bd 3 (ints (dl e i (mx e p.1 j))), blk bp 3 (ints (pl e (kidsTo e i j)))] [w]) 0 ⟨by omega, fun m k hm => by omega⟩ (by exact Sub.au) (fun w' hw' => by rw [mx_zero]; exact hw'.thin (by exact Thin.au)) ?_
      rintro j ⟨hj, hks⟩
      apply W.sr
      apply obn; rfl; rfl; rfl; apply Bin.lss
      apply OL.nx
      apply W.seq
      (refine W.cnd (fun hlt2 => ?_) (fun hlt2 => ?_)) <;> (try (exfalso; first | omega | exact hlt2 trivial | contradiction))
      · have hjl : j < p.1.kids.length := by omega
        obtain ⟨ak, k, hqk, habk, hk, hck⟩ := hok.k.get hjl
        have habk : ak.block < w.heap.size := habk
        rw [hqk]
        apply W.sk
        apply W.sb
        apply W.sr
        apply oop; rfl; apply Pev.idx; rfl; exact yes; rfl; exact yes; rfl; rfl; intro hcond; omega
        apply oop; rfl; apply Pev.load_kept; rfl; exact yes; exact .head _; rfl; intro hcond; assumption; intro hcond; (rw [add_block]; assumption); intro hcond; exact NotOwned.au
        apply oas; rfl; rfl
        apply OL.nx
        apply W.seq
        apply W.sr
        apply omv; rfl; rfl
        apply obn; rfl; rfl; rfl; apply Bin.lss
        apply omv; rfl; rfl
        apply ono; rfl; rfl; rfl; apply Pev.move; rfl; exact yes
        apply ono; rfl; rfl; rfl; apply Pev.move; rfl; exact yes
        apply ono; rfl; rfl; rfl; apply Pev.bin; rfl; exact fun h => h; rfl; exact fun h => h; intro hcond; apply Bin.geq
        apply oop; rfl; apply Pev.pick_or; rfl; exact yes; rfl; exact fun h => h
        apply OL.nx
        refine W.cond rfl (fun hb => ?_) (fun hb => ?_)
        · apply W.sr
          apply oas; rfl; rfl
          apply OL.nx
          refine W.rt ?_
          ((with_reducible apply At.fin1); rfl; rfl; intro w' hw')
          refine ⟨by rw [treeE_bad (by omega)]; rintro ⟨_, hd, _⟩; have := hd i _ hpe k (List.mem_of_getElem? hk); simp at hb; omega, by (exact hw'.fr)⟩
        obtain ⟨kn, rfl⟩ : ∃ kn : Nat, k = (kn : Int) := ⟨k.toNat, by simp at hb; omega⟩
        have hki : kn < i := by simp at hb; omega
        have hpk : (ints (pl e (kidsTo e i j)))[0 + (kn : Int).toNat * 1]? = some (.int .i64 ((kidsTo e i j).count (kn : Int) : Int)) := by
          have h1 := ints_get (pl_at (e := e) (l := kidsTo e i j) (k := kn) (by omega))
          simpa using h1
        have hcnt : (kidsTo e i j).count (kn : Int) ≤ 4096 * 140737488355328 := by
          have h1 := kidsTo_length (B := 140737488355328) (e := e) (i := i) (j := j) hkall hile
          have h2 := count_le_length (kidsTo e i j) (kn : Int)
          have h3 : (i + 1) * 140737488355328 ≤ 4096 * 140737488355328 := Nat.mul_le_mul_right _ (by omega)
          omega
        have hdk : (ints (dl e i (mx e p.1 j)))[0 + (kn : Int).toNat * 1]? = some (.int .i64 (high (grow e kn) : Int)) := by
          have h1 := ints_get (dl_low (e := e) (m := mx e p.1 j) hki (by omega))
          simpa using h1
        have hdi : (ints (dl e i (mx e p.1 j)))[0 + (i : Int).toNat * 1]? = some (.int .i64 (mx e p.1 j : Int)) := by
          have h1 := ints_get (dl_at (e := e) (m := mx e p.1 j) hile)
          simpa using h1
        apply W.sk
        apply W.sr
        apply omv; rfl; rfl
        apply omv; rfl; rfl
        apply oop; rfl; apply Pev.idxB; rfl; exact yes; rfl; exact yes; rfl; intro hcond; omega; rfl
        apply oop; rfl; apply Pev.load_blk; rfl; exact yes; exact .tail _ (.head _); rfl; assumption
        apply obn; rfl; rfl; rfl; apply Bin.add_in; omega
        apply oop; rfl; apply Pev.idxB; rfl; exact yes; rfl; exact yes; rfl; intro hcond; omega; rfl
        (apply OL.storeI); rfl; rfl; rfl; rfl; rfl; (exact Swap.au); (rw [ints_length, pl_length]; omega)
        have hset : (ints (pl e (kidsTo e i j))).set (0 + (kn : Int).toNat * 1) (.int .i64 (((kidsTo e i j).count (kn : Int) : Int) + 1)) = ints (pl e (kidsTo e i (j + 1))) := by
          rw [show 0 + (kn : Int).toNat * 1 = kn by simp, ints_set, pl_set (by omega), kidsTo_step hpe hk]
        rw [hset]
        apply OL.nx
        apply W.regq; apply Split.s rfl; apply Split.s rfl; apply Split.s rfl; apply Split.s rfl; apply Split.s rfl; apply Split.s rfl; apply Split.s rfl; apply Split.s rfl; apply Split.s rfl; apply Split.s rfl; apply Split.s rfl; apply Split.s rfl; exact Split.z rfl; kernel_rfl; decide +kernel; exact fun w hw => hw.drew
        apply qmv; rfl; rfl
        apply qmv; rfl; rfl
        apply qmv; rfl; rfl
        apply qmv; rfl; rfl
        apply qop; rfl; apply Pev.idxB; rfl; exact yes; rfl; exact yes; rfl; intro hcond; omega; rfl
        apply qop; rfl; apply Pev.load_blk; rfl; exact yes; exact .head _; rfl; assumption
        apply qmv; rfl; rfl
        apply qmv; rfl; rfl
        apply qop; rfl; apply Pev.idxB; rfl; exact yes; rfl; exact yes; rfl; intro hcond; omega; rfl
        apply qop; rfl; apply Pev.load_blk; rfl; exact yes; exact .head _; rfl; assumption
        apply qop; rfl; apply Pev.max2; rfl; exact yes; rfl; exact yes
        apply qop; rfl; apply Pev.idxB; rfl; exact yes; rfl; exact yes; rfl; intro hcond; omega; rfl
        with_reducible apply QL.tail
        (apply OL.storeI); rfl; rfl; rfl; rfl; rfl; (exact Swap.au); (rw [ints_length, dl_length]; omega)
        have hset2 : (ints (dl e i (mx e p.1 j))).set (0 + (i : Int).toNat * 1) (.int .i64 (if (mx e p.1 j : Int) < (high (grow e kn) : Int) then (high (grow e kn) : Int) else (mx e p.1 j : Int))) = ints (dl e i (mx e p.1 (j + 1))) := by
          rw [show 0 + (i : Int).toNat * 1 = i by simp, ints_set, maxIf, dl_set hile, mx_succ hk]
          rfl
        rw [hset2]
        apply OL.nil
        with_reducible apply At.in_normal
        with_reducible apply At.next
        apply W.reg
        apply obn; rfl; rfl; rfl; apply Bin.add_in; omega
        apply omv; rfl; rfl
        apply OL.nil
        refine At.again (j + 1) ⟨by omega, fun m k2 hm hk2 => ?_⟩ (by omega) (by exact Sub.au) (fun w' hw' => by first | exact hw' | exact hw'.thin (by exact Thin.au))
        by_cases em : m = j
        · subst em
          rw [hk] at hk2
          obtain rfl := Option.some.inj hk2
          omega
        · exact hks m k2 (by omega) hk2
      · obtain rfl : j = p.1.kids.length := by omega
        have hkall2 : ∀ k ∈ p.1.kids, 0 ≤ k ∧ k < (i : Int) := fun k hk => by
          obtain ⟨m, hm⟩ := List.getElem?_of_mem hk
          exact hks m k (List.getElem?_eq_some_iff.1 hm).1 hm
        have hmi : mx e p.1 p.1.kids.length ≤ i := mx_le (fun k hk => hkall2 k (List.mem_of_mem_take hk)) (fun k hk => high_le hdn k hk (by omega))
        have hhi := high_eq hpe hkall2
        have hdi : (ints (dl e i (mx e p.1 p.1.kids.length)))[0 + (i : Int).toNat * 1]? = some (.int .i64 (mx e p.1 p.1.kids.length : Int)) := by
          have h1 := ints_get (dl_at (e := e) (m := mx e p.1 p.1.kids.length) hile)
          simpa using h1
        refine W.xt ?_
        with_reducible apply At.next
        apply W.reg
        apply omv; rfl; rfl
        apply omv; rfl; rfl
        apply oop; rfl; apply Pev.idxB; rfl; exact yes; rfl; exact yes; rfl; intro hcond; omega; rfl
        apply oop; rfl; apply Pev.load_blk; rfl; exact yes; exact .head _; rfl; assumption
        apply obn; rfl; rfl; rfl; apply Bin.add_in; omega
        apply oop; rfl; apply Pev.idxB; rfl; exact yes; rfl; exact yes; rfl; intro hcond; omega; rfl
        (apply OL.storeI); rfl; rfl; rfl; rfl; rfl; (exact Swap.au); (rw [ints_length, dl_length]; omega)
        have hset3 : (ints (dl e i (mx e p.1 p.1.kids.length))).set (0 + (i : Int).toNat * 1) (.int .i64 ((mx e p.1 p.1.kids.length : Int) + 1)) = ints (dl e (i + 1) 0) := by
          rw [show 0 + (i : Int).toNat * 1 = i by simp, ints_set, show ((mx e p.1 p.1.kids.length : Int) + 1) = ((mx e p.1 p.1.kids.length + 1 : Nat) : Int) by omega, dl_set hile, ← hhi, dl_next hile rfl]
        rw [hset3, ← kidsTo_next hpe]
        apply OL.nil
        with_reducible apply At.in_normal
        with_reducible apply At.next
        apply W.reg
        apply obn; rfl; rfl; rfl; apply Bin.add_in; omega
        apply omv; rfl; rfl
        apply OL.nil
        refine At.again (i + 1) ⟨by omega, fun m x2 hm hx2 => ?_⟩ (by omega) (by exact Sub.au) (fun w' hw' => hw')
        by_cases em : m = i
        · subst em
          rw [hpe] at hx2
          obtain rfl := Option.some.inj hx2
          exact hkall2
        · exact hdn m x2 (by omega) hx2
    · obtain rfl : i = es.length := by omega
      have hdown : Down e := fun j x hx => hdn j x (by have := (List.getElem?_eq_some_iff.1 hx).1; omega) hx
      have hkt : kidsTo e es.length 0 = kidsAll e := by rw [← hel, kidsTo_end]
      rw [hkt]
      have hlast : (kidsAll e).count ((e.length - 1 : Nat) : Int) = 0 := by
        refine List.count_eq_zero.2 fun hm => ?_
        obtain ⟨p, x, hx, hk⟩ := mem_kidsAll.1 hm
        have h1 := hdown p x hx _ hk
        have h2 := (List.getElem?_eq_some_iff.1 hx).1
        omega
      refine W.xt ?_
      with_reducible apply At.next
      apply W.seq
      apply W.sr
      apply omv; rfl; rfl
      apply oop; rfl; apply Pev.len_slice; rfl; exact yes; rfl
      apply omv; rfl; rfl
      apply OL.nx
      apply W.block
      refine W.loop (G := Nat) (fun i => i ≤ es.length ∧ ∀ j : Nat, j < i → j + 1 < e.length → (kidsAll e).count (j : Int) = 1) (fun i => es.length - i)
        (fun i => [(0, true, .slice q es.length cap), (3, true, .slice (some ⟨bd, 0, none⟩) es.length es.length), (70, true, .slice (some ⟨bp, 0, none⟩) es.length es.length), (71, true, .int .i64 (es.length : Int)), (72, true, .int .i64 (i : Int))])
        (fun i => Cls [blk bd 3 (ints (dl e es.length 0)), blk bp 3 (ints (pl e (kidsAll e)))] [w]) 0 ⟨by omega, fun j hj => by omega⟩ (by exact Sub.au) (fun w' hw' => hw') ?_
      rintro j ⟨hj, hone⟩
      apply W.sr
      apply obn; rfl; rfl; rfl; apply Bin.lss
      apply OL.nx
      apply W.seq
      (refine W.cnd (fun hlt2 => ?_) (fun hlt2 => ?_)) <;> (try (exfalso; first | omega | exact hlt2 trivial | contradiction))
      · have hjl : j < es.length := by omega
        have hpj : (ints (pl e (kidsAll e)))[0 + (j : Int).toNat * 1]? = some (.int .i64 ((kidsAll e).count (j : Int) : Int)) := by
          have h1 := ints_get (pl_at (e := e) (l := kidsAll e) (k := j) (by omega))
          simpa using h1
        have hpj2 : (ints (pl e (kidsAll e)))[0 + j * 1]? = some (.int .i64 ((kidsAll e).count (j : Int) : Int)) := hpj
        apply W.sk
        apply W.sb
        apply W.sr
        apply omv; rfl; rfl
        apply oop; rfl; apply Pev.idxB; rfl; exact yes; rfl; exact yes; rfl; intro hcond; omega; rfl
        apply oop; rfl; apply Pev.load_blk; rfl; exact yes; exact .tail _ (.head _); rfl; assumption
        apply oas; rfl; rfl
        apply oas; rfl; rfl
        apply OL.nsr
        apply omv; rfl; rfl
        apply obn; rfl; rfl; rfl; apply Bin.eql
        apply omv; rfl; rfl
        apply omv; rfl; rfl
        apply oop; rfl; apply Pev.len_slice; rfl; exact yes; rfl
        apply obn; rfl; rfl; rfl; apply Bin.sub_in; omega
        apply obn; rfl; rfl; rfl; apply Bin.lss
        apply obn; rfl; rfl; rfl; apply Bin.bool_neq; rfl
        apply OL.nx
        refine W.cond rfl (fun hb => ?_) (fun hb => ?_)
        · apply W.sr
          apply oas; rfl; rfl
          apply OL.nx
          refine W.rt ?_
          ((with_reducible apply At.fin1); rfl; rfl; intro w' hw')
          refine ⟨?_, by (exact hw'.fr)⟩
          rw [treeE_bad (by omega)]
          rintro ⟨_, _, h1⟩
          by_cases hjl2 : j + 1 < e.length
          · have := h1 j hjl2
            rw [this] at hb
            simp at hb
            omega
          · have : j = e.length - 1 := by omega
            subst this
            rw [hlast] at hb
            simp at hb
            omega
        · apply W.skip
          with_reducible apply At.in_normal
          with_reducible apply At.next
          apply W.reg
          apply obn; rfl; rfl; rfl; apply Bin.add_in; omega
          apply omv; rfl; rfl
          apply OL.nil
          refine At.again (j + 1) ⟨by omega, fun m hm hml => ?_⟩ (by omega) (by exact Sub.au) (fun w' hw' => hw')
          by_cases em : m = j
          · subst em
            simp at hb
            omega
          · exact hone m (by omega) hml
      · obtain rfl : j = es.length := by omega
        have hdr : (ints (dl e es.length 0))[0 + ((es.length : Int) - 1).toNat * 1]? = some (.int .i64 (high (grow e (e.length - 1)) : Int)) := by
          have h1 := ints_get (dl_low (e := e) (i := es.length) (m := 0) (k := e.length - 1) (by omega) (by omega))
          rw [show 0 + ((es.length : Int) - 1).toNat * 1 = e.length - 1 by omega]
          exact h1
        have hok := treeE_ok (e := e) (by omega) (by omega) hdown (fun i hi => hone i (by omega) hi)
        refine W.xt ?_
        with_reducible apply At.next
        apply W.seq
        apply W.sr
        apply omv; rfl; rfl
        apply omv; rfl; rfl
        apply oop; rfl; apply Pev.len_slice; rfl; exact yes; rfl
        apply obn; rfl; rfl; rfl; apply Bin.sub_in; omega
        apply oop; rfl; apply Pev.idxB; rfl; exact yes; rfl; exact yes; rfl; intro hcond; omega; rfl
        apply oop; rfl; apply Pev.load_blk; rfl; exact yes; exact .head _; rfl; assumption
        apply obn; rfl; rfl; rfl; apply Bin.gtr
        apply OL.nx
        refine W.cond rfl (fun hb => ?_) (fun hb => ?_)
        · apply W.sr
          apply oas; rfl; rfl
          apply OL.nx
          refine W.rt ?_
          ((with_reducible apply At.fin1); rfl; rfl; intro w' hw')
          exact ⟨by rw [hok, if_pos]; simp at hb; omega, by (exact hw'.fr)⟩
        · apply W.sk
          apply W.sr
          apply oas; rfl; rfl
          apply OL.nx
          apply W.ret
          ((with_reducible apply At.fin1); rfl; rfl; intro w' hw')
          exact ⟨by rw [hok, if_neg]; simp at hb; omega, by (exact hw'.fr)⟩
end Go.Proofs.YtlboppiogeaicaaDoor.co

/- The walks of slices.Index and Contains at []int, of core's Body and Check. Conditions: none. -/
namespace Go.Co
open Go.Eng Go.RowKit
set_option linter.unusedVariables false
set_option linter.unusedSimpArgs false
/-- the place of a number; -1: none -/
def idxN (v : Int) : List Int → Nat → Int
  | [], _ => -1
  | s :: l, i => if v = s then i else idxN v l (i + 1)
theorem idxN_get {v : Int} {l : List Int} {i k : Nat} {s : Int} (h : l[i]? = some s) : idxN v (l.drop i) k = if v = s then (k : Int) else idxN v (l.drop (i + 1)) (k + 1) := by
  obtain ⟨hi, rfl⟩ := List.getElem?_eq_some_iff.1 h
  rw [List.drop_eq_getElem_cons hi, idxN]
theorem idxN_end {v : Int} {l : List Int} {i k : Nat} (h : l.length ≤ i) : idxN v (l.drop i) k = -1 := by
  rw [List.drop_eq_nil_of_le h]; rfl
theorem idxN_mem (v : Int) : ∀ (l : List Int) (k : Nat), 0 ≤ idxN v l k ↔ v ∈ l
  | [], k => by simp [idxN]
  | s :: l, k => by
    rw [idxN, List.mem_cons]
    by_cases h : v = s
    · simp [h]
    · rw [if_neg h, idxN_mem v l (k + 1)]
      simp [h]
theorem kids_nodup {e : List Ex} (ht : IsTree e) {i : Nat} {x : Ex} (hx : e[i]? = some x) : x.kids.Nodup := by
  refine List.pairwise_iff_getElem.2 fun a b ha hb hab he => ?_
  have h1 := ht.down i x hx x.kids[a] (List.getElem_mem ha)
  have e1 : x.kids[a]? = some ((x.kids[a].toNat : Nat) : Int) := by rw [List.getElem?_eq_getElem ha]; congr 1; omega
  have e2 : x.kids[b]? = some ((x.kids[a].toNat : Nat) : Int) := by rw [List.getElem?_eq_getElem hb, ← he]; congr 1; omega
  have := ht.uniq _ i a i b ⟨x, hx, e1⟩ ⟨x, hx, e2⟩
  omega
theorem kids_len {e : List Ex} (ht : IsTree e) {i : Nat} {x : Ex} (hx : e[i]? = some x) : x.kids.length ≤ e.length := by
  have h1 := nodup_le (kids_nodup ht hx) (m := (List.range e.length).map fun (k : Nat) => (k : Int)) fun k hk => by
    have h1 := ht.down i x hx k hk
    have := (List.getElem?_eq_some_iff.1 hx).1
    refine List.mem_map.2 ⟨k.toNat, List.mem_range.2 (by omega), by omega⟩
  simpa using h1
theorem nodeE_zero {e : List Ex} {x : Ex} (h : nodeE e x = 0) : shapeB x = true ∧ rangesE x = 0 := by
  unfold nodeE at h
  by_cases h1 : shapeB x = false
  · rw [if_pos h1] at h; omega
  · rw [if_neg h1] at h
    refine ⟨by simpa using h1, ?_⟩
    by_cases h2 : rangesE x = 0
    · exact h2
    · rw [if_pos h2] at h; exact absurd h h2
theorem foldl_max_le {l : List Al} : ∀ {m : Nat} , m ≤ l.foldl (fun m a => max m a.binds.length) m ∧ ∀ a ∈ l, a.binds.length ≤ l.foldl (fun m a => max m a.binds.length) m := by
  induction l with
  | nil => intro m; simp
  | cons b r ih =>
    intro m
    rw [List.foldl_cons]
    have h1 := ih (m := max m b.binds.length)
    refine ⟨by omega, fun a ha => ?_⟩
    rcases List.mem_cons.1 ha with rfl | ha
    · omega
    · exact h1.2 a ha
theorem lim_of {x : Ex} (h1 : shapeB x = true) (h2 : rangesE x = 0) (h3 : x.kids.length ≤ 4096) : Lim x := by
  have hw : wide x ≤ 16 := by
    unfold rangesE at h2
    by_cases h3 : rangesOk x = false
    · rw [if_pos h3] at h2; omega
    · rw [if_neg h3] at h2
      by_cases h4 : (if x.op = 2 then 6 else 16) < wide x
      · rw [if_pos (Or.inl h4)] at h2; omega
      · split at h4 <;> omega
  have hf := foldl_max_le (l := x.alts) (m := x.binds.length)
  refine ⟨Nat.le_trans hf.1 hw, ?_, fun a ha => Nat.le_trans (hf.2 a ha) hw⟩
  unfold shapeB at h1
  split at h1
  · simp only [Bool.and_eq_true, altsB, decide_eq_true_eq] at h1
    omega
  · split at h1
    · cases h1
    · simp only [Bool.and_eq_true, decide_eq_true_eq] at h1
      omega
structure TreeOk (e : List Ex) : Prop where
  len : e.length ≤ 4096
  pos : 0 < e.length
  tree : IsTree e
  high : high (grow e (e.length - 1)) ≤ 400
theorem treeE_ok0 {e : List Ex} (h : treeE e = 0) : TreeOk e := by
  unfold treeE at h
  by_cases h1 : 4096 < e.length
  · rw [if_pos h1] at h; omega
  · rw [if_neg h1] at h
    split at h
    · rename_i h2
      refine ⟨by omega, h2.1, isTree_of h2.2.1 h2.2.2, ?_⟩
      split at h
      · omega
      · omega
    · omega
/-- the check of a node -/
noncomputable def oneE (e : List Ex) (flat : Bool) (x : Ex) : Int := if flatBad flat x.op then 3 else nodeE e x
theorem bodyE_tree {e : List Ex} {ps : List Int} {flat : Bool} (h : ¬ treeE e = 0) : bodyE e ps flat = treeE e := by unfold bodyE; rw [if_pos h]
theorem bodyE_one {e : List Ex} {ps : List Int} {flat : Bool} (h : treeE e = 0) (h2 : ¬ firstE (oneE e flat) e = 0) : bodyE e ps flat = firstE (oneE e flat) e := by
  unfold bodyE; rw [if_neg (by simpa using h)]; exact if_pos h2
theorem bodyE_twice {e : List Ex} {ps : List Int} {flat : Bool} (h : treeE e = 0) (h2 : firstE (oneE e flat) e = 0) (h3 : ¬ (ps ++ e.flatMap bindersX).Nodup) : bodyE e ps flat = 7 := by
  unfold bodyE; rw [if_neg (by simpa using h)]
  have h4 : ¬ ¬ firstE (fun x => if flatBad flat x.op then 3 else nodeE e x) e = 0 := fun h => h h2
  rw [if_neg h4, if_pos h3]
theorem bodyE_free {e : List Ex} {ps : List Int} {flat : Bool} (h : treeE e = 0) (h2 : firstE (oneE e flat) e = 0) (h3 : (ps ++ e.flatMap bindersX).Nodup) {n : Int} (hn : n ∈ fv (grow e (e.length - 1)) []) (hp : ¬ n ∈ ps) : bodyE e ps flat = 6 := by
  unfold bodyE; rw [if_neg (by simpa using h)]
  have h4 : ¬ ¬ firstE (fun x => if flatBad flat x.op then 3 else nodeE e x) e = 0 := fun h => h h2
  rw [if_neg h4, if_neg (fun h => h h3), if_pos ⟨n, hn, hp⟩]
theorem bodyE_ok {e : List Ex} {ps : List Int} {flat : Bool} (h : treeE e = 0) (h2 : firstE (oneE e flat) e = 0) (h3 : (ps ++ e.flatMap bindersX).Nodup) (h5 : ∀ n ∈ fv (grow e (e.length - 1)) [], n ∈ ps) : bodyE e ps flat = 0 := by
  unfold bodyE; rw [if_neg (by simpa using h)]
  have h4 : ¬ ¬ firstE (fun x => if flatBad flat x.op then 3 else nodeE e x) e = 0 := fun h => h h2
  rw [if_neg h4, if_neg (fun h => h h3), if_neg (fun ⟨n, hn, hp⟩ => hp (h5 n hn))]
theorem fv_names {e : List Ex} (ht : TreeOk e) : ∀ n ∈ fv (grow e (e.length - 1)) [], n ∈ e.map Ex.n := fun n hn => by
  have := ht.pos
  obtain ⟨j, x, sc', h1, h2, h3, _⟩ := (mem_fv ht.tree.down (e.length - 1) (by omega) []).1 hn
  exact List.mem_map.2 ⟨x, List.mem_of_getElem? h1, h3⟩
end Go.Co
namespace Go.Proofs.YtlboppiogeaicaaDoor.co
open Go.RowKit Go.Eng Go.Co
set_option linter.unusedVariables false
set_option linter.unusedSimpArgs false
set_option maxRecDepth 100000
theorem IIndex_calls (q : Option Addr) (cap : Nat) (l : List Int) (s : Int) (w : World) (hlen : l.length ≤ 9223372036854775807) (h : IntsO w (low w) l q) :
    Calls Tryd.prog 103 #[.slice q l.length cap, .int .i64 s] w fun e w' => e = .returned (.int .i64 (idxN s l 0)) ∧ Ext w w' := by
  refine enter Tryd.func103 rfl Tryd.ntmps103 rfl (Cls.start w) ?_
  (simp only [argEnv, Nat.zero_add, Nat.reduceAdd])
  apply W.sr
  apply oas; rfl; rfl
  apply OL.nx
  apply W.seq
  apply W.sr
  apply omv; rfl; rfl
  apply oop; rfl; apply Pev.len_slice; rfl; exact yes; rfl
  apply omv; rfl; rfl
  apply OL.nx
  apply W.block
  refine W.loop (G := Nat) (fun i => i ≤ l.length ∧ idxN s (l.drop i) i = idxN s l 0) (fun i => l.length - i)
    (fun i => [(8, true, .int .i64 (i : Int)), (7, true, .int .i64 (l.length : Int)), (0, true, .slice q l.length cap), (1, true, .int .i64 s)])
    (fun i => Cls [] [w]) 0 ⟨by omega, rfl⟩ (by exact Sub.au) (fun w' hw' => hw') ?_
  rintro i ⟨hi, hrest⟩
  apply W.sr
  apply obn; rfl; rfl; rfl; apply Bin.lss
  apply OL.nx
  apply W.seq
  (refine W.cnd (fun hlt => ?_) (fun hlt => ?_)) <;> (try (exfalso; first | omega | exact hlt trivial | contradiction))
  · obtain ⟨a, u, rfl, hab, hu, hcell⟩ := h.get (show i < l.length by omega)
    have hab : a.block < w.heap.size := hab
    rw [idxN_get hu] at hrest
    apply W.sk
    apply W.sb
    apply W.sr
    apply omv; rfl; rfl
    apply oas; rfl; rfl
    apply OL.nsr
    apply omv; rfl; rfl
    apply omv; rfl; rfl
    apply omv; rfl; rfl
    apply oop; rfl; apply Pev.idx; rfl; exact yes; rfl; exact yes; rfl; rfl; intro hcond; omega
    apply oop; rfl; apply Pev.load_kept; rfl; exact yes; exact .head _; rfl; intro hcond; assumption; intro hcond; (rw [add_block]; assumption); intro hcond; exact NotOwned.au
    apply obn; rfl; rfl; rfl; apply Bin.eql
    apply OL.nx
    (refine W.cnd (fun heq => ?_) (fun heq => ?_)) <;> (try (exfalso; first | omega | exact heq trivial | contradiction))
    · apply W.sr
      apply omv; rfl; rfl
      apply oas; rfl; rfl
      apply OL.nx
      refine W.rt ?_
      ((with_reducible apply At.fin1); rfl; rfl; intro w' hw')
      rw [if_pos (by simpa using heq)] at hrest
      exact ⟨by rw [hrest], by (exact hw'.fr)⟩
    · apply W.skip
      with_reducible apply At.in_normal
      with_reducible apply At.next
      apply W.reg
      apply obn; rfl; rfl; rfl; apply Bin.add_in; omega
      apply omv; rfl; rfl
      apply OL.nil
      rw [if_neg (by simpa using heq)] at hrest
      exact At.again (i + 1) ⟨by omega, hrest⟩ (by omega) (by exact Sub.au) (fun w' hw' => hw')
  · refine W.xt ?_
    with_reducible apply At.next
    apply W.sr
    apply oas; rfl; rfl
    apply OL.nx
    apply W.ret
    ((with_reducible apply At.fin1); rfl; rfl; intro w' hw')
    rw [idxN_end (by omega)] at hrest
    exact ⟨by rw [hrest], by (exact hw'.fr)⟩
theorem IContains_calls (q : Option Addr) (cap : Nat) (l : List Int) (s : Int) (w : World) (hlen : l.length ≤ 9223372036854775807) (h : IntsO w (low w) l q) :
    Calls Tryd.prog 70 #[.slice q l.length cap, .int .i64 s] w fun e w' => e = .returned (.bool (decide (s ∈ l))) ∧ Ext w w' := by
  refine enter Tryd.func70 rfl Tryd.ntmps70 rfl (Cls.start w) ?_
  (simp only [argEnv, Nat.zero_add, Nat.reduceAdd])
  apply W.sr
  apply oas; rfl; rfl
  apply OL.nsr
  apply omv; rfl; rfl
  apply omv; rfl; rfl
  (((first | (with_reducible apply OL.op) | (with_reducible apply QL.op)); (exact Guard.au); rfl; rfl); (exact Pev.call rfl (by exact Args.au) (fun _ w2 hw2 => (IIndex_calls q cap l s w2 hlen (h.at hw2 (by exact mau) (fun k hk => by exact NotOwned.au))).mono (fun e w3 h => ⟨h.1, hw2.ext h.2⟩))))
  apply obn; rfl; rfl; rfl; apply Bin.geq
  apply oas; rfl; rfl
  apply OL.nx
  apply W.ret
  ((with_reducible apply At.fin1); rfl; rfl; intro w' hw')
  exact ⟨by simp only [idxN_mem], by (exact hw'.fr)⟩
theorem Body_calls (es : List (Ex × ExY)) (q qp : Option Addr) (cap cp : Nat) (ps : List Int) (flat : Bool) (w : World) (he : Arr exR w (low w) es q) (hlen : es.length ≤ 9223372036854775807) (hp : IntsO w (low w) ps qp) (hpl : ps.length ≤ 4096)
    (hg : 1 < w.heap.size) (hs : arityAt w) :
    Calls Tryd.prog 37 [.slice q es.length cap, .slice qp ps.length cp, .bool flat].toArray w fun e w' => e = .returned (.int .i64 (bodyE (es.map Prod.fst) ps flat)) ∧ Ext w w' := by
  obtain ⟨e, hee⟩ : ∃ e, es.map Prod.fst = e := ⟨_, rfl⟩
  have hel : e.length = es.length := by rw [← hee, List.length_map]
  rw [hee]
  refine enter Tryd.func37 rfl Tryd.ntmps37 rfl (Cls.start w) ?_
  (simp only [argEnv, Nat.zero_add, Nat.reduceAdd])
  apply W.sr
  apply OL.box; rfl; rfl; exact CellsL.one rfl; (intro bk hbk; simp only [AllLe, and_true] at hbk)
  apply oas; rfl; rfl
  apply OL.nx
  apply W.seq
  apply W.sr
  apply old; rfl; rfl; exact .head _; rfl; rfl
  revert bk
  intro bx hbx
  (((first | (with_reducible apply OL.op) | (with_reducible apply QL.op)); (exact Guard.au); rfl; rfl); (exact Pev.call rfl (by exact Args.au) (fun _ w2 hw2 => (treeError_calls es q cap w2 (he.at hw2 (by exact mau) (fun k hk => by exact NotOwned.au)) hlen).mono (fun e w3 h => ⟨h.1, hw2.ext h.2⟩))))
  rw [hee]
  apply oas; rfl; rfl
  apply OL.nsr
  apply omv; rfl; rfl
  apply obn; rfl; rfl; rfl; apply Bin.neq
  apply OL.nx
  (refine W.cnd (fun hte => ?_) (fun hte => ?_)) <;> (try (exfalso; first | omega | exact hte trivial | contradiction))
  · apply W.sr
    apply omv; rfl; rfl
    apply oas; rfl; rfl
    apply OL.nx
    refine W.rt ?_
    ((with_reducible apply At.fin1); rfl; rfl; intro w' hw')
    exact ⟨by rw [bodyE_tree hte], by (exact hw'.fr)⟩
  have hte0 : treeE e = 0 := by simpa using hte
  have htok := treeE_ok0 hte0
  have hl4 := htok.len
  have hpos := htok.pos
  have hl4' : es.length ≤ 4096 := by omega
  have hkd : ∀ p ∈ es, ∀ k ∈ p.1.kids, 0 ≤ k ∧ k < (es.length : Int) := fun p hp k hk => by
    obtain ⟨i, hi⟩ := List.getElem?_of_mem hp
    have hx : e[i]? = some p.1 := by rw [← hee, List.getElem?_map, hi]; rfl
    have := htok.tree.down i p.1 hx k hk
    have := (List.getElem?_eq_some_iff.1 hx).1
    omega
  apply W.sk
  apply W.seq
  apply W.sr
  apply old; rfl; rfl; exact .head _; rfl; rfl
  apply oop; rfl; apply Pev.len_slice; rfl; exact yes; rfl
  apply omv; rfl; rfl
  apply OL.nx
  apply W.block
  refine W.loop (G := Nat) (fun i => i ≤ es.length ∧ firstE (oneE e flat) (e.drop i) = firstE (oneE e flat) e) (fun i => es.length - i)
    (fun i => [(1, true, .slice qp ps.length cp), (2, true, .bool flat), (3, true, .pointer (some ⟨bx, 0, none⟩)), (18, true, .slice q es.length cap), (19, true, .int .i64 (es.length : Int)), (20, true, .int .i64 (i : Int))])
    (fun i => Cls [blk bx 22 [.slice q es.length cap]] [w]) 0 ⟨by omega, rfl⟩ (by exact Sub.au) (fun w' hw' => hw'.thin (by exact Thin.au)) ?_
  rintro i ⟨hi, hrest⟩
  apply W.sr
  apply obn; rfl; rfl; rfl; apply Bin.lss
  apply OL.nx
  apply W.seq
  (refine W.cnd (fun hlt => ?_) (fun hlt => ?_)) <;> (try (exfalso; first | omega | exact hlt trivial | contradiction))
  · have hil : i < es.length := by omega
    obtain ⟨a, p, rfl, hab, hpi, hcell, hok⟩ := he.get hil
    have hab : a.block < w.heap.size := hab
    have hcell : CellsAt w (a.add (i * 5)) [.int .i64 p.1.op, .int .i64 p.1.n, .slice p.2.b.1 p.1.binds.length p.2.b.2, .slice p.2.k.1 p.1.kids.length p.2.k.2, .slice p.2.a.1 p.1.alts.length p.2.a.2] := hcell
    have hx : e[i]? = some p.1 := by rw [← hee, List.getElem?_map, hpi]; rfl
    rw [firstE_drop hx] at hrest
    apply W.sk
    apply W.sb
    apply W.sr
    apply oop; rfl; apply Pev.idx; rfl; exact yes; rfl; exact yes; rfl; rfl; intro hcond; omega
    apply oop; rfl; apply Pev.load_keptA; rfl; exact yes; exact .head _; rfl; intro hcond; assumption; rfl; intro hcond; (rw [add_block]; assumption); intro hcond; exact NotOwned.au
    apply OL.alloc; rfl; rfl; exact CellsL.agg; (intro bk hbk; simp only [AllLe, and_true] at hbk)
    apply OL.storeB; rfl; rfl; exact CellsL.agg; rfl; rfl; rfl; exact Swap.au; exact Put.au
    apply OL.nx
    apply W.seq
    apply W.sr
    apply omv; rfl; rfl
    apply omv; rfl; rfl
    apply oy; rfl; rfl; rfl; apply Pev.fld; rfl; exact yes; rfl
    apply oy; rfl; rfl; rfl; apply Pev.load_blk; rfl; exact fun h => h; exact .head _; rfl; rfl
    (((first | (with_reducible apply OL.op) | (with_reducible apply QL.op)); (exact Guard.au); rfl; rfl); (exact Pev.call rfl (by exact Args.au) (fun _ w2 hw2 => (coreOnly_calls p.1.op w2).mono (fun e w3 h => ⟨h.1, hw2.ext h.2⟩))))
    apply oop; rfl; apply Pev.pick_and; rfl; exact yes; rfl; exact fun h => h
    apply omv; rfl; rfl
    apply ono; rfl; rfl; rfl; apply Pev.move; rfl; exact yes
    apply ono; rfl; rfl; rfl; apply Pev.not; rfl; exact fun h => h
    apply ono; rfl; rfl; rfl; apply Pev.move; rfl; exact fun h => h
    apply OL.op; exact Guard.cyes rfl rfl; rfl; rfl; apply Pev.fld; rfl; exact yes; rfl
    apply OL.op; exact Guard.cyes rfl rfl; rfl; rfl; apply Pev.load_blk; rfl; exact fun h => h; exact .head _; rfl; rfl
    (((first | (with_reducible apply OL.op) | (with_reducible apply QL.op)); (exact Guard.au); rfl; rfl); (exact Pev.call rfl (by exact Args.au) (fun _ w2 hw2 => (flatOnly_calls p.1.op w2).mono (fun e w3 h => ⟨h.1, hw2.ext h.2⟩))))
    apply ono; rfl; rfl; rfl; apply Pev.pick_and; rfl; exact fun h => h; rfl; exact fun h => h
    apply oop; rfl; apply Pev.pick_or; rfl; exact yes; rfl; exact fun h => h
    apply OL.nx
    have hbadE : (flat && (decide (p.1.op = 2) || decide (p.1.op = 5) || decide (p.1.op = 12) || decide (p.1.op = 13)) || !flat && (decide (p.1.op = 14) || decide (p.1.op = 15) || decide (p.1.op = 16))) = flatBad flat p.1.op := rfl
    (refine W.cnd (fun hfb => ?_) (fun hfb => ?_)) <;> (try (exfalso; first | omega | exact hfb trivial | contradiction))
    · have hone : oneE e flat p.1 = 3 := by
        unfold oneE; rw [if_pos (by rw [← hbadE]; simpa using hfb)]
      rw [hone] at hrest
      apply W.sr
      apply oas; rfl; rfl
      apply OL.nx
      refine W.rt ?_
      ((with_reducible apply At.fin1); rfl; rfl; intro w' hw')
      exact ⟨by rw [bodyE_one hte0 (by rw [← hrest]; simp), ← hrest]; simp, by (exact hw'.fr)⟩
    have hone : oneE e flat p.1 = nodeE e p.1 := by
      unfold oneE; rw [if_neg (by rw [← hbadE]; simp only [Bool.not_eq_true, Bool.or_eq_false_iff, Bool.and_eq_false_iff, decide_eq_false_iff_not, Bool.not_eq_false']; exact hfb)]
    rw [hone] at hrest
    apply W.sk
    apply W.sr
    apply oop; rfl; apply Pev.load_blkA; rfl; exact yes; exact .head _; rfl; exact Take.au
    apply oop; rfl; apply Pev.makeFunc; exact Args.au; exact Args.au
    (((first | (with_reducible apply OL.op) | (with_reducible apply QL.op)); (exact Guard.au); rfl; rfl); (exact Pev.call rfl (by exact Args.au) (fun _ w2 hw2 => (nodeError_calls es (some a) cap bx p.1 p.2 w2 (hok.at hw2 (by exact mau) (fun k hk => by exact NotOwned.au)) (Nat.lt_of_lt_of_le hg (hw2.kp w (by exact mau)).size) (hs.at hg hw2 (by exact mau) (fun k hk => by exact NotOwned.au)) (he.at hw2 (by exact mau) (fun k hk => by exact NotOwned.au)) hl4' ((blk_cell (hw2.item (i := blk bx 22 [.slice (some a) es.length cap]) (by exact mau))).trans rfl) (blk_lt (hw2.item (i := blk bx 22 [.slice (some a) es.length cap]) (by exact mau))) (hkd p (List.mem_of_getElem? hpi))).mono (fun e w3 h => ⟨h.1, hw2.ext h.2⟩))))
    rw [hee]
    apply oas; rfl; rfl
    apply OL.nsr
    apply omv; rfl; rfl
    apply obn; rfl; rfl; rfl; apply Bin.neq
    apply OL.nx
    (refine W.cnd (fun hne => ?_) (fun hne => ?_)) <;> (try (exfalso; first | omega | exact hne trivial | contradiction))
    · rw [if_neg (by simpa using hne)] at hrest
      apply W.sr
      apply omv; rfl; rfl
      apply oas; rfl; rfl
      apply OL.nx
      refine W.rt ?_
      ((with_reducible apply At.fin1); rfl; rfl; intro w' hw')
      exact ⟨by rw [bodyE_one hte0 (by rw [← hrest]; simpa using hne), ← hrest], by (exact hw'.fr)⟩
    rw [if_pos (by simpa using hne)] at hrest
    apply W.skip
    with_reducible apply At.in_normal
    with_reducible apply At.next
    apply W.reg
    apply obn; rfl; rfl; rfl; apply Bin.add_in; omega
    apply omv; rfl; rfl
    apply OL.nil
    exact At.again (i + 1) ⟨by omega, hrest⟩ (by omega) (by exact Sub.au) (fun w' hw' => hw'.thin (by exact Thin.au))
  · obtain rfl : i = es.length := by omega
    rw [← hel, List.drop_length] at hrest
    have hall : firstE (oneE e flat) e = 0 := hrest.symm
    refine W.xt ?_
    with_reducible apply At.next
    apply W.seq
    apply W.sr
    apply old; rfl; rfl; exact .head _; rfl; rfl
    apply omv; rfl; rfl
    have hzero : ∀ p ∈ es, nodeE e p.1 = 0 ∧ p.1.kids.length ≤ 4096 := fun p hp => by
      obtain ⟨i, hi⟩ := List.getElem?_of_mem hp
      have hx : e[i]? = some p.1 := by rw [← hee, List.getElem?_map, hi]; rfl
      have h1 := firstE_zero.1 hall p.1 (List.mem_of_getElem? hx)
      have h2 := kids_len htok.tree hx
      refine ⟨?_, by omega⟩
      unfold oneE at h1
      split at h1
      · omega
      · exact h1
    have hlim : ∀ p ∈ es, Lim p.1 := fun p hp => by
      obtain ⟨h1, h2⟩ := hzero p hp
      obtain ⟨h3, h4⟩ := nodeE_zero h1
      exact lim_of h3 h4 h2
    refine OL.callE (α := Bool) (fun z => .bool z) (fun z => z = true ↔ ¬ (ps ++ e.flatMap bindersX).Nodup) (fun _ => Cls [blk bx 22 [.slice q es.length cap]] [w]) rfl rfl (by exact Args.au) (fun w2 hw2 => (twice_calls es q qp cap cp ps w2 (he.at hw2 (by exact mau) (fun k hk => by exact NotOwned.au)) hl4' (hp.at hw2 (by exact mau) (fun k hk => by exact NotOwned.au)) hpl hlim).mono (fun e w3 ⟨bb, h1, h2, h3⟩ => ⟨bb, h1, by rw [hee] at h2; exact h2, hw2.ext h3⟩)) ?_
    rintro bb hbb
    apply OL.nx
    (refine W.cnd (fun htw => ?_) (fun htw => ?_)) <;> (try (exfalso; first | omega | exact htw trivial | contradiction))
    · apply W.sr
      apply oas; rfl; rfl
      apply OL.nx
      refine W.rt ?_
      ((with_reducible apply At.fin1); rfl; rfl; intro w' hw')
      exact ⟨by rw [bodyE_twice hte0 hall (hbb.1 htw)], by (exact hw'.fr)⟩
    have hnd : (ps ++ e.flatMap bindersX).Nodup := by
      by_cases h : (ps ++ e.flatMap bindersX).Nodup
      · exact h
      · exact absurd (hbb.2 h) (by simpa using htw)
    apply W.sk
    apply W.seq
    apply W.sr
    apply old; rfl; rfl; exact .head _; rfl; rfl
    refine OL.callE (α := Nat × World) (fun z => .pointer (some ⟨z.1, 0, none⟩)) (fun z => TrO z.2 (low z.2) (grow e (e.length - 1)) z.1 ∧ w.heap.size ≤ z.2.heap.size) (fun z => Cls [] [z.2, w]) rfl rfl (by exact Args.au) (fun w2 hw2 => (Grow_calls es q cap w2 (he.at hw2 (by exact mau) (fun k hk => by exact NotOwned.au)) hl4' (by omega) (by rw [hee]; exact htok.tree.down) hlim (fun p hp => (hzero p hp).2)).mono (fun e1 w3 ⟨b, h1, h2, h3⟩ => ⟨(b, w3), h1, ⟨by rw [hee, ← hel] at h3; exact h3, Nat.le_trans (hw2.kp w (by exact mau)).size h2.size⟩, ((hw2.ext h2).thin (by exact Thin.au)).note⟩)) ?_
    rintro ⟨bt, w3⟩ ⟨htr, hsz3⟩
    simp only at htr hsz3 ⊢
    refine OL.callE (α := List Int × Option Addr × Nat × World) (fun z => .slice z.2.1 z.1.length z.2.2.1) (fun z => z.1.length ≤ 1000000 ∧ (∀ n, n ∈ z.1 ↔ n ∈ fv (grow e (e.length - 1)) []) ∧ IntsO z.2.2.2 (low z.2.2.2) z.1 z.2.1 ∧ w.heap.size ≤ z.2.2.2.heap.size) (fun z => Cls [] [z.2.2.2, w]) rfl rfl (by exact Args.au) (fun w2 hw2 => (FreeOf_calls (grow e (e.length - 1)) bt (e.map Ex.n) w2 (htr.at hw2 (by exact mau) (fun k hk => NotOwned.nil)) (by have := htok.high; omega) (fv_names htok) (by rw [List.length_map]; omega)).mono (fun e1 w4 ⟨l, qf, c, h1, h2, h3, h4, h5, h6, h7, h8⟩ => ⟨(l, qf, c, w4), h1, ⟨h2, h6, h7, Nat.le_trans (hw2.kp w (by exact mau)).size h8.size⟩, (((hw2.ext h8).forget (by simp)).note)⟩)) ?_
    rintro ⟨l, qf, c, w4⟩ ⟨hll, hlm, hI, hsz4⟩
    simp only at hll hlm hI hsz4 ⊢
    apply oop; rfl; apply Pev.len_slice; rfl; exact yes; rfl
    apply omv; rfl; rfl
    apply OL.nx
    apply W.block
    refine W.loop (G := Nat) (fun i => i ≤ l.length ∧ ∀ n ∈ l.take i, n ∈ ps) (fun i => l.length - i)
      (fun i => [(1, true, .slice qp ps.length cp), (51, true, .slice qf l.length c), (52, true, .int .i64 (l.length : Int)), (53, true, .int .i64 (i : Int))])
      (fun i => Cls [] [w4, w]) 0 ⟨by omega, by simp⟩ (by exact Sub.au) (fun w' hw' => hw') ?_
    rintro i ⟨hi, hall2⟩
    apply W.sr
    apply obn; rfl; rfl; rfl; apply Bin.lss
    apply OL.nx
    apply W.seq
    (refine W.cnd (fun hlt2 => ?_) (fun hlt2 => ?_)) <;> (try (exfalso; first | omega | exact hlt2 trivial | contradiction))
    · have hil : i < l.length := by omega
      obtain ⟨av, v, hqv, habv, hv, hcv⟩ := hI.get hil
      have habv : av.block < w4.heap.size := habv
      rw [hqv]
      apply W.sk
      apply W.sb
      apply W.sr
      apply oop; rfl; apply Pev.idx; rfl; exact yes; rfl; exact yes; rfl; rfl; intro hcond; omega
      apply oop; rfl; apply Pev.load_kept; rfl; exact yes; exact .head _; rfl; intro hcond; assumption; intro hcond; (rw [add_block]; assumption); intro hcond; exact NotOwned.au
      apply oas; rfl; rfl
      apply OL.nsr
      apply omv; rfl; rfl
      apply omv; rfl; rfl
      (((first | (with_reducible apply OL.op) | (with_reducible apply QL.op)); (exact Guard.au); rfl; rfl); (exact Pev.call rfl (by exact Args.au) (fun _ w2 hw2 => (IContains_calls qp cp ps v w2 (by omega) (hp.at hw2 (by exact mau) (fun k hk => NotOwned.nil))).mono (fun e w3 h => ⟨h.1, hw2.ext h.2⟩))))
      apply oop; rfl; apply Pev.not; rfl; exact yes
      apply OL.nx
      (refine W.cnd (fun hin => ?_) (fun hin => ?_)) <;> (try (exfalso; first | omega | exact hin trivial | contradiction))
      · apply W.sr
        apply oas; rfl; rfl
        apply OL.nx
        refine W.rt ?_
        ((with_reducible apply At.fin1); rfl; rfl; intro w' hw')
        exact ⟨by rw [bodyE_free hte0 hall hnd ((hlm v).1 (List.mem_of_getElem? hv)) (by simpa using hin)], by (exact hw'.fr)⟩
      have hin' : v ∈ ps := by simpa using hin
      apply W.skip
      with_reducible apply At.in_normal
      with_reducible apply At.next
      apply W.reg
      apply obn; rfl; rfl; rfl; apply Bin.add_in; omega
      apply omv; rfl; rfl
      apply OL.nil
      refine At.again (i + 1) ⟨by omega, fun n hn => ?_⟩ (by omega) (by exact Sub.au) (fun w' hw' => hw')
      rw [List.take_add_one, hv] at hn
      simp at hn
      rcases hn with hn | rfl
      · exact hall2 n hn
      · exact hin'
    · obtain rfl : i = l.length := by omega
      rw [List.take_length] at hall2
      refine W.xt ?_
      with_reducible apply At.next
      apply W.sr
      apply oas; rfl; rfl
      apply OL.nx
      apply W.ret
      ((with_reducible apply At.fin1); rfl; rfl; intro w' hw')
      exact ⟨by rw [bodyE_ok hte0 hall hnd fun n hn => hall2 n ((hlm n).2 hn)], by (exact hw'.fr)⟩
theorem Check_calls (es : List (Ex × ExY)) (q : Option Addr) (cap : Nat) (w : World) (he : Arr exR w (low w) es q) (hlen : es.length ≤ 9223372036854775807)
    (hg : 1 < w.heap.size) (hs : arityAt w) :
    Calls Tryd.prog 11 [.slice q es.length cap].toArray w fun e w' => e = .returned (.int .i64 (bodyE (es.map Prod.fst) [] false)) ∧ Ext w w' := by
  refine enter Tryd.func11 rfl Tryd.ntmps11 rfl (Cls.start w) ?_
  (simp only [argEnv, Nat.zero_add, Nat.reduceAdd])
  apply W.sr
  apply oas; rfl; rfl
  apply OL.nsr
  apply omv; rfl; rfl
  (((first | (with_reducible apply OL.op) | (with_reducible apply QL.op)); (exact Guard.au); rfl; rfl); (exact Pev.call rfl (by exact Args.au) (fun _ w2 hw2 => (Body_calls es q none cap 0 [] false w2 (he.at hw2 (by exact mau) (fun k hk => by exact NotOwned.au)) hlen IntsO.nil (by simp) (Nat.lt_of_lt_of_le hg (hw2.kp w (by exact mau)).size) (hs.at hg hw2 (by exact mau) (fun k hk => by exact NotOwned.au))).mono (fun e w3 h => ⟨h.1, hw2.ext h.2⟩))))
  apply oas; rfl; rfl
  apply OL.nx
  apply W.ret
  ((with_reducible apply At.fin1); rfl; rfl; intro w' hw')
  exact ⟨rfl, by (exact hw'.fr)⟩
end Go.Proofs.YtlboppiogeaicaaDoor.co

/- The walk of core's Count and at. Conditions: none. -/
namespace Go.Proofs.YtlboppiogeaicaaDoor.co
open Go.RowKit Go.Eng Go.Co
set_option linter.unusedVariables false
set_option linter.unusedSimpArgs false
set_option maxRecDepth 100000
theorem at_calls (es : List (Ex × ExY)) (q : Option Addr) (cap : Nat) (n : Int) (w : World) (he : Arr exR w (low w) es q) (hlen : es.length ≤ 9223372036854775807) (hg : 1 < w.heap.size) (hs : arityAt w) :
    Calls Tryd.prog 39 [.slice q es.length cap, .int .i64 n].toArray w fun e w' => e = .returned (.int .i64 (if bodyE (es.map Prod.fst) [] false = 0 then (if 0 ≤ n ∧ n < (es.length : Int) then 0 else 12) else bodyE (es.map Prod.fst) [] false)) ∧ Ext w w' := by
  refine enter Tryd.func39 rfl Tryd.ntmps39 rfl (Cls.start w) ?_
  (simp only [argEnv, Nat.zero_add, Nat.reduceAdd])
  apply W.sr
  apply oas; rfl; rfl
  apply OL.nx
  apply W.seq
  apply W.sr
  apply omv; rfl; rfl
  (((first | (with_reducible apply OL.op) | (with_reducible apply QL.op)); (exact Guard.au); rfl; rfl); (exact Pev.call rfl (by exact Args.au) (fun _ w2 hw2 => (Check_calls es q cap w2 (he.at hw2 (by exact mau) (fun k hk => by exact NotOwned.au)) hlen (Nat.lt_of_lt_of_le hg (hw2.kp w (by exact mau)).size) (hs.at hg hw2 (by exact mau) (fun k hk => by exact NotOwned.au))).mono (fun e w3 h => ⟨h.1, hw2.ext h.2⟩))))
  apply oas; rfl; rfl
  apply OL.nsr
  apply omv; rfl; rfl
  apply obn; rfl; rfl; rfl; apply Bin.neq
  apply OL.nx
  (refine W.cnd (fun hne => ?_) (fun hne => ?_)) <;> (try (exfalso; first | omega | exact hne trivial | contradiction))
  · apply W.sr
    apply omv; rfl; rfl
    apply oas; rfl; rfl
    apply OL.nx
    refine W.rt ?_
    ((with_reducible apply At.fin1); rfl; rfl; intro w' hw')
    exact ⟨by rw [if_neg (by simpa using hne)], by (exact hw'.fr)⟩
  have h0 : bodyE (es.map Prod.fst) [] false = 0 := by simpa using hne
  rw [if_pos h0]
  apply W.sk
  apply W.seq
  apply W.sr
  apply omv; rfl; rfl
  apply obn; rfl; rfl; rfl; apply Bin.lss
  apply omv; rfl; rfl
  apply ono; rfl; rfl; rfl; apply Pev.move; rfl; exact yes
  apply ono; rfl; rfl; rfl; apply Pev.move; rfl; exact yes
  apply ono; rfl; rfl; rfl; apply Pev.len_slice; rfl; exact fun h => h; rfl
  apply ono; rfl; rfl; rfl; apply Pev.bin; rfl; exact fun h => h; rfl; exact fun h => h; intro hcond; apply Bin.geq
  apply oop; rfl; apply Pev.pick_or; rfl; exact yes; rfl; exact fun h => h
  apply OL.nx
  refine W.cond rfl (fun hb => ?_) (fun hb => ?_)
  · apply W.sr
    apply oas; rfl; rfl
    apply OL.nx
    refine W.rt ?_
    ((with_reducible apply At.fin1); rfl; rfl; intro w' hw')
    exact ⟨by rw [if_neg (by grind)], by (exact hw'.fr)⟩
  · apply W.sk
    apply W.sr
    apply oas; rfl; rfl
    apply OL.nx
    apply W.ret
    ((with_reducible apply At.fin1); rfl; rfl; intro w' hw')
    exact ⟨by rw [if_pos (by grind)], by (exact hw'.fr)⟩
theorem tszs_take_succ {ts : List Tr} {i : Nat} {t : Tr} (h : ts[i]? = some t) : tszs (ts.take (i + 1)) = tszs (ts.take i) + tsz t := by
  induction ts generalizing i with
  | nil => simp at h
  | cons u r ih =>
    cases i with
    | zero => simp at h; subst h; simp [tszs]
    | succ i =>
      have := ih (i := i) (by simpa using h)
      simp only [List.take_succ_cons, tszs]
      omega
theorem tszs_take_le {ts : List Tr} {i : Nat} : tszs (ts.take i) ≤ tszs ts := by
  induction ts generalizing i with
  | nil => simp
  | cons u r ih =>
    cases i with
    | zero => simp [tszs]
    | succ i =>
      have := ih (i := i)
      simp only [List.take_succ_cons, tszs]
      omega
theorem Count_calls : ∀ (m : Nat) (t : Tr) (b : Nat) (w : World), tsz t ≤ m → tsz t ≤ 1000000 → TrO w (low w) t b →
    Calls Tryd.prog 40 [.pointer (some ⟨b, 0, none⟩)].toArray w fun e w' => e = .returned (.int .i64 (tsz t : Int)) ∧ Ext w w' := by
  intro m
  induction m with
  | zero =>
    intro t b w hm
    obtain ⟨op, n, binds, kids, alts⟩ := t
    simp only [tsz] at hm
    omega
  | succ m ih =>
  intro t b w hm hbig ht
  obtain ⟨op, n, binds, kids, alts⟩ := t
  simp only [TrO] at ht
  obtain ⟨y, hnode, hkl, hks⟩ := ht
  have hbs : b < w.heap.size := hnode.own
  have hcells := hnode.cells
  have hcellI : ∀ {j : Nat} {v : Value}, ([.int .i64 op, .int .i64 n, .slice y.b.1 binds.length y.b.2, .slice y.k.1 kids.length y.k.2, .slice y.a.1 alts.length y.a.2] : List Value)[j]? = some v → w.cell? ⟨b, 0 + j, none⟩ = some v := fun {j v} hj => by
    have := hcells j v hj
    rwa [add_mid] at this
  have h3 := hcellI (j := 3) rfl
  simp only [tsz] at hm hbig
  refine enter Tryd.func40 rfl Tryd.ntmps40 rfl (Cls.start w) ?_
  (simp only [argEnv, Nat.zero_add, Nat.reduceAdd])
  apply W.sr
  apply oas; rfl; rfl
  apply OL.nsr
  apply oas; rfl; rfl
  apply OL.nx
  apply W.seq
  apply W.sr
  apply omv; rfl; rfl
  apply oop; rfl; apply Pev.nil_ptr; rfl; exact yes
  apply ofa; rfl; rfl; rfl
  apply oop; rfl; apply Pev.load_kept; rfl; exact yes; exact .head _; rfl; intro hcond; assumption; intro hcond; assumption; intro hcond; exact NotOwned.au
  apply oop; rfl; apply Pev.len_slice; rfl; exact yes; rfl
  apply omv; rfl; rfl
  apply OL.nx
  apply W.block
  refine W.loop (G := Nat) (fun i => i ≤ kids.length) (fun i => kids.length - i)
    (fun i => [(3, true, .int .i64 ((tszs (kids.take i) + 1 : Nat) : Int)), (9, true, .slice y.k.1 kids.length y.k.2), (10, true, .int .i64 (kids.length : Int)), (11, true, .int .i64 (i : Int))])
    (fun _ => Cls [] [w]) 0 (by omega) (by simp only [List.take_zero, tszs]; exact Sub.au) (fun w' hw' => hw') ?_
  rintro i hi
  apply W.sr
  apply obn; rfl; rfl; rfl; apply Bin.lss
  apply OL.nx
  apply W.seq
  (refine W.cnd (fun hlt => ?_) (fun hlt => ?_)) <;> (try (exfalso; first | omega | exact hlt trivial | contradiction))
  · have hil : i < kids.length := by omega
    obtain ⟨a, hqa, hab, htrs⟩ := hks (by omega)
    have hab : a.block < w.heap.size := hab
    have hki : kids[i]? = some kids[i] := List.getElem?_eq_getElem hil
    obtain ⟨b', hcb, hkid⟩ := htrs.get hki
    have hsz := tsz_get hki
    have h1 := tszs_take_succ hki
    have h2 := tszs_take_le (ts := kids) (i := i + 1)
    rw [hqa]
    apply W.sk
    apply W.sb
    apply W.sr
    apply oop; rfl; apply Pev.idx; rfl; exact yes; rfl; exact yes; rfl; rfl; intro hcond; omega
    apply oop; rfl; apply Pev.load_kept; rfl; exact yes; exact .head _; rfl; intro hcond; assumption; intro hcond; (rw [add_block]; assumption); intro hcond; exact NotOwned.au
    apply oas; rfl; rfl
    apply OL.nx
    apply W.reg
    apply omv; rfl; rfl
    apply omv; rfl; rfl
    (((first | (with_reducible apply OL.op) | (with_reducible apply QL.op)); (exact Guard.au); rfl; rfl); (exact Pev.call rfl (by exact Args.au) (fun _ w2 hw2 => (ih kids[i] b' w2 (by omega) (by omega) (hkid.at hw2 (by exact mau) (fun k hk => by exact NotOwned.au))).mono (fun e w3 h => ⟨h.1, hw2.ext h.2⟩))))
    apply obn; rfl; rfl; rfl; apply Bin.add_in; omega
    apply oas; rfl; rfl
    apply OL.nil
    with_reducible apply At.in_normal
    with_reducible apply At.next
    apply W.reg
    apply obn; rfl; rfl; rfl; apply Bin.add_in; omega
    apply omv; rfl; rfl
    apply OL.nil
    have e1 : ((tszs (kids.take i) + 1 : Nat) : Int) + (tsz kids[i] : Int) = ((tszs (kids.take (i + 1)) + 1 : Nat) : Int) := by omega
    try rw [e1]
    exact At.again (i + 1) (by omega) (by omega) (by exact Sub.au) (fun w' hw' => hw')
  · obtain rfl : i = kids.length := by omega
    rw [List.take_length]
    refine W.xt ?_
    with_reducible apply At.next
    apply W.sr
    apply omv; rfl; rfl
    apply oas; rfl; rfl
    apply OL.nx
    apply W.ret
    ((with_reducible apply At.fin1); rfl; rfl; intro w' hw')
    exact ⟨rfl, by (exact hw'.fr)⟩
end Go.Proofs.YtlboppiogeaicaaDoor.co

/- Plain: the number of nodes at or below a node; what a valid expression is. No program in sight. No condition. -/
namespace Go.Co
set_option linter.unusedVariables false
set_option linter.unusedSimpArgs false
theorem tszs_map {e : List Ex} {l : List Int} (h : ∀ k ∈ l, (ids e k.toNat).length = tsz (grow e k.toNat)) : (l.flatMap fun k => ids e k.toNat).length = tszs (l.map fun k => grow e k.toNat) := by
  induction l with
  | nil => rfl
  | cons a r ih =>
    rw [List.flatMap_cons, List.length_append, List.map_cons, tszs, ih fun k hk => h k (.tail _ hk), h a (.head _)]
theorem ids_tsz {e : List Ex} (hd : Down e) : ∀ {i : Nat}, i < e.length → (ids e i).length = tsz (grow e i) := by
  intro i
  induction i using Nat.strongRecOn with
  | _ i ih =>
    intro hi
    have hx : e[i]? = some e[i] := List.getElem?_eq_getElem hi
    rw [ids_eq hd hx, grow_eq hd hx, List.length_cons, tsz, tszs_map]
    intro k hk
    have := hd i _ hx k hk
    exact ih k.toNat (by omega) (by omega)
theorem ids_le {e : List Ex} (ht : IsTree e) {a : Nat} (ha : a < e.length) : (ids e a).length ≤ e.length := by
  have := nodup_le_ (m := List.range e.length) (ids_nodup ht ha) (fun n hn => by
    have := ((mem_ids ht ha).1 hn).le ht.down
    rw [List.mem_range]
    omega)
  rwa [List.length_range] at this
theorem tsz_le {e : List Ex} (ht : IsTree e) {a : Nat} (ha : a < e.length) : tsz (grow e a) ≤ e.length := by
  rw [← ids_tsz ht.down ha]
  exact ids_le ht ha
theorem count_tsz {e : List Ex} (ht : IsTree e) {a : Nat} {B : List Bool} (ha : a < e.length) (h : BI e a B 0 0) : B.count true = tsz (grow e a) := by
  rw [count_ids ht ha h, ids_tsz ht.down ha]
/-- a valid expression -/
structure BodyOk (e : List Ex) (ps : List Int) (flat : Bool) : Prop where
  tree : TreeOk e
  one : ∀ x ∈ e, oneE e flat x = 0
  nd : (ps ++ e.flatMap bindersX).Nodup
  fr : ∀ n ∈ fv (grow e (e.length - 1)) [], n ∈ ps
theorem BodyOk.of {e : List Ex} {ps : List Int} {flat : Bool} (h : bodyE e ps flat = 0) : BodyOk e ps flat := by
  by_cases h1 : treeE e = 0
  · by_cases h2 : firstE (oneE e flat) e = 0
    · by_cases h3 : (ps ++ e.flatMap bindersX).Nodup
      · refine ⟨treeE_ok0 h1, firstE_zero.1 h2, h3, fun n hn => ?_⟩
        by_cases hp : n ∈ ps
        · exact hp
        · rw [bodyE_free h1 h2 h3 hn hp] at h; cases h
      · rw [bodyE_twice h1 h2 h3] at h; cases h
    · rw [bodyE_one h1 h2] at h; exact absurd h h2
  · rw [bodyE_tree h1] at h; exact absurd h h1
theorem BodyOk.node {e : List Ex} {ps : List Int} {flat : Bool} (h : BodyOk e ps flat) {x : Ex} (hx : x ∈ e) : nodeE e x = 0 ∧ flatBad flat x.op = false := by
  have h1 := h.one x hx
  unfold oneE at h1
  split at h1
  · cases h1
  · rename_i h2
    exact ⟨h1, by simpa using h2⟩
theorem BodyOk.kl {e : List Ex} {ps : List Int} {flat : Bool} (h : BodyOk e ps flat) {x : Ex} (hx : x ∈ e) : x.kids.length ≤ 4096 := by
  obtain ⟨i, hi⟩ := List.getElem?_of_mem hx
  have := kids_len h.tree.tree hi
  have := h.tree.len
  omega
theorem BodyOk.lim {e : List Ex} {ps : List Int} {flat : Bool} (h : BodyOk e ps flat) {x : Ex} (hx : x ∈ e) : Lim x := by
  obtain ⟨h3, h4⟩ := nodeE_zero (h.node hx).1
  exact lim_of h3 h4 (h.kl hx)
theorem BodyOk.mk2 {e : List Ex} {ps : List Int} {flat : Bool} (h : treeE e = 0) (h2 : ∀ x ∈ e, oneE e flat x = 0) (h3 : (ps ++ e.flatMap bindersX).Nodup) (h5 : ∀ n ∈ fv (grow e (e.length - 1)) [], n ∈ ps) : bodyE e ps flat = 0 :=
  bodyE_ok h (firstE_zero.2 h2) h3 h5
end Go.Co

/- Plain: how often identifiers are used: a walk over a tree with three maps, and the reference's way up. No program in sight. No condition. -/
namespace Go.Co
set_option linter.unusedVariables false
set_option linter.unusedSimpArgs false
/-- whether kid k of a node is evaluated more than once -/
def rp (op : Int) (k : Nat) : Int := if op = 2 ∨ (op = 13 ∧ 0 < k) then 1 else 0
structure US where
  u : List (Int × Int)
  d : List (Int × Int)
  m : List (Int × Int)
def US.occ (s : US) (n deep : Int) : US := ⟨lput s.u n (cf s.u n + 1), s.d, if cf s.d n < deep then lput s.m n (cf s.m n + 1) else s.m⟩
def putAll (d : List (Int × Int)) (l : List Int) (v : Int) : List (Int × Int) := l.foldl (fun m n => lput m n v) d
mutual
def wk : Tr → Int → US → US
  | .mk op n binds kids alts, deep, s => wks op binds alts kids 0 deep (if op = 0 then s.occ n deep else s)
def wks (op : Int) (binds : List Int) (alts : List Al) : List Tr → Nat → Int → US → US
  | [], _, _, s => s
  | t :: r, k, deep, s => wks op binds alts r (k + 1) deep (wk t (deep + rp op k) ⟨s.u, putAll s.d (bound op binds alts k) (deep + rp op k), s.m⟩)
end
theorem lget_lput (l : List (Int × Int)) (k v j : Int) : lget (lput l k v) j = if k = j then some v else lget l j := by
  induction l with
  | nil => simp [lput, lget]
  | cons p r ih =>
    rw [lput]
    by_cases h : p.1 = k
    · rw [if_pos h]
      simp only [lget, h]
      split <;> simp_all
    · rw [if_neg h]
      simp only [lget]
      by_cases h2 : p.1 = j
      · rw [if_pos h2, if_pos h2, if_neg (fun e => h (h2.trans e.symm))]
      · rw [if_neg h2, if_neg h2]
        exact ih
theorem lget_putAll : ∀ (l : List Int) (d : List (Int × Int)) (v j : Int), lget (putAll d l v) j = if j ∈ l then some v else lget d j
  | [], d, v, j => by simp [putAll]
  | n :: r, d, v, j => by
    have h := lget_putAll r (lput d n v) v j
    show lget (putAll (lput d n v) r v) j = _
    rw [h, lget_lput]
    by_cases h1 : j ∈ r
    · simp [h1]
    · by_cases h2 : n = j
      · simp [h2]
      · simp [h1, h2, Ne.symm h2]
theorem putAll_snoc (d : List (Int × Int)) (l : List Int) (n v : Int) : putAll d (l ++ [n]) v = lput (putAll d l v) n v := by
  simp [putAll, List.foldl_append]
theorem wks_append {op : Int} {binds : List Int} {alts : List Al} : ∀ (l m : List Tr) (k : Nat) (deep : Int) (s : US), wks op binds alts (l ++ m) k deep s = wks op binds alts m (k + l.length) deep (wks op binds alts l k deep s)
  | [], m, k, deep, s => by simp [wks]
  | t :: r, m, k, deep, s => by
    rw [List.cons_append, wks, wks, wks_append r m]
    rw [List.length_cons, show k + 1 + r.length = k + (r.length + 1) by omega]
theorem wks_take {op : Int} {binds : List Int} {alts : List Al} {kids : List Tr} {i : Nat} {t : Tr} (h : kids[i]? = some t) (deep : Int) (s : US) :
    wks op binds alts (kids.take (i + 1)) 0 deep s = wk t (deep + rp op i) ⟨(wks op binds alts (kids.take i) 0 deep s).u, putAll (wks op binds alts (kids.take i) 0 deep s).d (bound op binds alts i) (deep + rp op i), (wks op binds alts (kids.take i) 0 deep s).m⟩ := by
  have hi := (List.getElem?_eq_some_iff.1 h).1
  rw [List.take_add_one, h, Option.toList_some, wks_append, wks, wks, List.length_take, Nat.min_eq_left (by omega), Nat.zero_add]
/-- counts that stay in a range -/
def Rg (K : Int) (s : US) : Prop := ∀ k, 0 ≤ cf s.u k ∧ cf s.u k ≤ K ∧ 0 ≤ cf s.m k ∧ cf s.m k ≤ K
theorem Rg.mono {K K' : Int} {s : US} (h : Rg K s) (hk : K ≤ K') : Rg K' s := fun k => by
  obtain ⟨h1, h2, h3, h4⟩ := h k
  exact ⟨h1, by omega, h3, by omega⟩
theorem Rg.occ {K : Int} {s : US} (h : Rg K s) (n deep : Int) : Rg (K + 1) (s.occ n deep) := fun k => by
  obtain ⟨h1, h2, h3, h4⟩ := h k
  unfold US.occ
  simp only [cf_lput]
  refine ⟨?_, ?_, ?_, ?_⟩
  · split
    · rename_i e; subst e; omega
    · omega
  · split
    · rename_i e; subst e; omega
    · omega
  · split
    · rw [cf_lput]
      split
      · rename_i e; subst e; omega
      · omega
    · omega
  · split
    · rw [cf_lput]
      split
      · rename_i e; subst e; omega
      · omega
    · omega
mutual
theorem Rg.wk : ∀ (t : Tr) {K deep : Int} {s : US}, Rg K s → Rg (K + tsz t) (wk t deep s)
  | .mk op n binds kids alts, K, deep, s, h => by
    rw [Co.wk, tsz]
    have h1 : Rg (K + 1) (if op = 0 then s.occ n deep else s) := by
      split
      · exact h.occ n deep
      · exact h.mono (by omega)
    exact (Rg.wks kids h1).mono (by omega)
theorem Rg.wks {op : Int} {binds : List Int} {alts : List Al} : ∀ (l : List Tr) {k : Nat} {K deep : Int} {s : US}, Rg K s → Rg (K + tszs l) (wks op binds alts l k deep s)
  | [], k, K, deep, s, h => by
    rw [Co.wks, tszs]
    exact h.mono (by omega)
  | t :: r, k, K, deep, s, h => by
    rw [Co.wks, tszs]
    have h0 : Rg K ⟨s.u, putAll s.d (bound op binds alts k) (deep + rp op k), s.m⟩ := h
    exact (Rg.wks r (Rg.wk t h0)).mono (by omega)
end
/-! ### on lists of nodes -/
/-- does the node repeat its kid i? -/
def rpK (x : Ex) (i : Nat) : Int := if x.op = 2 ∨ (x.op = 13 ∧ ¬ x.kids[0]? = some (i : Int)) then 1 else 0
/-- how many repeating edges lie above a node -/
def dR (e : List Ex) (P : List Int) (i : Nat) : Int :=
  match P[i]? with
  | some p => if h : 0 ≤ p ∧ i < p.toNat ∧ p.toNat < e.length then dR e P p.toNat + rpK (e.getD p.toNat ⟨0, 0, [], [], []⟩) i else 0
  | none => 0
termination_by e.length - i
theorem dR_root {e : List Ex} {P : List Int} {i : Nat} (h : P[i]? = some (-1)) : dR e P i = 0 := by
  rw [dR, h]
  simp
theorem dR_up {e : List Ex} {P : List Int} {i p : Nat} {x : Ex} (h : P[i]? = some (p : Int)) (h0 : i < p) (hx : e[p]? = some x) : dR e P i = dR e P p + rpK x i := by
  have hl := (List.getElem?_eq_some_iff.1 hx).1
  rw [dR, h]
  simp only [Int.toNat_natCast]
  rw [dif_pos ⟨by omega, h0, hl⟩]
  simp only [List.getD, hx, Option.getD_some]
theorem rpK_par {e : List Ex} (ht : IsTree e) {i p m : Nat} {x : Ex} (hp : Par e i p m) (hx : e[p]? = some x) : rpK x i = rp x.op m := by
  obtain ⟨x', hx', hk⟩ := hp
  rw [hx] at hx'
  obtain rfl := Option.some.inj hx'
  have h0 : x.kids[0]? = some (i : Int) ↔ m = 0 := by
    constructor
    · intro h
      exact ((ht.uniq i p m p 0 ⟨x, hx, hk⟩ ⟨x, hx, h⟩).2)
    · rintro rfl
      exact hk
  have h1 : (x.op = 2 ∨ (x.op = 13 ∧ ¬ x.kids[0]? = some (i : Int))) ↔ (x.op = 2 ∨ (x.op = 13 ∧ 0 < m)) := by
    rw [h0]
    constructor
    · rintro (h | ⟨h1, h2⟩)
      · exact .inl h
      · exact .inr ⟨h1, by omega⟩
    · rintro (h | ⟨h1, h2⟩)
      · exact .inl h
      · exact .inr ⟨h1, by omega⟩
  unfold rpK rp
  simp only [h1]
theorem dR_par {e : List Ex} {P : List Int} (ht : IsTree e) (hP : Parents e P) {i p m : Nat} {x : Ex} (hp : Par e i p m) (hx : e[p]? = some x) : dR e P i = dR e P p + rp x.op m := by
  rw [dR_up (hP.par i p m hp) (hp.lt ht.down).1 hx, rpK_par ht hp hx]
def occB (e : List Ex) (n : Int) (j : Nat) : Bool := decide ((e.getD j ⟨1, 0, [], [], []⟩).op = 0) && decide ((e.getD j ⟨1, 0, [], [], []⟩).n = n)
def farB (e : List Ex) (P : List Int) (bd : Int → Int) (n : Int) (j : Nat) : Bool := occB e n j && decide (bd n < dR e P j)
/-- what the walk adds -/
structure Added (e : List Ex) (P : List Int) (bd : Int → Int) (l : List Nat) (s s' : US) : Prop where
  d : ∀ n, lget s.d n = some (bd n) → lget s'.d n = some (bd n)
  u : ∀ n, cf s'.u n = cf s.u n + (l.countP (occB e n) : Int)
  m : ∀ n, cf s'.m n = cf s.m n + (l.countP (farB e P bd n) : Int)
theorem Added.refl {e : List Ex} {P : List Int} {bd : Int → Int} (s : US) : Added e P bd [] s s := ⟨fun n h => h, fun n => by simp, fun n => by simp⟩
theorem Added.trans {e : List Ex} {P : List Int} {bd : Int → Int} {l m : List Nat} {s s' s'' : US} (h : Added e P bd l s s') (h' : Added e P bd m s' s'') : Added e P bd (l ++ m) s s'' :=
  ⟨fun n hn => h'.d n (h.d n hn), fun n => by rw [h'.u, h.u, List.countP_append]; omega, fun n => by rw [h'.m, h.m, List.countP_append]; omega⟩
theorem wk_adds {e : List Ex} {P : List Int} {bd : Int → Int} (ht : IsTree e) (hP : Parents e P)
    (hbd : ∀ p m n (x : Ex), e[p]? = some x → m < x.kids.length → n ∈ scopeX x m → bd n = dR e P p + rp x.op m)
    (hcl : ∀ j (x : Ex) sc, e[j]? = some x → x.op = 0 → Under e j (e.length - 1) sc → x.n ∈ sc) :
    ∀ (i : Nat), i < e.length → ∀ (sc : List Int), Under e i (e.length - 1) sc → ∀ s : US, (∀ n ∈ sc, lget s.d n = some (bd n)) → Added e P bd (ids e i) s (wk (grow e i) (dR e P i) s) := by
  intro i
  induction i using Nat.strongRecOn with
  | _ i ih =>
    intro hi sc hu s hs
    have hx : e[i]? = some e[i] := List.getElem?_eq_getElem hi
    generalize e[i] = x at hx
    have hks := ht.down i x hx
    rw [grow_eq ht.down hx, wk, ids_eq ht.down hx]
    have h1 : Added e P bd [i] s (if x.op = 0 then s.occ x.n (dR e P i) else s) := by
      have hget : e.getD i ⟨1, 0, [], [], []⟩ = x := by rw [List.getD_eq_getElem?_getD, hx]; rfl
      by_cases ho : x.op = 0
      · rw [if_pos ho]
        have hin := hcl i x sc hx ho hu
        have hlg := hs _ hin
        have hcf : cf s.d x.n = bd x.n := by unfold cf; rw [hlg]; rfl
        refine ⟨fun n h => h, fun n => ?_, fun n => ?_⟩
        · simp only [US.occ, cf_lput, List.countP_cons, List.countP_nil, occB, hget, ho]
          by_cases e1 : x.n = n
          · subst e1; simp
          · simp [e1]
        · simp only [US.occ, List.countP_cons, List.countP_nil, farB, occB, hget, ho, hcf]
          by_cases e1 : x.n = n
          · subst e1
            by_cases e2 : bd x.n < dR e P i
            · simp [e2, cf_lput]
            · simp [e2]
          · by_cases e2 : bd x.n < dR e P i
            · simp [e1, e2, cf_lput]
            · simp [e1, e2]
      · rw [if_neg ho]
        exact ⟨fun n h => h, fun n => by simp [occB, hx, ho], fun n => by simp [farB, occB, hx, ho]⟩
    refine Added.trans (l := [i]) h1 ?_
    have hs1 : ∀ n ∈ sc, lget (if x.op = 0 then s.occ x.n (dR e P i) else s).d n = some (bd n) := fun n hn => h1.d n (hs n hn)
    generalize (if x.op = 0 then s.occ x.n (dR e P i) else s) = s1 at hs1
    have key : ∀ (l : List Int) (k : Nat), (∀ m v, l[m]? = some v → x.kids[k + m]? = some v) → ∀ s1 : US, (∀ n ∈ sc, lget s1.d n = some (bd n)) →
        Added e P bd (l.flatMap fun v => ids e v.toNat) s1 (wks x.op x.binds x.alts (l.map fun v => grow e v.toNat) k (dR e P i) s1) := by
      intro l
      induction l with
      | nil => intro k _ s1 _; exact Added.refl s1
      | cons v r ihl =>
        intro k hk s1 hs1
        have hv := hk 0 v rfl
        rw [Nat.add_zero] at hv
        have hr := hks v (List.mem_of_getElem? hv)
        have hpar : Par e v.toNat i k := ⟨x, hx, by rw [hv]; congr 1; omega⟩
        have hkl := (List.getElem?_eq_some_iff.1 hv).1
        rw [List.flatMap_cons, List.map_cons, wks]
        have hb := fun n => hbd i k n x hx hkl
        have hdk := dR_par ht hP hpar hx
        have h0 : Added e P bd [] s1 ⟨s1.u, putAll s1.d (bound x.op x.binds x.alts k) (dR e P i + rp x.op k), s1.m⟩ := by
          refine ⟨fun n hn => ?_, fun n => by simp, fun n => by simp⟩
          rw [lget_putAll]
          split
          · rename_i hm
            rw [hb n hm]
          · exact hn
        have h2 := ih v.toNat (by omega) (by omega) (scopeX x k ++ sc) (.up hpar hx hu) ⟨s1.u, putAll s1.d (bound x.op x.binds x.alts k) (dR e P i + rp x.op k), s1.m⟩ (fun n hn => by
          rw [lget_putAll]
          split
          · rename_i hm
            rw [hb n hm]
          · rename_i hm
            rcases List.mem_append.1 hn with hn | hn
            · exact absurd hn hm
            · exact hs1 n hn)
        rw [hdk] at h2
        refine Added.trans (h0.trans h2) (ihl (k + 1) (fun m w hm => by rw [show k + 1 + m = k + (m + 1) by omega]; exact hk (m + 1) w (by simpa using hm)) _ fun n hn => ?_)
        exact h2.d n (h0.d n (hs1 n hn))
    exact key x.kids 0 (fun m v hm => by rw [Nat.zero_add]; exact hm) s1 hs1
/-- the kid in which something is bound repeats if the node is a function or a handler -/
def rb (op : Int) : Int := if op = 2 ∨ op = 13 then 1 else 0
theorem rp_scope {x : Ex} {m : Nat} {n : Int} (h : n ∈ scopeX x m) : rp x.op m = rb x.op := by
  unfold scopeX bound at h
  unfold rp rb
  by_cases h2 : x.op = 2
  · simp [h2]
  · by_cases h13 : x.op = 13
    · rw [if_neg (by omega)] at h
      split at h
      · simp [h13]; omega
      · cases h
    · simp [h2, h13]
theorem scope_binders {x : Ex} {m : Nat} {n : Int} (h : n ∈ scopeX x m) : n ∈ bindersX x := by
  unfold scopeX bound at h
  unfold bindersX
  rw [List.mem_append]
  split at h
  · rename_i h1
    left
    rw [if_pos (by omega)]
    exact h
  · right
    split at h
    · rename_i h1
      rw [List.mem_flatMap]
      refine ⟨_, ?_, h⟩
      rw [List.getD_eq_getElem?_getD, List.getElem?_eq_getElem (by omega)]
      exact List.getElem_mem _
    · cases h
/-- the node that binds an identifier -/
def bdr (e : List Ex) (n : Int) : Nat := ((List.range e.length).find? fun b => decide (n ∈ bindersX (e.getD b ⟨1, 0, [], [], []⟩))).getD 0
theorem binders_one {e : List Ex} (hn : (e.flatMap bindersX).Nodup) {a b : Nat} {x y : Ex} {n : Int} (ha : e[a]? = some x) (hb : e[b]? = some y) (hx : n ∈ bindersX x) (hy : n ∈ bindersX y) : a = b := by
  rw [List.nodup_iff_pairwise_ne, List.pairwise_flatMap] at hn
  have h2 := List.pairwise_iff_getElem.1 hn.2
  obtain ⟨ha1, rfl⟩ := List.getElem?_eq_some_iff.1 ha
  obtain ⟨hb1, rfl⟩ := List.getElem?_eq_some_iff.1 hb
  rcases Nat.lt_trichotomy a b with h | h | h
  · exact (h2 a b ha1 hb1 h n hx n hy rfl).elim
  · exact h
  · exact (h2 b a hb1 ha1 h n hy n hx rfl).elim
theorem bdr_eq {e : List Ex} (hn : (e.flatMap bindersX).Nodup) {b : Nat} {x : Ex} {n : Int} (hb : e[b]? = some x) (hx : n ∈ bindersX x) : bdr e n = b := by
  have hl := (List.getElem?_eq_some_iff.1 hb).1
  unfold bdr
  cases hf : (List.range e.length).find? fun b => decide (n ∈ bindersX (e.getD b ⟨1, 0, [], [], []⟩)) with
  | none =>
    have := List.find?_eq_none.1 hf b (List.mem_range.2 hl)
    rw [List.getD_eq_getElem?_getD, hb] at this
    simp at this
    exact absurd hx this
  | some c =>
    have h1 := List.find?_some hf
    have h2 := List.mem_range.1 (List.mem_of_find?_eq_some hf)
    have hc : e[c]? = some e[c] := List.getElem?_eq_getElem h2
    simp only [decide_eq_true_eq, List.getD_eq_getElem?_getD, hc, Option.getD_some] at h1
    exact binders_one hn hc hb h1 hx
def bdv (e : List Ex) (P : List Int) (n : Int) : Int := dR e P (bdr e n) + rb (e.getD (bdr e n) ⟨1, 0, [], [], []⟩).op
theorem bdv_eq {e : List Ex} {P : List Int} (hn : (e.flatMap bindersX).Nodup) {b : Nat} {x : Ex} {n : Int} (hb : e[b]? = some x) (hx : n ∈ bindersX x) : bdv e P n = dR e P b + rb x.op := by
  unfold bdv
  rw [bdr_eq hn hb hx, List.getD_eq_getElem?_getD, hb]
  rfl
/-- how an identifier is used -/
def howN (u m : Int) : Int := if u = 0 then 0 else if u = 1 ∧ m = 0 then 1 else 2
theorem howN_congr {u m m' : Int} (h : m = 0 ↔ m' = 0) : howN u m = howN u m' := by
  unfold howN
  simp only [h]
def usesOf (e : List Ex) (n : Int) : Nat := (List.range e.length).countP (occB e n)
def farsOf (e : List Ex) (P : List Int) (n : Int) : Bool := (List.range e.length).any (farB e P (bdv e P) n)
def usageOf (e : List Ex) (P : List Int) (n : Int) : Int := howN (usesOf e n) (if farsOf e P n then 1 else 0)
theorem ids_perm {e : List Ex} (ht : IsTree e) (h0 : 0 < e.length) : (ids e (e.length - 1)).Perm (List.range e.length) := by
  refine (List.perm_ext_iff_of_nodup (ids_nodup ht (by omega)) List.nodup_range).2 fun n => ?_
  rw [mem_ids ht (by omega), List.mem_range]
  constructor
  · intro h
    have := h.le ht.down
    omega
  · exact fun h => ht.root h
theorem closed {e : List Ex} {P : List Int} (h : BodyOk e [] false) : ∀ j (x : Ex) sc, e[j]? = some x → x.op = 0 → Under e j (e.length - 1) sc → x.n ∈ sc := by
  intro j x sc hx ho hu
  have hj := (List.getElem?_eq_some_iff.1 hx).1
  have h1 := fun hn => h.fr x.n ((mem_fv h.tree.tree.down (e.length - 1) (by omega) []).2 ⟨j, x, sc, hx, ho, rfl, hu, hn⟩)
  simp at h1
  exact h1
/-- what the walk of the whole tree tells -/
theorem wk_whole {e : List Ex} {P : List Int} (h : BodyOk e [] false) (hP : Parents e P) (h0 : 0 < e.length) (n : Int) :
    howN (cf (wk (grow e (e.length - 1)) 0 ⟨[], [], []⟩).u n) (cf (wk (grow e (e.length - 1)) 0 ⟨[], [], []⟩).m n) = usageOf e P n := by
  have ht := h.tree.tree
  have hnd : (e.flatMap bindersX).Nodup := by have := h.nd; simpa using this
  have hA := wk_adds (bd := bdv e P) ht hP (fun p m n x hx hm hn => by rw [bdv_eq hnd hx (scope_binders hn), rp_scope hn]) (closed (P := P) h) (e.length - 1) (by omega) [] .here ⟨[], [], []⟩ (fun n hn => by cases hn)
  rw [dR_root hP.root] at hA
  have hu := hA.u n
  have hm := hA.m n
  rw [(ids_perm ht h0).countP_eq] at hu hm
  have hz : cf [] n = 0 := rfl
  rw [hz, Int.zero_add] at hu hm
  rw [hu, hm]
  unfold usageOf
  have hf : farsOf e P n = true ↔ 0 < (List.range e.length).countP (farB e P (bdv e P) n) := by
    rw [List.countP_pos_iff]
    unfold farsOf
    rw [List.any_eq_true]
  refine howN_congr ?_
  by_cases hc : farsOf e P n = true
  · have := hf.1 hc
    rw [if_pos hc]
    omega
  · have : ¬ 0 < (List.range e.length).countP (farB e P (bdv e P) n) := fun h => hc (hf.2 h)
    rw [if_neg hc]
    omega
/-! ### the way up -/
/-- what the reference has seen on the way from i up to k; b is the binder, k' its kid -/
def Wup (e : List Ex) (P : List Int) (bd : Int → Int) (n : Int) (b k' i k : Nat) (far0 far : Bool) : Prop :=
  (k = b ∧ far = (far0 || decide (bd n < dR e P i))) ∨ ((∃ sc, Under e k k' sc) ∧ k < b ∧ far = (far0 || decide (dR e P k < dR e P i)) ∧ dR e P k ≤ dR e P i)
theorem rp_range (op : Int) (m : Nat) : 0 ≤ rp op m ∧ rp op m ≤ 1 := by unfold rp; split <;> omega
theorem Wup.start {e : List Ex} {P : List Int} (h : BodyOk e [] false) (hP : Parents e P) {i b : Nat} {x y : Ex} (hx : e[i]? = some x) (ho : x.op = 0) (hb : e[b]? = some y) (hn : x.n ∈ bindersX y) (far0 : Bool) :
    ∃ k', P[k']? = some (b : Int) ∧ k' < b ∧ dR e P k' = bdv e P x.n ∧ Wup e P (bdv e P) x.n b k' i i far0 far0 := by
  have ht := h.tree.tree
  have hnd : (e.flatMap bindersX).Nodup := by have := h.nd; simpa using this
  have hi := (List.getElem?_eq_some_iff.1 hx).1
  obtain ⟨sc, hu⟩ := ht.root hi
  have hin := closed (P := P) h i x sc hx ho hu
  rcases bnd_spec ht hP x.n hi with ⟨_, h2⟩ | ⟨k, p, m, z, sc2, h1, h2, h3, h4, h5, h6⟩
  · exact absurd hin (h2 sc hu)
  · obtain rfl := binders_one hnd h5 hb (scope_binders h6) hn
    rw [hb] at h5
    obtain rfl := Option.some.inj h5
    have hlt := h4.lt ht.down
    refine ⟨k, hP.par k p m h4, hlt.1, ?_, .inr ⟨⟨_, h2⟩, by have := h2.le ht.down; omega, by simp, Int.le_refl _⟩⟩
    rw [dR_par ht hP h4 hb, bdv_eq hnd hb hn, rp_scope h6]
theorem Wup.step {e : List Ex} {P : List Int} (ht : IsTree e) (hP : Parents e P) {bd : Int → Int} {n : Int} {b k' i k : Nat} {far0 far : Bool} (h : Wup e P bd n b k' i k far0 far) (hk : k ≠ b) (hkb : P[k']? = some (b : Int)) (hlt : k' < b) (hbd : dR e P k' = bd n) :
    ∃ (p : Nat) (x : Ex), P[k]? = some (p : Int) ∧ k < p ∧ p ≤ b ∧ e[p]? = some x ∧ Wup e P bd n b k' i p far0 (far || (decide (rpK x k = 1) && !decide (p = b))) := by
  rcases h with ⟨h1, _⟩ | ⟨⟨sc, hu⟩, hkb', hf, hle⟩
  · exact absurd h1 hk
  · have hroot : ∃ p m, Par e k p m ∧ ((k = k' ∧ p = b) ∨ ∃ sc, Under e p k' sc) := by
      cases hu with
      | here =>
        by_cases hl : k' + 1 < e.length
        · obtain ⟨p, m, hp⟩ := ht.one k' hl
          have h1 := hP.par k' p m hp
          rw [hkb] at h1
          exact ⟨p, m, hp, .inl ⟨rfl, by have := Option.some.inj h1; omega⟩⟩
        · have h1 := (List.getElem?_eq_some_iff.1 hkb).1
          rw [hP.len] at h1
          have h2 := hP.root
          rw [show e.length - 1 = k' by omega, hkb] at h2
          have := Option.some.inj h2
          omega
      | up hp hx h => exact ⟨_, _, hp, .inr ⟨_, h⟩⟩
    obtain ⟨p, m, hp, hc⟩ := hroot
    have hlp := hp.lt ht.down
    have hx : e[p]? = some e[p] := List.getElem?_eq_getElem hlp.2
    have hd := dR_up (hP.par k p m hp) hlp.1 hx
    have hr := rpK_par ht hp hx
    have hrr := rp_range (e[p]).op m
    refine ⟨p, e[p], hP.par k p m hp, hlp.1, ?_, hx, ?_⟩
    · rcases hc with ⟨_, h⟩ | ⟨sc, h⟩
      · omega
      · have := h.le ht.down
        omega
    · rcases hc with ⟨h1, h2⟩ | ⟨sc, h⟩
      · subst h1
        refine .inl ⟨h2, ?_⟩
        rw [hf, hbd]
        simp [h2]
      · have hpb := h.le ht.down
        refine .inr ⟨⟨sc, h⟩, by omega, ?_, by omega⟩
        rw [hf]
        have hne : p ≠ b := by omega
        by_cases h1 : rpK e[p] k = 1
        · have h2 : dR e P p < dR e P i := by omega
          simp [h1, h2, hne]
        · have h2 : dR e P p = dR e P k := by omega
          simp [h1, h2]
/-! ### lists that are sorted -/
theorem insN_perm {n : Int} {l : List Int} : (insN n l).Perm (n :: l) := by
  unfold insN
  refine List.perm_middle.trans ?_
  rw [List.takeWhile_append_dropWhile]
theorem rev_ind {α : Type} {p : List α → Prop} (h0 : p []) (h1 : ∀ l a, p l → p (l ++ [a])) (l : List α) : p l := by
  have h : ∀ r : List α, p r.reverse := by
    intro r
    induction r with
    | nil => exact h0
    | cons a r ih => rw [List.reverse_cons]; exact h1 _ _ ih
  have := h l.reverse
  rwa [List.reverse_reverse] at this
/-- the identifiers so far, each at its place -/
def sortI (l : List Int) : List Int := l.foldl (fun m n => insN n m) []
theorem sortI_snoc (l : List Int) (n : Int) : sortI (l ++ [n]) = insN n (sortI l) := by simp [sortI, List.foldl_append]
theorem mem_sortI {n : Int} {l : List Int} : n ∈ sortI l ↔ n ∈ l := by
  refine rev_ind (p := fun l => n ∈ sortI l ↔ n ∈ l) (by simp [sortI]) (fun r a ih => ?_) l
  rw [sortI_snoc, mem_insN, ih, List.mem_append, List.mem_singleton]
  exact or_comm
theorem sortI_sorted {l : List Int} : l.Nodup → (sortI l).Pairwise (· < ·) := by
  refine rev_ind (p := fun l => l.Nodup → (sortI l).Pairwise (· < ·)) (fun _ => List.Pairwise.nil) (fun r a ih h => ?_) l
  rw [List.nodup_append] at h
  rw [sortI_snoc]
  exact insN_sorted (ih h.1) fun hm => h.2.2 a (mem_sortI.1 hm) a (by simp) rfl
theorem sortI_len (l : List Int) : (sortI l).length = l.length := by
  refine rev_ind (p := fun l => (sortI l).length = l.length) rfl (fun r a ih => ?_) l
  rw [sortI_snoc, insN_len, ih]; simp
/-- any sorted arrangement is that one -/
theorem sortI_uniq {l m : List Int} (h : l.Nodup) (hp : m.Perm l) (hs : m.Pairwise (· ≤ ·)) : m = sortI l := by
  refine sorted_eq ?_ (sortI_sorted h) fun n => by rw [mem_sortI, hp.mem_iff]
  have hn := hp.nodup_iff.2 h
  refine (hs.and hn).imp fun h => ?_
  obtain ⟨h1, h2⟩ := h
  omega
end Go.Co

/- The walks of usage's repeats and walk. Conditions: none. -/
namespace Go.Co
open Go.Eng Go.RowKit
structure UG where
  s : US
/-- a usage's cells -/
def uc (p : Int × Int) : List Value := [.int .i64 p.1, .int .i64 p.2]
theorem uc_len (p : Int × Int) : (uc p).length = 2 := rfl
end Go.Co
namespace Go.Proofs.YtlboppiogeaicaaDoor.co
open Go.RowKit Go.Eng Go.Co
set_option linter.unusedVariables false
set_option linter.unusedSimpArgs false
set_option maxRecDepth 100000
theorem repeats_calls (b : Nat) (op n : Int) (binds : List Int) (kl : Nat) (alts : List Al) (y : ExY) (k : Nat) (w : World) (O : Nat → Prop) (hO : ∀ k, O k → k < w.heap.size) (h : NodeO w O b op n binds kl alts y) :
    Calls Tryd.prog 96 [.pointer (some ⟨b, 0, none⟩), .int .i64 (k : Int)].toArray w fun e w' => e = .returned (.bool (decide (rp op k = 1))) ∧ Ext w w' := by
  have hbs : b < w.heap.size := hO _ h.own
  have hcells := h.cells
  have hcellI : ∀ {j : Nat} {v : Value}, ([.int .i64 op, .int .i64 n, .slice y.b.1 binds.length y.b.2, .slice y.k.1 kl y.k.2, .slice y.a.1 alts.length y.a.2] : List Value)[j]? = some v → w.cell? ⟨b, 0 + j, none⟩ = some v := fun {j v} hj => by
    have := hcells j v hj
    rwa [add_mid] at this
  have h0 := hcellI (j := 0) rfl
  refine enter Tryd.func96 rfl Tryd.ntmps96 rfl (Cls.start w) ?_
  (simp only [argEnv, Nat.zero_add, Nat.reduceAdd])
  apply W.sr
  apply oas; rfl; rfl
  apply OL.nsr
  apply omv; rfl; rfl
  apply oop; rfl; apply Pev.nil_ptr; rfl; exact yes
  apply ofa; rfl; rfl; rfl
  apply oop; rfl; apply Pev.load_kept; rfl; exact yes; exact .head _; rfl; intro hcond; assumption; intro hcond; assumption; intro hcond; exact NotOwned.au
  apply obn; rfl; rfl; rfl; apply Bin.eql
  apply omv; rfl; rfl
  apply ono; rfl; rfl; rfl; apply Pev.move; rfl; exact yes
  apply ono; rfl; rfl; rfl; apply Pev.nil_ptr; rfl; exact fun h => h
  apply ono; rfl; rfl; rfl; apply Pev.fld; rfl; exact fun h => h; rfl
  apply ono; rfl; rfl; rfl; apply Pev.load_kept; rfl; exact fun h => h; exact .head _; rfl; intro hcond; assumption; intro hcond; assumption; intro hcond; exact NotOwned.au
  apply ono; rfl; rfl; rfl; apply Pev.bin; rfl; exact fun h => h; rfl; exact yes; intro hcond; apply Bin.eql
  apply ono; rfl; rfl; rfl; apply Pev.move; rfl; exact fun h => h
  apply OL.op; exact Guard.cyes rfl rfl; rfl; rfl; apply Pev.move; rfl; exact yes
  apply OL.op; exact Guard.cyes rfl rfl; rfl; rfl; apply Pev.bin; rfl; exact fun h => h; rfl; exact yes; intro hcond; apply Bin.gtr
  apply ono; rfl; rfl; rfl; apply Pev.pick_and; rfl; exact fun h => h; rfl; exact fun h => h
  apply oop; rfl; apply Pev.pick_or; rfl; exact yes; rfl; exact fun h => h
  apply oas; rfl; rfl
  apply OL.nx
  apply W.ret
  ((with_reducible apply At.fin1); rfl; rfl; intro w' hw')
  refine ⟨?_, by (exact hw'.fr)⟩
  unfold rp
  by_cases h2 : op = 2
  · simp [h2]
  · by_cases h3 : op = 13
    · by_cases h4 : 0 < k
      · simp [h3, h4]
      · simp [h3, h4]
    · simp [h2, h3]
theorem walk_calls (s0 : World) (L bc bu bd bm : Nat) (hbc : bc < L) (hbu : bu < L) (hbd : bd < L) (hbm : bm < L) :
    ∀ (N : Nat) (t : Tr) (b : Nat) (deep K : Int) (s : US) (H : List Eng.Item) (S : List World) (w : World), tsz t ≤ N → TrO s0 (fun k => L ≤ k ∧ k < s0.heap.size) t b → Rg K s → 0 ≤ K → K + tsz t ≤ 1000000000 → 0 ≤ deep → deep + high t ≤ 1000000000 → (∀ k, L ≤ k ∧ k < s0.heap.size → NotOwned H k) →
      Cls (blk bc 112 [.map (some bu), .map (some bd), .map (some bm)] :: mapI bm (intM s.m) :: mapI bd (intM s.d) :: mapI bu (intM s.u) :: H) (s0 :: S) w →
      Calls Tryd.prog 59 [.pointer (some ⟨bc, 0, none⟩), .pointer (some ⟨b, 0, none⟩), .int .i64 deep].toArray w fun e w' => e = .returned (.tuple #[]) ∧ Cls (blk bc 112 [.map (some bu), .map (some bd), .map (some bm)] :: mapI bm (intM (wk t deep s).m) :: mapI bd (intM (wk t deep s).d) :: mapI bu (intM (wk t deep s).u) :: H) (s0 :: S) w' := by
  intro N
  induction N with
  | zero =>
    intro t b deep K s H S w hm
    obtain ⟨op, n, binds, kids, alts⟩ := t
    simp only [tsz] at hm
    omega
  | succ N ih =>
  intro t b deep K s H S w hm ht hR hK0 hK hd0 hd hno hc
  obtain ⟨op, n, binds, kids, alts⟩ := t
  simp only [TrO] at ht
  obtain ⟨y, hnode, hkl, hks⟩ := ht
  have hbs : L ≤ b ∧ b < s0.heap.size := hnode.own
  have hcells := hnode.cells
  have hcellI : ∀ {j : Nat} {v : Value}, ([.int .i64 op, .int .i64 n, .slice y.b.1 binds.length y.b.2, .slice y.k.1 kids.length y.k.2, .slice y.a.1 alts.length y.a.2] : List Value)[j]? = some v → s0.cell? ⟨b, 0 + j, none⟩ = some v := fun {j v} hj => by
    have := hcells j v hj
    rwa [add_mid] at this
  have h0 := hcellI (j := 0) rfl
  have h1 := hcellI (j := 1) rfl
  have h3 := hcellI (j := 3) rfl
  simp only [tsz] at hm hK
  simp only [high] at hd
  rw [wk]
  refine enter Tryd.func59 rfl Tryd.ntmps59 rfl hc ?_
  (simp only [argEnv, Nat.zero_add, Nat.reduceAdd])
  apply W.seq
  apply W.sr
  apply omv; rfl; rfl
  apply oop; rfl; apply Pev.nil_ptr; rfl; exact yes
  apply ofa; rfl; rfl; rfl
  apply oop; rfl; apply Pev.load_kept; rfl; exact yes; exact .head _; rfl; intro hcond; assumption; intro hcond; (simp only [add_block]; omega); intro hcond; exact NotOwned.au
  apply obn; rfl; rfl; rfl; apply Bin.eql
  apply OL.nx
  refine W.joinx (G := UG) (fun g => g.s = (if op = 0 then s.occ n deep else s)) (fun _ => [(0, true, .pointer (some ⟨bc, 0, none⟩)), (1, true, .pointer (some ⟨b, 0, none⟩)), (2, true, .int .i64 deep)]) (fun g => Cls (blk bc 112 [.map (some bu), .map (some bd), .map (some bm)] :: mapI bm (intM g.s.m) :: mapI bd (intM g.s.d) :: mapI bu (intM g.s.u) :: H) (s0 :: S)) ?_ ?_
  · (refine W.cnd (fun hop => ?_) (fun hop => ?_)) <;> (try (exfalso; first | omega | exact hop trivial | contradiction))
    · obtain ⟨r1, r2, r3, r4⟩ := hR n
      apply W.seq
      apply W.regq; apply Split.s rfl; apply Split.s rfl; apply Split.s rfl; apply Split.s rfl; apply Split.s rfl; apply Split.s rfl; apply Split.s rfl; apply Split.s rfl; apply Split.s rfl; apply Split.s rfl; exact Split.z rfl; kernel_rfl; decide +kernel; exact fun w hw => hw.drew
      apply qmv; rfl; rfl
      apply qop; rfl; apply Pev.nil_ptr; rfl; exact yes
      apply qfa; rfl; rfl; rfl
      apply qld; rfl; rfl; exact .head _; rfl; rfl
      apply qmv; rfl; rfl
      apply qop; rfl; apply Pev.nil_ptr; rfl; exact yes
      apply qfa; rfl; rfl; rfl
      apply qop; rfl; apply Pev.load_kept; rfl; exact yes; exact .head _; rfl; intro hcond; assumption; intro hcond; (simp only [add_block]; omega); intro hcond; exact NotOwned.au
      apply qop; rfl; apply Pev.clookup; rfl; exact yes; rfl; exact yes; rfl; rfl; apply List.Mem.tail; exact .tail _ (.tail _ (.head _))
      apply qbn; rfl; rfl; rfl; apply Bin.add_in; omega
      with_reducible apply QL.tail
      apply OL.iput; rfl; rfl; rfl; rfl; exact Hole.au
      apply OL.nx
      apply W.seq
      apply W.regd0; decide +kernel; kernel_rfl; decide +kernel; exact fun w hw => hw.drew
      apply qmv; rfl; rfl
      apply qop; rfl; apply Pev.nil_ptr; rfl; exact yes
      apply qfa; rfl; rfl; rfl
      apply qld; rfl; rfl; exact .head _; rfl; rfl
      apply qmv; rfl; rfl
      apply qop; rfl; apply Pev.nil_ptr; rfl; exact yes
      apply qfa; rfl; rfl; rfl
      apply qop; rfl; apply Pev.load_kept; rfl; exact yes; exact .head _; rfl; intro hcond; assumption; intro hcond; (simp only [add_block]; omega); intro hcond; exact NotOwned.au
      apply qop; rfl; apply Pev.clookup; rfl; exact yes; rfl; exact yes; rfl; rfl; exact .tail _ (.tail _ (.head _))
      apply qmv; rfl; rfl
      apply qbn; rfl; rfl; rfl; apply Bin.lss
      apply QL.nil
      with_reducible apply At.next
      rw [iput_intM]
      skip
      (refine W.cnd (fun hdp => ?_) (fun hdp => ?_)) <;> (try (exfalso; first | omega | exact hdp trivial | contradiction))
      · apply W.regq; apply Split.s rfl; apply Split.s rfl; apply Split.s rfl; apply Split.s rfl; apply Split.s rfl; apply Split.s rfl; apply Split.s rfl; apply Split.s rfl; apply Split.s rfl; apply Split.s rfl; exact Split.z rfl; kernel_rfl; decide +kernel; exact fun w hw => hw.drew
        apply qmv; rfl; rfl
        apply qop; rfl; apply Pev.nil_ptr; rfl; exact yes
        apply qfa; rfl; rfl; rfl
        apply qld; rfl; rfl; exact .head _; rfl; rfl
        apply qmv; rfl; rfl
        apply qop; rfl; apply Pev.nil_ptr; rfl; exact yes
        apply qfa; rfl; rfl; rfl
        apply qop; rfl; apply Pev.load_kept; rfl; exact yes; exact .head _; rfl; intro hcond; assumption; intro hcond; (simp only [add_block]; omega); intro hcond; exact NotOwned.au
        apply qop; rfl; apply Pev.clookup; rfl; exact yes; rfl; exact yes; rfl; rfl; exact .tail _ (.head _)
        apply qbn; rfl; rfl; rfl; apply Bin.add_in; omega
        with_reducible apply QL.tail
        apply OL.iput; rfl; rfl; rfl; rfl; exact Hole.au
        apply OL.nil
        rw [iput_intM]
        skip
        exact At.joinedx ⟨s.occ n deep⟩ (by simp only; rw [if_pos hop]) (by exact Sub.au) (fun w' hw' => by simp only [US.occ, if_pos hdp]; exact hw')
      · apply W.skip
        exact At.joinedx ⟨s.occ n deep⟩ (by simp only; rw [if_pos hop]) (by exact Sub.au) (fun w' hw' => by simp only [US.occ, if_neg (show ¬ cf s.d n < deep by omega)]; exact hw')
    · apply W.skip
      exact At.joinedx ⟨s⟩ (by simp only; rw [if_neg hop]) (by exact Sub.au) (fun w' hw' => hw')
  rintro ⟨s1⟩ hs1
  simp only at hs1 ⊢
  have hR1 : Rg (K + 1) s1 := by
    rw [hs1]
    split
    · exact hR.occ n deep
    · exact hR.mono (by omega)
  rw [← hs1]
  apply W.sr
  apply omv; rfl; rfl
  apply oop; rfl; apply Pev.nil_ptr; rfl; exact yes
  apply ofa; rfl; rfl; rfl
  apply oop; rfl; apply Pev.load_kept; rfl; exact yes; exact .head _; rfl; intro hcond; assumption; intro hcond; (simp only [add_block]; omega); intro hcond; exact NotOwned.au
  apply oop; rfl; apply Pev.len_slice; rfl; exact yes; rfl
  apply omv; rfl; rfl
  apply OL.nx
  apply W.block
  refine W.loop (G := Nat) (fun i => i ≤ kids.length) (fun i => kids.length - i)
    (fun i => [(0, true, .pointer (some ⟨bc, 0, none⟩)), (1, true, .pointer (some ⟨b, 0, none⟩)), (2, true, .int .i64 deep), (50, true, .slice y.k.1 kids.length y.k.2), (51, true, .int .i64 (kids.length : Int)), (52, true, .int .i64 (i : Int))])
    (fun i => Cls (blk bc 112 [.map (some bu), .map (some bd), .map (some bm)] :: mapI bm (intM (wks op binds alts (kids.take i) 0 deep s1).m) :: mapI bd (intM (wks op binds alts (kids.take i) 0 deep s1).d) :: mapI bu (intM (wks op binds alts (kids.take i) 0 deep s1).u) :: H) (s0 :: S)) 0 (by omega) (by exact Sub.au) (fun w' hw' => by simpa [wks] using hw') ?_
  intro i hi
  apply W.sr
  apply obn; rfl; rfl; rfl; apply Bin.lss
  apply OL.nx
  apply W.seq
  (refine W.cnd (fun hlt => ?_) (fun hlt => ?_)) <;> (try (exfalso; first | omega | exact hlt trivial | contradiction))
  · have hil : i < kids.length := by omega
    obtain ⟨a, hqa, hab, htrs⟩ := hks (by omega)
    have hab : L ≤ a.block ∧ a.block < s0.heap.size := hab
    have hki : kids[i]? = some kids[i] := List.getElem?_eq_getElem hil
    obtain ⟨b', hcb, hkid⟩ := htrs.get hki
    have hsz := tsz_get hki
    have hhi := high_get hki
    have htk : tszs (kids.take i) + tsz kids[i] ≤ tszs kids := by
      have : ∀ (l m : List Tr), tszs (l ++ m) = tszs l + tszs m := by
        intro l m
        induction l with
        | nil => simp [tszs]
        | cons t r ih => rw [List.cons_append, tszs, tszs, ih]; omega
      have h5 : tszs kids = tszs (kids.take i ++ kids.drop i) := by rw [List.take_append_drop]
      rw [h5, this, List.drop_eq_getElem_cons hil, tszs]
      omega
    have hR2 : Rg (K + 1 + tszs (kids.take i)) (wks op binds alts (kids.take i) 0 deep s1) := Rg.wks _ hR1
    have hst := wks_take (op := op) (binds := binds) (alts := alts) hki deep s1
    generalize wks op binds alts (kids.take i) 0 deep s1 = s2 at *
    rw [hqa]
    apply W.sk
    apply W.sb
    apply W.sr
    apply omv; rfl; rfl
    apply oop; rfl; apply Pev.idx; rfl; exact yes; rfl; exact yes; rfl; rfl; intro hcond; omega
    apply oop; rfl; apply Pev.load_kept; rfl; exact yes; exact .head _; rfl; intro hcond; assumption; intro hcond; (simp only [add_block]; omega); intro hcond; exact NotOwned.au
    apply oas; rfl; rfl
    apply oas; rfl; rfl
    apply OL.nsr
    apply omv; rfl; rfl
    apply oas; rfl; rfl
    apply OL.nx
    apply W.seq
    apply W.sr
    apply omv; rfl; rfl
    apply omv; rfl; rfl
    (((first | (with_reducible apply OL.op) | (with_reducible apply QL.op)); (exact Guard.au); rfl; rfl); (exact Pev.call (v := .bool (decide (rp op i = 1))) rfl (by exact Args.au) (fun _ w2 hw2 => by
      have hsame : ∀ k, (L ≤ k ∧ k < s0.heap.size) → w2.heap[k]? = s0.heap[k]? := fun k hk => (hw2.kp s0 (.head _)).block k hk.2 (NotOwned.not (by exact NotOwned.au))
      exact (repeats_calls b op n binds kids.length alts y i w2 (fun k => L ≤ k ∧ k < s0.heap.size) (fun k hk => Nat.lt_of_lt_of_le hk.2 (hw2.kp s0 (.head _)).size) (hnode.stab hsame)).mono (fun e w3 h => ⟨h.1, hw2.ext h.2⟩))))
    apply OL.nx
    refine W.joinx (G := Int) (fun d => d = deep + rp op i) (fun d => [(0, true, .pointer (some ⟨bc, 0, none⟩)), (1, true, .pointer (some ⟨b, 0, none⟩)), (2, true, .int .i64 deep), (6, true, .int .i64 (i : Int)), (7, true, .pointer (some ⟨b', 0, none⟩)), (8, true, .int .i64 d), (50, true, .slice (some a) kids.length y.k.2), (51, true, .int .i64 (kids.length : Int)), (52, true, .int .i64 (i : Int))]) (fun _ => Cls (blk bc 112 [.map (some bu), .map (some bd), .map (some bm)] :: mapI bm (intM s2.m) :: mapI bd (intM s2.d) :: mapI bu (intM s2.u) :: H) (s0 :: S)) ?_ ?_
    · (refine W.cnd (fun hr1 => ?_) (fun hr1 => ?_)) <;> (try (exfalso; first | omega | exact hr1 trivial | contradiction))
      · apply W.reg
        apply omv; rfl; rfl
        apply obn; rfl; rfl; rfl; apply Bin.add_in; omega
        apply oas; rfl; rfl
        apply OL.nil
        exact At.joinedx (deep + 1) (by rw [hr1]) (by exact Sub.au) (fun w' hw' => hw')
      · apply W.skip
        exact At.joinedx deep (by have := rp_range op i; omega) (by exact Sub.au) (fun w' hw' => hw')
    intro d hdd
    have hrr := rp_range op i
    apply W.seq
    apply W.sr
    apply omv; rfl; rfl
    apply omv; rfl; rfl
    refine OL.callE (α := Option Addr × Nat) (fun z => .slice z.1 (bound op binds alts i).length z.2) (fun z => IntsO s0 (fun k => L ≤ k ∧ k < s0.heap.size) (bound op binds alts i) z.1 ∧ (bound op binds alts i).length ≤ 16) (fun z => Cls (blk bc 112 [.map (some bu), .map (some bd), .map (some bm)] :: mapI bm (intM s2.m) :: mapI bd (intM s2.d) :: mapI bu (intM s2.u) :: H) (s0 :: S)) rfl rfl (by exact Args.au) (fun w2 hw2 => ?_) ?_
    · have hsame : ∀ k, (L ≤ k ∧ k < s0.heap.size) → w2.heap[k]? = s0.heap[k]? := fun k hk => (hw2.kp s0 (.head _)).block k hk.2 (NotOwned.not (by exact NotOwned.au))
      refine (Bound_calls b op n binds kids.length alts y i w2 (fun k => L ≤ k ∧ k < s0.heap.size) (fun k hk => Nat.lt_of_lt_of_le hk.2 (hw2.kp s0 (.head _)).size) (hnode.stab hsame) (by omega)).mono fun e w3 ⟨q, c, h4, h5, h6, h7⟩ => ⟨(q, c), h4, ⟨h6.stab (fun k hk => (hsame k hk).symm), h7⟩, hw2.ext h5⟩
    rintro ⟨qb, cb⟩ ⟨hIb, hb16⟩
    simp only at hIb hb16 ⊢
    generalize hbl : bound op binds alts i = bl at *
    apply oop; rfl; apply Pev.len_slice; rfl; exact yes; rfl
    apply omv; rfl; rfl
    apply OL.nx
    apply W.block
    refine W.loop (G := Nat) (fun j => j ≤ bl.length) (fun j => bl.length - j)
      (fun j => [(0, true, .pointer (some ⟨bc, 0, none⟩)), (1, true, .pointer (some ⟨b, 0, none⟩)), (2, true, .int .i64 deep), (7, true, .pointer (some ⟨b', 0, none⟩)), (8, true, .int .i64 d), (50, true, .slice (some a) kids.length y.k.2), (51, true, .int .i64 (kids.length : Int)), (52, true, .int .i64 (i : Int)), (65, true, .slice qb bl.length cb), (66, true, .int .i64 (bl.length : Int)), (67, true, .int .i64 (j : Int))])
      (fun j => Cls (blk bc 112 [.map (some bu), .map (some bd), .map (some bm)] :: mapI bm (intM s2.m) :: mapI bd (intM (putAll s2.d (bl.take j) d)) :: mapI bu (intM s2.u) :: H) (s0 :: S)) 0 (by omega) (by exact Sub.au) (fun w' hw' => by simpa [putAll] using hw') ?_
    intro j hj
    apply W.sr
    apply obn; rfl; rfl; rfl; apply Bin.lss
    apply OL.nx
    apply W.seq
    (refine W.cnd (fun hlt2 => ?_) (fun hlt2 => ?_)) <;> (try (exfalso; first | omega | exact hlt2 trivial | contradiction))
    · have hjl : j < bl.length := by omega
      obtain ⟨av, v, hqv, habv, hv, hcv⟩ := hIb.get hjl
      have habv : L ≤ av.block ∧ av.block < s0.heap.size := habv
      have hpa : putAll s2.d (bl.take (j + 1)) d = lput (putAll s2.d (bl.take j) d) v d := by
        rw [List.take_add_one, hv, Option.toList_some, putAll_snoc]
      rw [hqv]
      apply W.sk
      apply W.sb
      apply W.sr
      apply oop; rfl; apply Pev.idx; rfl; exact yes; rfl; exact yes; rfl; rfl; intro hcond; omega
      apply oop; rfl; apply Pev.load_kept; rfl; exact yes; exact .head _; rfl; intro hcond; assumption; intro hcond; (simp only [add_block]; omega); intro hcond; exact NotOwned.au
      apply oas; rfl; rfl
      apply OL.nx
      apply W.reg
      apply omv; rfl; rfl
      apply oop; rfl; apply Pev.nil_ptr; rfl; exact yes
      apply ofa; rfl; rfl; rfl
      apply old; rfl; rfl; exact .head _; rfl; rfl
      apply omv; rfl; rfl
      apply omv; rfl; rfl
      apply OL.iput; rfl; rfl; rfl; rfl; exact Hole.au
      apply OL.nil
      with_reducible apply At.in_normal
      with_reducible apply At.next
      apply W.reg
      apply obn; rfl; rfl; rfl; apply Bin.add_in; omega
      apply omv; rfl; rfl
      apply OL.nil
      rw [iput_intM, ← hpa]
      skip
      exact At.again (j + 1) (by omega) (by omega) (by exact Sub.au) (fun w' hw' => hw')
    · obtain rfl : j = bl.length := by omega
      rw [List.take_length]
      rw [← hdd] at hst
      have hR3 : Rg (K + 1 + tszs (kids.take i)) ⟨s2.u, putAll s2.d bl d, s2.m⟩ := hR2
      refine W.xt ?_
      with_reducible apply At.next
      apply W.reg
      apply omv; rfl; rfl
      apply omv; rfl; rfl
      apply omv; rfl; rfl
      refine OL.callE (α := Unit) (fun _ => .tuple #[]) (fun _ => True) (fun _ => Cls (blk bc 112 [.map (some bu), .map (some bd), .map (some bm)] :: mapI bm (intM (wks op binds alts (kids.take (i + 1)) 0 deep s1).m) :: mapI bd (intM (wks op binds alts (kids.take (i + 1)) 0 deep s1).d) :: mapI bu (intM (wks op binds alts (kids.take (i + 1)) 0 deep s1).u) :: H) (s0 :: S)) rfl rfl (by exact Args.au) (fun w2 hw2 => ?_) ?_
      · rw [hst]
        exact (ih kids[i] b' d (K + 1 + tszs (kids.take i)) ⟨s2.u, putAll s2.d bl d, s2.m⟩ H S w2 (by omega) hkid hR3 (by omega) (by omega) (by omega) (by omega) hno hw2).mono fun e w3 ⟨h4, h5⟩ => ⟨(), h4, trivial, h5⟩
      rintro _ _
      apply OL.nil
      with_reducible apply At.in_normal
      with_reducible apply At.next
      apply W.reg
      apply obn; rfl; rfl; rfl; apply Bin.add_in; omega
      apply omv; rfl; rfl
      apply OL.nil
      exact At.again (i + 1) (by omega) (by omega) (by exact Sub.au) (fun w' hw' => hw')
  · obtain rfl : i = kids.length := by omega
    rw [List.take_length]
    refine W.xt ?_
    apply At.end_
    apply At.fin0
    rfl
    intro w' hw'
    exact ⟨rfl, hw'⟩
end Go.Proofs.YtlboppiogeaicaaDoor.co

/- A grown row of elements of several cells that a sort of the library writes over in place. General. No condition. -/
namespace Go.Eng
open Go.RowKit Go.Sort
set_option linter.unusedVariables false
set_option linter.unusedSimpArgs false
theorem Cls.rowPutV {p : Nat} {H : List Eng.Item} {S : List World} {w w' : World} {base m cap g n sz : Nat} {O : Nat → Prop} {e : TypeId} {xs : List Value} {F : Eng.Item → List Eng.Item}
    (hh : Hole p H (row base O (some ⟨g, 0, none⟩) m cap e sz xs) F) (h : Cls H S w) (d : Array Value) (hd : d.size = m * sz) {os : Array Obj} (hw : w' = grow (putRow id (Sort.ahead w n) g 0 d) os) : Cls (F (row base O (some ⟨g, 0, none⟩) m cap e sz d.toList)) S w' := by
  subst hw
  obtain ⟨h1, h2⟩ := hh.eq
  rw [h2]
  have hi := h.holds _ (List.mem_of_getElem? h1)
  have hO : O g := hi.1 _ rfl
  rcases hi.2.2 with ⟨h3, _⟩ | ⟨g', cap', cur, h3, hb, hg, h4, h5, h6, h7⟩
  · cases h3
  simp only [Value.slice.injEq, Option.some.injEq, Addr.mk.injEq] at h3
  obtain ⟨⟨rfl, _⟩, _, rfl⟩ := h3
  refine h.turn p h1 ⟨rfl, rfl, rfl, putRow_size _ _ _ _ _ _, fun k hk hno => putRow_other _ _ _ _ _ _ hk fun e => hno (by subst e; exact ⟨hb, hO⟩)⟩ ?_ (fun k hk => ⟨.inl hk, Nat.lt_of_lt_of_le (h.lt _ (List.mem_of_getElem? h1) k hk) (putRow_size _ _ _ _ _ _)⟩) (fun k hk => hk)
  refine ⟨fun a ha => by cases ha; exact hO, by simp [hd], .inr ⟨g, cap, _, rfl, hb, putRow_heap id w n g d os hg, h4, h5, ?_, ?_⟩⟩
  · simp only [putCells, Array.size_mapIdx]; exact h6
  · rw [← hd]
    have := putCells_take id d cur (by rw [hd, h6]; exact Nat.mul_le_mul_right _ h4)
    rw [this]; simp
theorem row_holdsV {w : World} {base m cap g sz : Nat} {O : Nat → Prop} {e : TypeId} {d : Array Value} (h : (row base O (some ⟨g, 0, none⟩) m cap e sz d.toList).holds w) : Holds id w g 0 d ∧ g < w.heap.size := by
  rcases h.2.2 with ⟨h3, _⟩ | ⟨g', cap', cur, h3, hb, hg, h4, h5, h6, h7⟩
  · cases h3
  simp only [Value.slice.injEq, Option.some.injEq, Addr.mk.injEq] at h3
  obtain ⟨⟨rfl, _⟩, _, rfl⟩ := h3
  refine ⟨fun j hj => ⟨?_, ?_⟩, (Array.getElem?_eq_some_iff.1 hg).1⟩
  · rw [Nat.zero_add]
    refine row_cell h ?_
    rw [Array.getElem?_toList, Array.getElem?_eq_getElem hj, getElem!_pos d j hj]; rfl
  · simp [World.frozen?, hg]
theorem flatK_cat {α : Type} [Inhabited α] {enc : α → List Value} {k : Nat} (hk : ∀ x, (enc x).length = k) (hk0 : 0 < k) (d : Array α) : (flatK enc k d).toList = cat enc d.toList := by
  apply List.ext_getElem?
  intro t
  have hl : (cat enc d.toList).length = d.size * k := by rw [cat_length hk]; simp
  by_cases ht : t < d.size * k
  · have hi : t / k < d.size := Nat.div_lt_of_lt_mul (by rwa [Nat.mul_comm] at ht)
    have hm : t % k < k := Nat.mod_lt _ hk0
    have h1 : d.toList[t / k]? = some d[t / k]! := by rw [Array.getElem?_toList, Array.getElem?_eq_getElem hi, getElem!_pos d _ hi]
    have hgx : ∀ (L : List Value) (i : Nat), i < L.length → L[i]? = some L[i]! := fun L i h => by rw [getElem!_pos L i h, List.getElem?_eq_getElem h]
    have h2 : (enc d[t / k]!)[t % k]? = some (enc d[t / k]!)[t % k]! := hgx _ _ (by rw [hk]; exact hm)
    have h3 := cat_get hk h1 (t % k) _ h2
    rw [Nat.mul_comm (t / k) k, Nat.div_add_mod] at h3
    rw [h3, Array.getElem?_toList, Array.getElem?_eq_getElem (by rw [size_flatK]; exact ht)]
    have h4 := get_flatK enc k d t ht
    rw [getElem!_pos (flatK enc k d) t (by rw [size_flatK]; exact ht)] at h4
    rw [h4]
  · rw [List.getElem?_eq_none (by rw [Array.length_toList, size_flatK]; omega), List.getElem?_eq_none (by rw [hl]; omega)]
end Go.Eng

/-
  DERIVED: THE SHELF's CONTRACTS AT THIS DUMP, IN PLAIN WORDS (tools/lay-plain.mjs out of 'YtlboppiogeaicaaDoorShelfD.lean', which tools/lay-shelf.mjs wrote): THE SAME DECLARATIONS UNDER THE SAME NAMES: 'import', 'namespace', 'open', 'def', 'theorem' AND NOTHING ELSE: no command of the shelf's: FOR A HAND-IN. Each laying: the table of numbers ('.._ren') and one theorem, a field a fact of the dump's own or the kernel's comparison; each contract: ONE APPLICATION.
-/
namespace Go.Proofs
open Go.Shelf
def Tryd.sortU_ren : Go.Shelf.Ren := ⟨fun | 6 => 61 | 15 => 99 | 14 => 98 | 28 => 122 | 29 => 123 | 20 => 114 | 21 => 115 | 22 => 116 | 23 => 117 | 24 => 118 | 25 => 119 | 26 => 120 | 27 => 121 | 46 => 136 | 47 => 137 | 48 => 138 | 49 => 139 | 50 => 140 | 57 => 146 | n => n, fun | 22 => 59 | 24 => 64 | 25 => 117 | 3 => 3 | 39 => 146 | 0 => 0 | 53 => 165 | 55 => 139 | 4 => 4 | 46 => 159 | 45 => 158 | 50 => 150 | 5 => 5 | 9 => 9 | 66 => 173 | 70 => 177 | 76 => 183 | 77 => 184 | n => n, fun | n => n⟩
theorem Tryd.sortU : Go.Proofs.SlLaysF0.n6 Tryd.prog Tryd.sortU_ren := {
  mixed := by kernel_rfl
  f6 := ⟨Tryd.f61.name, by decide, Tryd.func61.trans (congrArg some (by kernel_rfl))⟩
  f14 := ⟨Tryd.f98.name, by decide, Tryd.func98.trans (congrArg some (by kernel_rfl))⟩
  f15 := Tryd.func99.trans (congrArg some (by kernel_rfl))
  f20 := ⟨Tryd.f114.name, by decide, Tryd.func114.trans (congrArg some (by kernel_rfl))⟩
  f21 := ⟨Tryd.f115.name, by decide, Tryd.func115.trans (congrArg some (by kernel_rfl))⟩
  f22 := ⟨Tryd.f116.name, by decide, Tryd.func116.trans (congrArg some (by kernel_rfl))⟩
  f23 := ⟨Tryd.f117.name, by decide, Tryd.func117.trans (congrArg some (by kernel_rfl))⟩
  f24 := ⟨Tryd.f118.name, by decide, Tryd.func118.trans (congrArg some (by kernel_rfl))⟩
  f25 := ⟨Tryd.f119.name, by decide, Tryd.func119.trans (congrArg some (by kernel_rfl))⟩
  f26 := ⟨Tryd.f120.name, by decide, Tryd.func120.trans (congrArg some (by kernel_rfl))⟩
  f27 := ⟨Tryd.f121.name, by decide, Tryd.func121.trans (congrArg some (by kernel_rfl))⟩
  f28 := Tryd.func122.trans (congrArg some (by kernel_rfl))
  f29 := Tryd.func123.trans (congrArg some (by kernel_rfl))
  f46 := ⟨Tryd.f136.name, by decide, Tryd.func136.trans (congrArg some (by kernel_rfl))⟩
  f47 := Tryd.func137.trans (congrArg some (by kernel_rfl))
  f48 := Tryd.func138.trans (congrArg some (by kernel_rfl))
  f49 := ⟨Tryd.f139.name, by decide, Tryd.func139.trans (congrArg some (by kernel_rfl))⟩
  f50 := ⟨Tryd.f140.name, by decide, Tryd.func140.trans (congrArg some (by kernel_rfl))⟩
  f57 := ⟨Tryd.f146.name, by decide, Tryd.func146.trans (congrArg some (by kernel_rfl))⟩
  t0 := Tryd.underlying0
  a0 := Tryd.isAgg0
  z0 := Tryd.sizeOf0
  v0 := Tryd.zeroValue0
  t3 := Tryd.underlying3
  a3 := Tryd.isAgg3
  z3 := Tryd.sizeOf3
  v3 := Tryd.zeroValue3
  t4 := Tryd.underlying4
  a4 := Tryd.isAgg4
  z4 := Tryd.sizeOf4
  v4 := Tryd.zeroValue4
  t5 := Tryd.underlying5
  a5 := Tryd.isAgg5
  z5 := Tryd.sizeOf5
  v5 := Tryd.zeroValue5
  t9 := Tryd.underlying9
  a9 := Tryd.isAgg9
  z9 := Tryd.sizeOf9
  v9 := Tryd.zeroValue9
  t22 := Tryd.underlying59
  a22 := Tryd.isAgg59
  z22 := Tryd.sizeOf59
  v22 := Tryd.zeroValue59
  t25 := Tryd.underlying117
  a25 := Tryd.isAgg117
  z25 := Tryd.sizeOf117
  v25 := Tryd.zeroValue117
  t39 := Tryd.underlying146
  a39 := Tryd.isAgg146
  z39 := Tryd.sizeOf146
  v39 := Tryd.zeroValue146
  t45 := Tryd.underlying158
  a45 := Tryd.isAgg158
  z45 := Tryd.sizeOf158
  v45 := Tryd.zeroValue158
  t46 := Tryd.underlying159
  a46 := Tryd.isAgg159
  z46 := Tryd.sizeOf159
  v46 := Tryd.zeroValue159
  t50 := Tryd.underlying150
  a50 := Tryd.isAgg150
  z50 := Tryd.sizeOf150
  v50 := Tryd.zeroValue150
  t53 := Tryd.underlying165
  a53 := Tryd.isAgg165
  z53 := Tryd.sizeOf165
  v53 := Tryd.zeroValue165
  t55 := Tryd.underlying139
  a55 := Tryd.isAgg139
  z55 := Tryd.sizeOf139
  v55 := Tryd.zeroValue139
  t66 := Tryd.underlying173
  a66 := Tryd.isAgg173
  z66 := Tryd.sizeOf173
  v66 := Tryd.zeroValue173
  t70 := Tryd.underlying177
  a70 := Tryd.isAgg177
  z70 := Tryd.sizeOf177
  v70 := Tryd.zeroValue177
  t76 := Tryd.underlying183
  a76 := Tryd.isAgg183
  z76 := Tryd.sizeOf183
  v76 := Tryd.zeroValue183
  t77 := Tryd.underlying184
  a77 := Tryd.isAgg184
  z77 := Tryd.sizeOf184
  v77 := Tryd.zeroValue184 }
def Tryd.cmpInt_ren : Go.Shelf.Ren := ⟨fun | 5 => 63 | 7 => 100 | n => n, fun | 22 => 3 | 3 => 3 | 4 => 4 | n => n, fun | n => n⟩
theorem Tryd.cmpInt : Go.Proofs.SlLaysC2.n5 Tryd.prog Tryd.cmpInt_ren := {
  mixed := by kernel_rfl
  f5 := ⟨Tryd.f63.name, by decide, Tryd.func63.trans (congrArg some (by kernel_rfl))⟩
  f7 := ⟨Tryd.f100.name, by decide, Tryd.func100.trans (congrArg some (by kernel_rfl))⟩
  t3 := Tryd.underlying3
  a3 := Tryd.isAgg3
  z3 := Tryd.sizeOf3
  v3 := Tryd.zeroValue3
  t4 := Tryd.underlying4
  a4 := Tryd.isAgg4
  z4 := Tryd.sizeOf4
  v4 := Tryd.zeroValue4
  t22 := Tryd.underlying3
  a22 := Tryd.isAgg3
  z22 := Tryd.sizeOf3
  v22 := Tryd.zeroValue3 }
end Go.Proofs

/- The sort of a row of usages, by the library's contract. Conditions: none. -/
namespace Go.Proofs.YtlboppiogeaicaaDoor.co
open Go.RowKit Go.Eng Go.Co Go.Shelf Go.Sort Go.Lib
set_option linter.unusedVariables false
set_option linter.unusedSimpArgs false
set_option maxRecDepth 100000
abbrev uf (x y : Int × Int) : Int := Lib.compareInt x.1 y.1
theorem lt_uf (x y : Int × Int) : ltOf uf x y = decide (x.1 < y.1) := by
  unfold ltOf uf Lib.compareInt
  by_cases h1 : x.1 < y.1
  · simp [h1]
  · by_cases h2 : y.1 < x.1 <;> simp [h1, h2]
theorem swo_uf : SWO (ltOf uf) where
  irrefl x := by rw [lt_uf]; simp
  trans x y z h1 h2 := by rw [lt_uf] at *; simp at *; omega
  ntrans x y z h1 h2 := by rw [lt_uf] at *; simp at *; omega
set_option maxHeartbeats 1000000 in
theorem cmpU_calls (x y : Int × Int) (w : World) : Calls Tryd.prog 62 #[.agg #[.int .i64 x.1, .int .i64 x.2], .agg #[.int .i64 y.1, .int .i64 y.2]] w fun e w' => e = .returned (.int .i64 (Lib.compareInt x.1 y.1)) ∧ ∃ q os', w' = grow (w.drewN q) os' := by
  have hcon := fun W' => AnyG.cmp_Compare_int Tryd.cmpInt x.1 y.1 W'
  change ∀ W', Calls Tryd.prog 63 _ _ _ at hcon
  generalize Lib.compareInt x.1 y.1 = r at hcon ⊢
  go_enter Tryd.func62, Tryd.ntmps62
  go_wp2_with (go_at_call 63; refine (hcon _).mono ?_; rintro e w' ⟨rfl, rfl⟩)
  go_ret
  exact ⟨rfl, 0, _, by rw [alloc_eq_grow, alloc_eq_grow, grow_grow]; rfl⟩
theorem cmpU_lays (blk off size : Nat) (w : World) : CmpLays Tryd.prog 62 #[] uc 2 uf blk off size w :=
  fun _ _ _ _ x y => cmpU_calls x y _
theorem SortU_calls {p : Nat} {H : List Eng.Item} {S : List World} {w : World} {base cap : Nat} {O : Nat → Prop} {q : Option Addr} {xs : List (Int × Int)} {F : Eng.Item → List Eng.Item}
    (hh : Hole p H (Eng.row base O q xs.length cap 64 2 (cat uc xs)) F) (h : Cls H S w) (hlen : xs.length < 4611686018427387904) :
    Calls Tryd.prog 61 #[.slice q xs.length cap, .func (.func 62) #[] #[]] w fun e w' => e = .returned (.tuple #[]) ∧ ∃ ys : List (Int × Int), ys.Perm xs ∧ (ys.map Prod.fst).Pairwise (· ≤ ·) ∧ Cls (F (Eng.row base O q xs.length cap 64 2 (cat uc ys))) S w' := by
  by_cases h0 : xs.length = 0
  · obtain rfl : xs = [] := List.eq_nil_of_length_eq_zero h0
    refine (AnyF.slices_SortFunc_none Tryd.sortU q cap _ w).mono fun e w' he => ⟨he.1, [], List.Perm.refl _, List.Pairwise.nil, ?_⟩
    rw [he.2, hh.eq.2, set_same hh.eq.1]
    exact h
  · have hi := h.holds _ (List.mem_of_getElem? hh.eq.1)
    obtain ⟨g, rfl⟩ := row_some hi (by omega)
    have hf := flatK_cat (k := 2) uc_len (by omega) xs.toArray
    simp only at hf
    rw [← hf] at hi hh
    obtain ⟨h1, h2⟩ := row_holdsV hi
    have eg : ∀ args w, (callFunc 62 args).run Tryd.prog w = .ok (.enter 62 args) w := enters_of Tryd.func62 (by kernel_rfl) rfl
    have hc := AnyQ.slices_SortFunc Tryd.sortU 2 (fun w => by kernel_rfl) (fun w => by kernel_rfl) uc uc_len (fun x v hv => by simp [uc] at hv; rcases hv with rfl | rfl <;> rfl) uf swo_uf 62 #[] g 0 cap xs.toArray w eg (cmpU_lays g 0 xs.toArray.size w) h1 h2 (by simpa using hlen)
    refine hc.mono ?_
    rintro e w' ⟨he, d', n, os, hp, hs, hw⟩
    have hsz : d'.size = xs.length := by simpa using hp.1
    refine ⟨he, d'.toList, ?_, ?_, ?_⟩
    · have e1 : d'.extract 0 xs.toArray.size = d' := by rw [← hp.1]; exact Array.extract_size
      have e2 := hp.2.2
      rw [e1, Array.extract_size] at e2
      exact e2
    · rw [List.pairwise_map, List.pairwise_iff_getElem]
      intro i j hi hj hij
      have hi' : i < d'.size := by simpa using hi
      have hj' : j < d'.size := by simpa using hj
      have h3 := hs i j (Nat.zero_le _) hij (by rw [← hp.1]; exact hj')
      rw [getElem!_pos d' i hi', getElem!_pos d' j hj', lt_uf] at h3
      simp only [decide_eq_false_iff_not] at h3
      simp only [Array.getElem_toList]
      omega
    · rw [← flatK_cat (k := 2) uc_len (by omega) d']
      exact h.rowPutV hh (flatK uc 2 d') (by rw [size_flatK, hsz]) hw
end Go.Proofs.YtlboppiogeaicaaDoor.co

/- The walk of usage's Of. Conditions: none. -/
namespace Go.Eng
open Go.RowKit
theorem SlAt.atW {H : List Item} {S : List World} {w w' : World} {q : Option Addr} {vs : List Value} (h : SlAt w w.heap.size q vs) (hw : Cls H S w') (hs : w ∈ S) (hno : ∀ k, k < w.heap.size → NotOwned H k) : SlAt w' w'.heap.size q vs := fun hv => by
  obtain ⟨a, h1, h2, h3⟩ := h hv
  exact ⟨a, h1, hw.up hs _ h2, cells_stab (hw.same hs hno _ h2) h3⟩
/-- ways that meet at the end of a block -/
theorem W.joinxb {P : Program} {n : Nat} {l : Env} {C : World → Prop} {Q : Exit → Act → World → Prop} {G : Type} {id : Nat} {code r : Code} (Φ : G → Prop) (lg : G → Env) (Cg : G → World → Prop) (h1 : W P n code (Exit.inBlock id (Exit.then (fun a w => ∃ g, Φ g ∧ Sees n (lg g) a ∧ Cg g w) Q)) l C) (h2 : ∀ g, Φ g → W P n r Q (lg g) (Cg g)) : W P n code (Exit.inBlock id (Exit.then (r.wp P Q) Q)) l C :=
  ⟨fun a w hs hc => wp_mono (h1.run a w hs hc) fun e a' w' hq => by
    have key : ∀ e', Exit.then (fun a w => ∃ g, Φ g ∧ Sees n (lg g) a ∧ Cg g w) Q e' a' w' → Exit.then (r.wp P Q) Q e' a' w' := fun e' hq => by
      cases e' with
      | normal =>
        obtain ⟨g, hg, hs', hc'⟩ := hq
        exact (h2 g hg).run a' w' hs' hc'
      | _ => exact hq
    cases e with
    | exit k =>
      change (if k = id then _ else _) at hq
      show (if k = id then _ else _)
      split
      · rename_i h
        rw [if_pos h] at hq
        exact key _ hq
      · rename_i h
        rw [if_neg h] at hq
        exact key _ hq
    | normal => exact key .normal hq
    | goto k => exact key (.goto k) hq
    | ret => exact key .ret hq
    | panic c => exact key (.panic c) hq
    | outgrown => exact key .outgrown hq⟩
theorem Cls.pileU {H : List Item} {S : List World} {w w' : World} {q : Option Addr} {c : Nat} {l : List Int} (h : Cls H S w) (he : Ext w w') (hI : Co.IntsO w' (fresh w w') l q) : Cls (pile w.heap.size (fun k => k < w'.heap.size) [⟨q, c, Co.ints l⟩] :: H) S w' :=
  h.add he _ (fun s hs hl => by
    obtain rfl := List.mem_singleton.1 hs
    simp only [Co.ints_length] at hl
    obtain ⟨a, h1, h2, h3⟩ := hI hl
    exact ⟨a, h1, h2, h3⟩) (fun k hk => hk)
end Go.Eng
namespace Go.Co
open Go.Eng Go.RowKit
/-- what the program tells of an identifier -/
def hwP (s : US) (n : Int) : Int × Int := (n, howN (cf s.u n) (cf s.m n))
/-- the identifiers so far -/
def bnds (e : List Ex) (i : Nat) : List Int := (e.take i).flatMap bindersX
theorem bnds_succ {e : List Ex} {i : Nat} {x : Ex} (h : e[i]? = some x) : bnds e (i + 1) = bnds e i ++ bindersX x := by
  unfold bnds
  rw [List.take_add_one, h]
  simp
theorem bnds_all (e : List Ex) : bnds e e.length = e.flatMap bindersX := by unfold bnds; rw [List.take_length]
theorem bnds_le {e : List Ex} (hl : ∀ x ∈ e, (bindersX x).length ≤ 100000) : ∀ (i : Nat), i ≤ e.length → (bnds e i).length ≤ i * 100000
  | 0, _ => by simp [bnds]
  | i + 1, h => by
    have hx : e[i]? = some e[i] := List.getElem?_eq_getElem (by omega)
    rw [bnds_succ hx, List.length_append]
    have h1 := bnds_le hl i (by omega)
    have h2 := hl _ (List.mem_of_getElem? hx)
    omega
theorem binders_len {x : Ex} (h : Lim x) : (bindersX x).length ≤ 100000 := by
  unfold bindersX
  have h5 := flat_len h.ab
  have h6 := h.a
  have h7 := h.b
  have h8 : (if x.op = 2 ∨ x.op = 4 ∨ x.op = 5 then x.binds else []).length ≤ x.binds.length := by split <;> simp
  rw [List.length_append]
  omega
theorem high_lenU {e : List Ex} (hd : Down e) {m : Nat} (hm : m < e.length) (hl : e.length ≤ 4096) : high (grow e m) ≤ 4096 := by
  have := high_le (e := e) (n := e.length) (fun j x _ hx => hd j x hx) m hm hm
  omega
structure UO where
  O : Nat → Prop
  q : Option Addr
  c : Nat
theorem howN_cases (u m : Int) : howN u m = 0 ∧ u = 0 ∨ howN u m = 1 ∧ u ≠ 0 ∧ u = 1 ∧ m = 0 ∨ howN u m = 2 ∧ u ≠ 0 ∧ ¬ (u = 1 ∧ m = 0) := by
  unfold howN
  by_cases h1 : u = 0
  · simp [h1]
  · by_cases h2 : u = 1 ∧ m = 0
    · simp [h1, h2]
    · simp [h1, h2]
end Go.Co
namespace Go.Proofs.YtlboppiogeaicaaDoor.co
open Go.RowKit Go.Eng Go.Co
set_option linter.unusedVariables false
set_option linter.unusedSimpArgs false
set_option maxRecDepth 100000
theorem UsgOf_calls (es : List (Ex × ExY)) (q : Option Addr) (cap : Nat) (w : World) (he : Arr exR w (low w) es q) (hlen : es.length ≤ 9223372036854775807) (hg : 1 < w.heap.size) (hs : arityAt w) :
    Calls Tryd.prog 34 [.slice q es.length cap].toArray w fun e w' => ∃ (l : List (Int × Int)) (ql : Option Addr) (cl : Nat), e = .returned (.tuple #[.slice ql l.length cl, .int .i64 (bodyE (es.map Prod.fst) [] false)]) ∧ Ext w w' ∧ (bodyE (es.map Prod.fst) [] false ≠ 0 → l = []) ∧ (bodyE (es.map Prod.fst) [] false = 0 → ∀ P, Parents (es.map Prod.fst) P → l = (sortI ((es.map Prod.fst).flatMap bindersX)).map fun n => (n, usageOf (es.map Prod.fst) P n)) ∧ l.length ≤ 1000000000 ∧ SlAt w' w'.heap.size ql (cat uc l) := by
  obtain ⟨e, hee⟩ : ∃ e, es.map Prod.fst = e := ⟨_, rfl⟩
  have hel : e.length = es.length := by rw [← hee, List.length_map]
  rw [hee]
  refine enter Tryd.func34 rfl Tryd.ntmps34 rfl (Cls.start w) ?_
  (simp only [argEnv, Nat.zero_add, Nat.reduceAdd])
  apply W.sr
  apply oas; rfl; rfl
  apply oas; rfl; rfl
  apply OL.nx
  apply W.seq
  apply W.sr
  apply omv; rfl; rfl
  (((first | (with_reducible apply OL.op) | (with_reducible apply QL.op)); (exact Guard.au); rfl; rfl); (exact Pev.call (v := .int .i64 (bodyE e [] false)) rfl (by exact Args.au) (fun _ w2 hw2 => (Check_calls es q cap w2 (he.at hw2 (by exact mau) (fun k hk => by exact NotOwned.au)) hlen (Nat.lt_of_lt_of_le hg (hw2.kp w (by exact mau)).size) (hs.at hg hw2 (by exact mau) (fun k hk => by exact NotOwned.au))).mono (fun e1 w3 h => ⟨by rw [h.1, hee], hw2.ext h.2⟩))))
  apply oas; rfl; rfl
  apply OL.nsr
  apply omv; rfl; rfl
  apply obn; rfl; rfl; rfl; apply Bin.neq
  apply OL.nx
  (refine W.cnd (fun hf => ?_) (fun hf => ?_)) <;> (try (exfalso; first | omega | exact hf trivial | contradiction))
  · apply W.sr
    apply omv; rfl; rfl
    apply oas; rfl; rfl
    apply oas; rfl; rfl
    apply OL.nx
    refine W.rt ?_
    ((with_reducible apply At.fin2); rfl; rfl; rfl; intro w' hw')
    exact ⟨[], none, 0, rfl, by (exact hw'.fr), fun _ => rfl, fun h => absurd h (by simpa using hf), by simp, SlAt.nil⟩
  have hf0 : bodyE e [] false = 0 := by simpa using hf
  have hok := BodyOk.of hf0
  have hl4 := hok.tree.len
  have hpos := hok.tree.pos
  have hin : ∀ p ∈ es, p.1 ∈ e := fun p hp => by rw [← hee]; exact List.mem_map_of_mem hp
  have hlim : ∀ p ∈ es, Lim p.1 := fun p hp => hok.lim (hin p hp)
  have hhi := high_lenU hok.tree.tree.down (m := e.length - 1) (by omega) hl4
  rw [hf0]
  apply W.sk
  apply W.sr
  apply OL.imakeMap; rfl; rfl; (intro bk hbk; simp only [AllLe, and_true] at hbk)
  apply OL.imakeMap; rfl; rfl; (intro bk hbk; simp only [AllLe, and_true] at hbk)
  apply OL.imakeMap; rfl; rfl; (intro bk hbk; simp only [AllLe, and_true] at hbk)
  apply oop; rfl; apply Pev.build; rfl; exact CellsL.agg; rfl; exact Fill.au; rfl
  apply OL.box; rfl; rfl; exact CellsL.agg; (intro bk hbk; simp only [AllLe, and_true] at hbk)
  apply oas; rfl; rfl
  apply OL.nsr
  apply omv; rfl; rfl
  revert bk
  intro bc hbc
  revert bk
  intro bm hbm
  revert bk
  intro bd hbd
  revert bk
  intro bu hbu
  refine OL.callE (α := (Nat × World) × Nat) (fun z => .pointer (some ⟨z.1.1, 0, none⟩)) (fun z => TrO z.1.2 (fun k => z.2 ≤ k ∧ k < z.1.2.heap.size) (grow e (e.length - 1)) z.1.1 ∧ bc < z.2 ∧ bu < z.2 ∧ bd < z.2 ∧ bm < z.2 ∧ w.heap.size ≤ z.1.2.heap.size) (fun z => Cls [blk bc 112 [.map (some bu), .map (some bd), .map (some bm)], mapI bm [], mapI bd [], mapI bu []] [z.1.2, w]) rfl rfl (by exact Args.au) (fun w2 hw2 => (Grow_callsF es q cap w2 (he.at hw2 (by exact mau) (fun k hk => by exact NotOwned.au)) (by omega) (by omega) (by rw [hee]; exact hok.tree.tree.down) hlim (fun p hp => hok.kl (hin p hp))).mono (fun e1 w3 ⟨b, h1, h2, h3⟩ => ⟨((b, w3), w2.heap.size), h1, ⟨by rw [hee, ← hel] at h3; exact h3, hw2.lt _ (.head _) bc rfl, hw2.lt _ (.tail _ (.tail _ (.tail _ (.head _)))) bu rfl, hw2.lt _ (.tail _ (.tail _ (.head _))) bd rfl, hw2.lt _ (.tail _ (.head _)) bm rfl, Nat.le_trans (hw2.kp w (by exact mau)).size h2.size⟩, (hw2.ext h2).note⟩)) ?_
  rintro ⟨⟨bt, w3⟩, L⟩ ⟨htr, hcL, huL, hdL, hmL, hsz3⟩
  simp only at htr hcL huL hdL hmL hsz3 ⊢
  apply oas; rfl; rfl
  apply OL.nsr
  apply omv; rfl; rfl
  apply omv; rfl; rfl
  obtain ⟨s, hse⟩ : ∃ s, wk (grow e (e.length - 1)) 0 ⟨[], [], []⟩ = s := ⟨_, rfl⟩
  have htl := tsz_le hok.tree.tree (a := e.length - 1) (by omega)
  have hRs : Rg (0 + tsz (grow e (e.length - 1))) s := by rw [← hse]; exact Rg.wk _ (fun k => by simp [cf, lget])
  refine OL.callE (α := Unit) (fun _ => .tuple #[]) (fun _ => True) (fun _ => Cls [blk bc 112 [.map (some bu), .map (some bd), .map (some bm)], mapI bm (intM s.m), mapI bd (intM s.d), mapI bu (intM s.u)] [w3, w]) rfl rfl (by exact Args.au) (fun w4 hw4 => ?_) ?_
  · have h1 := walk_calls w3 L bc bu bd bm hcL huL hdL hmL (tsz (grow e (e.length - 1))) (grow e (e.length - 1)) bt 0 0 ⟨[], [], []⟩ [] [w] w4 (Nat.le_refl _) htr (fun k => by simp [cf, lget]) (by omega) (by omega) (by omega) (by omega) (fun k hk => NotOwned.nil) hw4
    rw [hse] at h1
    exact h1.mono fun e1 w5 h => ⟨(), h.1, trivial, h.2⟩
  rintro _ _
  apply OL.nsr
  apply oas; rfl; rfl
  apply OL.nx
  apply W.seq
  apply W.sr
  apply omv; rfl; rfl
  apply oop; rfl; apply Pev.len_slice; rfl; exact yes; rfl
  apply omv; rfl; rfl
  apply OL.nx
  apply W.block
  have hbl := bnds_le (e := e) (fun x hx => binders_len (hok.lim hx))
  refine W.loop (G := Nat × UO) (fun g => g.1 ≤ es.length) (fun g => es.length - g.1)
    (fun g => [(5, true, .pointer (some ⟨bc, 0, none⟩)), (7, true, .slice g.2.q ((bnds e g.1).map (hwP s)).length g.2.c), (28, true, .slice q es.length cap), (29, true, .int .i64 (es.length : Int)), (30, true, .int .i64 (g.1 : Int))])
    (fun g => Cls [row w3.heap.size g.2.O g.2.q ((bnds e g.1).map (hwP s)).length g.2.c 64 2 (cat uc ((bnds e g.1).map (hwP s))), blk bc 112 [.map (some bu), .map (some bd), .map (some bm)], mapI bm (intM s.m), mapI bd (intM s.d), mapI bu (intM s.u)] [w3, w]) (0, ⟨fun _ => False, none, 0⟩) (by simp) (by exact Sub.au) (fun w' hw' => by simpa [bnds, cat] using hw'.row_nil w3.heap.size _ 2) ?_
  rintro ⟨i, ⟨O, qo, co⟩⟩ hi
  simp only at hi ⊢
  apply W.sr
  apply obn; rfl; rfl; rfl; apply Bin.lss
  apply OL.nx
  apply W.seq
  (refine W.cnd (fun hlt => ?_) (fun hlt => ?_)) <;> (try (exfalso; first | omega | exact hlt trivial | contradiction))
  · have hil : i < es.length := by omega
    obtain ⟨a, p, rfl, hab, hp, hcell, hok1⟩ := he.get hil
    have hab : a.block < w.heap.size := hab
    have hcell : CellsAt w (a.add (i * 5)) [.int .i64 p.1.op, .int .i64 p.1.n, .slice p.2.b.1 p.1.binds.length p.2.b.2, .slice p.2.k.1 p.1.kids.length p.2.k.2, .slice p.2.a.1 p.1.alts.length p.2.a.2] := hcell
    have hx : e[i]? = some p.1 := by rw [← hee, List.getElem?_map, hp]; rfl
    have hL1 := hlim p (List.mem_of_getElem? hp)
    have hbx : bindersX p.1 = bindersT p.1.op p.1.binds p.1.alts := rfl
    have hb2 := binders_len hL1
    have hbi := hbl i (by omega)
    have hDs := bnds_succ hx
    generalize bnds e i = D at *
    apply W.sk
    apply W.sb
    apply W.sr
    apply oop; rfl; apply Pev.idx; rfl; exact yes; rfl; exact yes; rfl; rfl; intro hcond; omega
    apply oop; rfl; apply Pev.load_keptA; rfl; exact yes; exact .tail _ (.head _); rfl; intro hcond; assumption; rfl; intro hcond; (rw [add_block]; assumption); intro hcond; exact NotOwned.au
    apply OL.alloc; rfl; rfl; exact CellsL.agg; (intro bk hbk; simp only [AllLe, and_true] at hbk)
    apply OL.storeB; rfl; rfl; exact CellsL.agg; rfl; rfl; rfl; exact Swap.au; exact Put.au
    apply OL.nsr
    apply ofa; rfl; rfl; rfl
    apply old; rfl; rfl; exact .head _; rfl; rfl
    apply ofa; rfl; rfl; rfl
    apply old; rfl; rfl; exact .head _; rfl; rfl
    apply ofa; rfl; rfl; rfl
    apply old; rfl; rfl; exact .head _; rfl; rfl
    apply oop; rfl; apply Pev.build; rfl; exact CellsL.agg; rfl; exact Fill.au; rfl
    apply OL.box; rfl; rfl; exact CellsL.agg; (intro bk hbk; simp only [AllLe, and_true] at hbk)
    rename_i bx hbx1
    refine OL.callE (α := (Option Addr × Nat) × Nat × Nat) (fun z => .slice z.1.1 (bindersX p.1).length z.1.2) (fun z => w3.heap.size ≤ z.2.1) (fun z => Cls [pile z.2.1 (fun k => k < z.2.2) [⟨z.1.1, z.1.2, ints (bindersX p.1)⟩], row w3.heap.size O qo ((D.map (hwP s))).length co 64 2 (cat uc ((D.map (hwP s)))), blk bc 112 [.map (some bu), .map (some bd), .map (some bm)], mapI bm (intM s.m), mapI bd (intM s.d), mapI bu (intM s.u)] [w3, w]) rfl rfl (by exact Args.au) (fun w2 hw2 => ?_) ?_
    · have hb2 : (blk bk 91 [.int .i64 p.1.op, .int .i64 0, .slice p.2.b.1 p.1.binds.length p.2.b.2, .slice none 0 0, .slice p.2.a.1 p.1.alts.length p.2.a.2]).holds w2 := hw2.item (by exact mau)
      have hok2 := ExOk.at hok1 hw2 (.tail _ (.head _)) (fun k hk => by exact NotOwned.au)
      refine (Binders_calls bk p.1.op 0 p.1.binds 0 p.1.alts ⟨p.2.b, (none, 0), p.2.a⟩ w2 ⟨blk_lt hb2, fun j v hj => by rw [add_mid, blk_cell hb2]; simpa using hj, hL1.b, hL1.a, hL1.ab, hok2.b, hok2.a⟩).mono fun e w4 ⟨q3, c3, h1, h2, h3, h4⟩ => ?_
      exact ⟨((q3, c3), w2.heap.size, w4.heap.size), h1, (hw2.kp w3 (.head _)).size, (hw2.pileU h2 h3).thin (by exact Thin.au)⟩
    rintro ⟨⟨q3, c3⟩, lo, hi3⟩ hlo
    simp only at hlo ⊢
    generalize hbi2 : bindersX p.1 = B at *
    apply oop; rfl; apply Pev.len_slice; rfl; exact yes; rfl
    apply omv; rfl; rfl
    apply OL.nx
    apply W.block
    refine W.loop (G := Nat × UO) (fun g => g.1 ≤ B.length) (fun g => B.length - g.1)
      (fun g => [(5, true, .pointer (some ⟨bc, 0, none⟩)), (7, true, .slice g.2.q ((D ++ B.take g.1).map (hwP s)).length g.2.c), (28, true, .slice (some a) es.length cap), (29, true, .int .i64 (es.length : Int)), (30, true, .int .i64 (i : Int)), (42, true, .slice q3 B.length c3), (43, true, .int .i64 (B.length : Int)), (44, true, .int .i64 (g.1 : Int))])
      (fun g => Cls [pile lo (fun k => k < hi3) [⟨q3, c3, ints B⟩], row w3.heap.size g.2.O g.2.q (((D ++ B.take g.1).map (hwP s))).length g.2.c 64 2 (cat uc (((D ++ B.take g.1).map (hwP s)))), blk bc 112 [.map (some bu), .map (some bd), .map (some bm)], mapI bm (intM s.m), mapI bd (intM s.d), mapI bu (intM s.u)] [w3, w]) (0, ⟨O, qo, co⟩) (by simp) (by simp only [List.take_zero, List.append_nil]; exact Sub.au) (fun w' hw' => by simpa using hw') ?_
    rintro ⟨j, ⟨O2, q2, c2⟩⟩ hj
    simp only at hj ⊢
    apply W.sr
    apply obn; rfl; rfl; rfl; apply Bin.lss
    apply OL.nx
    apply W.seq
    (refine W.cnd (fun hlt2 => ?_) (fun hlt2 => ?_)) <;> (try (exfalso; first | omega | exact hlt2 trivial | contradiction))
    · have hjl : j < B.length := by omega
      obtain ⟨n, hn⟩ : ∃ n, B[j]? = some n := ⟨_, List.getElem?_eq_getElem hjl⟩
      have hBt : B.take (j + 1) = B.take j ++ [n] := by rw [List.take_add_one, hn]; rfl
      have hlj : (D ++ B.take j).length ≤ 900000000 := by rw [List.length_append, List.length_take]; omega
      generalize hDj : D ++ B.take j = Dj at *
      have hDn : D ++ B.take (j + 1) = Dj ++ [n] := by rw [hBt, ← List.append_assoc, hDj]
      refine W.exx (X := { x : Addr // q3 = some x }) (C' := fun _ => Cls [pile lo (fun k => k < hi3) [⟨q3, c3, ints B⟩], row w3.heap.size O2 q2 ((Dj.map (hwP s))).length c2 64 2 (cat uc ((Dj.map (hwP s)))), blk bc 112 [.map (some bu), .map (some bd), .map (some bm)], mapI bm (intM s.m), mapI bd (intM s.d), mapI bu (intM s.u)] [w3, w]) (fun w' hw' => by
        obtain ⟨a1, h1⟩ := pile_some (hw'.item (.head _)) (.head _) (by rw [ints_length]; omega)
        exact ⟨⟨a1, h1⟩, hw'⟩) ?_
      rintro ⟨qa, hqa⟩
      subst hqa
      have hrn := hRs n
      apply W.sk
      apply W.sb
      apply W.sr
      apply oop; rfl; apply Pev.idx; rfl; exact yes; rfl; exact yes; rfl; rfl; intro hcond; omega
      (((first | (with_reducible apply OL.op) | (with_reducible apply QL.op)); (exact Guard.au); rfl; rfl); (apply Pev.load_pile (s := ⟨some qa, c3, ints B⟩)); rfl; ((first | exact fun _ => rfl | exact fun h => h | (intro h; simp_all; done))); (exact .head _); rfl; (exact .head _); rfl; (exact by rw [Nat.mul_one]; exact ints_get hn))
      apply oas; rfl; rfl
      apply OL.nsr
      apply oas; rfl; rfl
      apply OL.nx
      apply W.sb
      apply W.sr
      apply omv; rfl; rfl
      apply oop; rfl; apply Pev.nil_ptr; rfl; exact yes
      apply ofa; rfl; rfl; rfl
      apply old; rfl; rfl; exact .tail _ (.tail _ (.head _)); rfl; rfl
      apply omv; rfl; rfl
      apply oop; rfl; apply Pev.clookup; rfl; exact yes; rfl; exact yes; rfl; rfl; apply List.Mem.tail; apply List.Mem.tail; apply List.Mem.tail; exact .tail _ (.tail _ (.head _))
      apply obn; rfl; rfl; rfl; apply Bin.eql
      apply oas; rfl; rfl
      apply OL.nx
      refine W.joinxb (G := Int) (fun h => h = howN (cf s.u n) (cf s.m n)) (fun h => [(5, true, .pointer (some ⟨bc, 0, none⟩)), (7, true, .slice q2 (Dj.map (hwP s)).length c2), (11, true, .int .i64 n), (12, true, .int .i64 h), (28, true, .slice (some a) es.length cap), (29, true, .int .i64 (es.length : Int)), (30, true, .int .i64 (i : Int)), (42, true, .slice (some qa) B.length c3), (43, true, .int .i64 (B.length : Int)), (44, true, .int .i64 (j : Int))]) (fun _ => Cls [pile lo (fun k => k < hi3) [⟨some qa, c3, ints B⟩], row w3.heap.size O2 q2 (Dj.map (hwP s)).length c2 64 2 (cat uc (Dj.map (hwP s))), blk bc 112 [.map (some bu), .map (some bd), .map (some bm)], mapI bm (intM s.m), mapI bd (intM s.d), mapI bu (intM s.u)] [w3, w]) ?_ ?_
      · have hcs := howN_cases (cf s.u n) (cf s.m n)
        (refine W.cnd (fun hu0 => ?_) (fun hu0 => ?_)) <;> (try (exfalso; first | omega | exact hu0 trivial | contradiction))
        · apply W.reg
          apply oas; rfl; rfl
          apply OL.nil
          with_reducible apply At.in_normal
          exact At.joinedx 0 (by omega) (by exact Sub.au) (fun w' hw' => hw')
        · apply W.sr
          apply omv; rfl; rfl
          apply oop; rfl; apply Pev.nil_ptr; rfl; exact yes
          apply ofa; rfl; rfl; rfl
          apply old; rfl; rfl; exact .tail _ (.tail _ (.head _)); rfl; rfl
          apply omv; rfl; rfl
          apply oop; rfl; apply Pev.clookup; rfl; exact yes; rfl; exact yes; rfl; rfl; apply List.Mem.tail; apply List.Mem.tail; apply List.Mem.tail; exact .tail _ (.tail _ (.head _))
          apply obn; rfl; rfl; rfl; apply Bin.eql
          apply omv; rfl; rfl
          apply oy; rfl; rfl; rfl; apply Pev.move; rfl; exact yes
          apply oy; rfl; rfl; rfl; apply Pev.nil_ptr; rfl; exact fun h => h
          apply oy; rfl; rfl; rfl; apply Pev.fld; rfl; exact fun h => h; rfl
          apply oy; rfl; rfl; rfl; apply Pev.load_blk; rfl; exact fun h => h; exact .tail _ (.tail _ (.head _)); rfl; rfl
          apply oy; rfl; rfl; rfl; apply Pev.move; rfl; exact yes
          apply oy; rfl; rfl; rfl; apply Pev.clookup; rfl; exact fun h => h; rfl; exact fun h => h; rfl; rfl; apply List.Mem.tail; exact .tail _ (.tail _ (.head _))
          apply oy; rfl; rfl; rfl; apply Pev.bin; rfl; exact fun h => h; rfl; exact yes; intro hcond; apply Bin.eql
          apply oop; rfl; apply Pev.pick_and; rfl; exact yes; rfl; exact fun h => h
          apply oas; rfl; rfl
          apply OL.nx
          refine W.cond rfl (fun hb => ?_) (fun hb => ?_)
          · simp at hb
            apply W.reg
            apply oas; rfl; rfl
            apply OL.nil
            with_reducible apply At.in_normal
            exact At.joinedx 1 (by omega) (by exact Sub.au) (fun w' hw' => hw')
          · simp at hb
            apply W.skip
            with_reducible apply At.in_normal
            exact At.joinedx 2 (by omega) (by exact Sub.au) (fun w' hw' => hw')
      rintro h rfl
      have hml : (Dj.map (hwP s)).length = Dj.length := by rw [List.length_map]
      apply W.reg
      apply omv; rfl; rfl
      apply omv; rfl; rfl
      apply omv; rfl; rfl
      apply oop; rfl; apply Pev.build; rfl; exact CellsL.agg; rfl; exact Fill.au; rfl
      apply OL.buildSlice; rfl; rfl; rfl; exact Elems.au; rfl; rfl; (intro bk hbk; simp only [AllLe, and_true] at hbk)
      apply OL.append; rfl; rfl; rfl; rfl; exact Hole.au; exact .head _; exact Take.au; rfl; rfl; exact ⟨_, .head _, Nat.le_refl _⟩; omega; intro O1 g1 cap1
      apply oas; rfl; rfl
      apply OL.nil
      with_reducible apply At.in_normal
      with_reducible apply At.next
      apply W.reg
      apply obn; rfl; rfl; rfl; apply Bin.add_in; omega
      apply omv; rfl; rfl
      apply OL.nil
      rw [show cat uc (Dj.map (hwP s)) ++ [.int .i64 n, .int .i64 (howN (cf s.u n) (cf s.m n))] = cat uc ((Dj ++ [n]).map (hwP s)) by simp [cat_append, cat, uc, hwP], show (Dj.map (hwP s)).length + 1 = ((Dj ++ [n]).map (hwP s)).length by simp, ← hDn]
      exact At.again (j + 1, ⟨O1, some ⟨g1, 0, none⟩, cap1⟩) (by simp only; omega) (by simp only; omega) (by exact Sub.au) (fun w' hw' => hw'.thin (by exact Thin.au))
    · obtain rfl : j = B.length := by omega
      rw [List.take_length, ← hDs]
      refine W.xt ?_
      with_reducible apply At.in_normal
      with_reducible apply At.next
      apply W.reg
      apply obn; rfl; rfl; rfl; apply Bin.add_in; omega
      apply omv; rfl; rfl
      apply OL.nil
      exact At.again (i + 1, ⟨O2, q2, c2⟩) (by simp only; omega) (by simp only; omega) (by exact Sub.au) (fun w' hw' => hw'.thin (.any (fun k hk => ⟨Nat.le_trans hlo hk.1, by have := hk.1; omega, trivial⟩) Thin.same))
  · obtain rfl : i = es.length := by omega
    have hall : bnds e es.length = e.flatMap bindersX := by rw [← hel, bnds_all]
    have hbll := hbl es.length (by omega)
    rw [hall] at hbll ⊢
    have hnd : (e.flatMap bindersX).Nodup := by have := hok.nd; simpa using this
    have hus := fun P hP n => wk_whole hok (P := P) hP hpos n
    rw [hse] at hus
    generalize e.flatMap bindersX = L2 at *
    have hml : (L2.map (hwP s)).length = L2.length := by rw [List.length_map]
    refine W.xt ?_
    with_reducible apply At.next
    apply W.sr
    apply omv; rfl; rfl
    refine OL.callE (α := List (Int × Int)) (fun _ => .tuple #[]) (fun ys => ys.Perm (L2.map (hwP s)) ∧ (ys.map Prod.fst).Pairwise (· ≤ ·)) (fun ys => Cls [row w3.heap.size O qo (L2.map (hwP s)).length co 64 2 (cat uc ys), blk bc 112 [.map (some bu), .map (some bd), .map (some bm)], mapI bm (intM s.m), mapI bd (intM s.d), mapI bu (intM s.u)] [w3, w]) rfl rfl (by exact Args.au) (fun w4 hw4 => (SortU_calls .z hw4 (by omega)).mono fun e1 w5 ⟨h1, ys, h2, h3, h4⟩ => ⟨ys, h1, ⟨h2, h3⟩, h4⟩) ?_
    rintro ys ⟨hperm, hsort⟩
    have hyl : ys.length = (L2.map (hwP s)).length := hperm.length_eq
    rw [← hyl]
    apply OL.nsr
    apply omv; rfl; rfl
    apply oas; rfl; rfl
    apply oas; rfl; rfl
    apply OL.nx
    apply W.ret
    ((with_reducible apply At.fin2); rfl; rfl; rfl; intro w' hw')
    refine ⟨ys, qo, co, rfl, hw'.fr (by exact mau), fun h => absurd rfl h, fun _ P hP => ?_, by omega, SlAt.of_row (hw'.item (i := row w3.heap.size O qo ys.length co 64 2 (cat uc ys)) (by exact mau))⟩
    have h1 : ys.map Prod.fst = sortI L2 := by
      refine sortI_uniq hnd ?_ hsort
      have := hperm.map Prod.fst
      rwa [List.map_map, show (Prod.fst ∘ hwP s) = id from rfl, List.map_id] at this
    rw [← h1, List.map_map]
    refine (List.map_id ys).symm.trans (List.map_congr_left fun y hy => ?_)
    obtain ⟨n, hn, rfl⟩ := List.mem_map.1 (hperm.mem_iff.1 hy)
    simp only [id, hwP, Function.comp]
    rw [hus P hP n]
end Go.Proofs.YtlboppiogeaicaaDoor.co

/- Plain: what the reference's checks of a core expression's nodes compute, and that it is what core's own checks compute. No program in sight. No condition. -/
namespace Go.Co
set_option linter.unusedVariables false
set_option linter.unusedSimpArgs false
def kidsR (x : Ex) : Int × Bool :=
  if x.op = 0 ∨ x.op = 1 ∨ x.op = 17 then (0, true)
  else if x.op = 2 then (1, false)
  else if x.op = 4 then (2, false)
  else if x.op = 3 then (((max x.kids.length 1 : Nat) : Int), false)
  else if x.op = 5 then ((x.binds.length : Int) + 1, false)
  else if x.op = 7 ∨ x.op = 13 then ((x.alts.length : Int) + 1, false)
  else if x.op = 9 then ((x.binds.length : Int), false)
  else if x.op = 10 ∨ x.op = 12 ∨ x.op = 16 then (1, true)
  else if x.op = 11 then (2, true)
  else if x.op = 6 ∨ x.op = 14 ∨ x.op = 15 then ((x.kids.length : Int), true)
  else if x.op = 8 then (if x.n = 7 ∨ x.n = 9 then (1, true) else if x.n = 11 then (3, true) else if 0 ≤ x.n ∧ x.n < 11 then (2, true) else (-1, false))
  else (-1, false)
def altR1 (x : Ex) (i : Nat) (a : Al) : Bool :=
  !((x.alts.take i).any fun b => decide (b.tag = a.tag)) && !decide (a.tag < -1) && !(decide (x.op = 7) && decide (a.tag = -1) && (decide (i + 1 < x.alts.length) || !decide (a.binds.length = 0)))
    && !(decide (x.op = 13) && (decide (i = 0) && (!decide (a.tag = -1) || !decide (a.binds.length = 1)) || decide (0 < i) && (decide (a.tag < 0) || !decide (a.binds.length = 2))))
def altsR1 (x : Ex) : Bool := (List.range x.alts.length).all fun i => altR1 x i (x.alts.getD i ⟨0, []⟩)
def altsR (x : Ex) : Bool := if ¬ x.op = 7 ∧ ¬ x.op = 13 then decide (x.alts.length = 0) else altsR1 x && (decide (x.op = 7) || decide (0 < x.alts.length))
def bindsR (x : Ex) : Bool := if x.op = 2 ∨ x.op = 9 then true else if x.op = 4 then decide (x.binds.length = 1) else if x.op = 5 then decide (0 < x.binds.length) else decide (x.binds.length = 0)
def formR (x : Ex) : Bool := decide ((kidsR x).1 = (x.kids.length : Int)) && ((kidsR x).2 || decide (x.n = 0)) && altsR x && bindsR x
theorem altR1_eq (x : Ex) (i : Nat) (a : Al) : altR1 x i a = altOk x i a := by
  unfold altR1 altOk
  generalize (x.alts.take i).any (fun b => decide (b.tag = a.tag)) = c
  generalize x.alts.length = m
  generalize a.binds.length = b
  generalize a.tag = t
  generalize x.op = o
  rw [Bool.eq_iff_iff]
  simp only [Bool.and_eq_true, Bool.not_eq_true', Bool.or_eq_false_iff, Bool.and_eq_false_iff, decide_eq_true_eq, decide_eq_false_iff_not, Bool.not_eq_false', beq_eq_false_iff_ne, beq_iff_eq, Bool.not_eq_true, ne_eq, decide_eq_decide]
  constructor
  · rintro ⟨⟨⟨h1, h2⟩, h3⟩, h4⟩
    refine ⟨⟨⟨⟨h1, by omega⟩, by omega⟩, by omega⟩, by omega⟩
  · rintro ⟨⟨⟨⟨h1, h2⟩, h3⟩, h4⟩, h5⟩
    refine ⟨⟨⟨h1, by omega⟩, by omega⟩, ?_⟩
    by_cases h : o = 13
    · right
      have e4 : i = 0 ↔ t = -1 := by omega
      have e5 : b = min (i + 1) 2 := by omega
      omega
    · exact .inl h
theorem altsR_eq (x : Ex) (h : x.op = 7 ∨ x.op = 13) : altsR x = (altsOk x && (decide (x.op = 7) || decide (0 < x.alts.length))) := by
  unfold altsR altsR1 altsOk
  rw [if_neg (by omega)]
  congr 2
  funext i
  exact altR1_eq x i _
theorem formR_eq (x : Ex) : formR x = shapeB x := by
  unfold formR shapeB
  by_cases h : x.op = 7 ∨ x.op = 13
  · rw [if_pos h, altsR_eq x h]
    unfold altsB
    have hk : kidsR x = ((x.alts.length : Int) + 1, false) := by unfold kidsR; rcases h with h | h <;> simp [h]
    have hb : bindsR x = decide (x.binds.length = 0) := by unfold bindsR; rcases h with h | h <;> simp [h]
    rw [hk, hb]
    generalize altsOk x = a
    rw [Bool.eq_iff_iff]
    simp only [Bool.and_eq_true, decide_eq_true_eq, Bool.or_eq_true, Bool.false_eq_true, false_or]
    constructor
    · rintro ⟨⟨⟨h1, h2⟩, h3, h4⟩, h5⟩
      exact ⟨⟨⟨⟨h3, by omega⟩, h4⟩, h5⟩, h2⟩
    · rintro ⟨⟨⟨⟨h3, h1⟩, h4⟩, h5⟩, h2⟩
      exact ⟨⟨⟨by omega, h2⟩, h3, h4⟩, h5⟩
  · rw [if_neg h]
    have ha : altsR x = decide (x.alts.length = 0) := by unfold altsR; rw [if_pos (by omega)]
    rw [ha]
    unfold kidsR bindsR sh primN
    generalize x.alts.length = al
    generalize x.binds.length = bl
    generalize x.kids.length = kl
    generalize x.n = n
    generalize x.op = op at h ⊢
    rw [Bool.eq_iff_iff]
    by_cases e1 : op = 0 ∨ op = 1 ∨ op = 17
    · rcases e1 with e | e | e <;> simp [e] <;> omega
    by_cases e2 : op = 2
    · simp [e2]; first | done | omega
    by_cases e3 : op = 3
    · simp [e3]; first | done | omega
    by_cases e4 : op = 4
    · simp [e4]; first | done | omega
    by_cases e5 : op = 5
    · simp [e5]; first | done | omega
    by_cases e6 : op = 6 ∨ op = 14 ∨ op = 15
    · rcases e6 with e | e | e <;> simp [e] <;> omega
    by_cases e7 : op = 9
    · simp [e7]; first | done | omega
    by_cases e8 : op = 10 ∨ op = 12 ∨ op = 16
    · rcases e8 with e | e | e <;> simp [e] <;> omega
    by_cases e9 : op = 11
    · simp [e9]; first | done | omega
    by_cases e10 : op = 8
    · by_cases f1 : n = 7 ∨ n = 9
      · rcases f1 with f | f <;> simp [e10, f] <;> omega
      by_cases f2 : n = 11
      · simp [e10, f2]; first | done | omega
      by_cases f3 : 0 ≤ n ∧ n < 11
      · have f4 : 0 ≤ n ∧ n ≤ 11 := by omega
        simp [e10, f1, f2, f3, f4]; first | done | omega
      · have f4 : ¬ (0 ≤ n ∧ n ≤ 11) := by omega
        simp [e10, f1, f2, f3, f4]; first | done | omega
    · simp [e1, e2, e3, e4, e5, e6, e7, e8, e9, e10, h]; first | done | omega
/-- the longest list of an alternative -/
def altW (l : List Al) : Nat := l.foldl (fun m a => max m a.binds.length) 0
/-- the reference's numbersError -/
def numE (x : Ex) : Int :=
  if rangesOk x = false then 4
  else if (x.op = 2 ∧ 6 < x.binds.length) ∨ (x.op = 3 ∧ 7 < x.kids.length) ∨ (x.op = 14 ∧ 6 < x.kids.length) ∨ ((x.op = 6 ∨ x.op = 15) ∧ 16 < x.kids.length) ∨ 16 < x.binds.length ∨ 16 < altW x.alts then 2 else 0
theorem foldl_max (l : List Al) : ∀ (m : Nat), l.foldl (fun m a => max m a.binds.length) m = max m (l.foldl (fun m a => max m a.binds.length) 0) := by
  induction l with
  | nil => intro m; simp
  | cons a r ih =>
    intro m
    rw [List.foldl_cons, List.foldl_cons, ih, ih (max 0 a.binds.length)]
    omega
theorem numE_eq {x : Ex} (h : shapeB x = true) : numE x = rangesE x := by
  unfold numE rangesE
  by_cases h1 : rangesOk x = false
  · rw [if_pos h1, if_pos h1]
  · rw [if_neg h1, if_neg h1]
    have hw : wide x = max x.binds.length (altW x.alts) := foldl_max _ _
    rw [hw]
    have h2 : x.op = 2 → altW x.alts = 0 := fun h2 => by
      unfold shapeB sh at h
      simp [h2] at h
      unfold altW
      rw [h.1.2]
      rfl
    obtain ⟨f, hf⟩ : ∃ f, f = altW x.alts := ⟨_, rfl⟩
    rw [← hf] at h2 ⊢
    have hm : ∀ k, k < max x.binds.length f ↔ k < x.binds.length ∨ k < f := fun k => by rw [Nat.max_def]; split <;> omega
    congr 1
    apply propext
    simp only [hm]
    by_cases e : x.op = 2
    · have := h2 e
      have e2 : (if x.op = 2 then 6 else 16) = 6 := if_pos e
      simp only [e2]
      omega
    · have e2 : (if x.op = 2 then 6 else 16) = 16 := if_neg e
      simp only [e2]
      omega
/-- the reference's check of a node -/
def oneR (e : List Ex) (flat : Bool) (x : Ex) : Int :=
  if (!flatBad flat x.op && formR x) = false then 3 else if ¬ numE x = 0 then numE x else if kidsB e x = false then 3 else 0
theorem oneR_eq (e : List Ex) (flat : Bool) (x : Ex) : oneR e flat x = if flatBad flat x.op then 3 else nodeE e x := by
  unfold oneR nodeE
  cases hb : flatBad flat x.op
  · rw [formR_eq]
    simp only [Bool.not_false, Bool.true_and, Bool.false_eq_true, if_false]
    by_cases hs : shapeB x = false
    · rw [if_pos hs, if_pos hs]
    · rw [if_neg hs, if_neg hs, numE_eq (by simpa using hs)]
  · simp
end Go.Co
