/- Texts of the proof of PuritySays, part 5: rules of a calculus for walking, plain laws, and walks of the functions that the law reaches. No condition. -/
import Derived.SizedLaws
import Derived.Test.YtlboppiogeaicaaDoorProg
import Derived.Test.YtlboppiogeaicaaDoorPuritySays4
/- The walk of purity's Of. Conditions: none. -/
namespace Go.Co
open Go.Eng Go.RowKit
set_option linter.unusedVariables false
set_option linter.unusedSimpArgs false
def outL (e : List Ex) (i : Nat) (v : Int) : List Int := (List.range e.length).map fun k => if k < i then effE e k else if k = i then v else 0
theorem outL_length (e : List Ex) (i : Nat) (v : Int) : (outL e i v).length = e.length := by simp [outL]
theorem outL_zero (e : List Ex) : List.replicate e.length (Value.int .i64 0) = ints (outL e 0 0) := by
  refine List.ext_getElem? fun k => ?_
  by_cases h : k < e.length
  · simp [ints, outL, List.getElem?_replicate, h]
  · simp [ints, outL, List.getElem?_replicate, h]
theorem outL_low {e : List Ex} {i k : Nat} {v : Int} (hk : k < i) (hl : k < e.length) : (outL e i v)[k]? = some (effE e k) := by simp [outL, hl, hk]
theorem outL_at {e : List Ex} {i : Nat} {v : Int} (hl : i < e.length) : (outL e i v)[i]? = some v := by simp [outL, hl]
theorem outL_set {e : List Ex} {i : Nat} {v u : Int} : (outL e i v).set i u = outL e i u := by
  refine List.ext_getElem? fun k => ?_
  rw [List.getElem?_set]
  by_cases h : k < e.length
  · by_cases hk : i = k
    · subst hk
      simp [outL, h]
    · rw [if_neg hk]
      simp [outL, h, show ¬ k = i from fun h => hk h.symm]
  · rw [List.getElem?_eq_none (by rw [outL_length]; omega), List.getElem?_eq_none (by rw [outL_length]; omega)]
    split <;> simp [outL_length] <;> omega
theorem outL_next (e : List Ex) (i : Nat) : outL e i (effE e i) = outL e (i + 1) 0 := by
  unfold outL
  refine List.map_congr_left fun k _ => ?_
  by_cases h1 : k < i
  · rw [if_pos h1, if_pos (by omega)]
  · by_cases h2 : k = i
    · subst h2
      rw [if_neg h1, if_pos rfl, if_pos (by omega)]
    · rw [if_neg h1, if_neg h2, if_neg (by omega)]
      split <;> rfl
theorem outL_end (e : List Ex) : outL e e.length 0 = (List.range e.length).map (effE e) := by
  unfold outL
  refine List.map_congr_left fun k hk => ?_
  rw [if_pos (List.mem_range.1 hk)]
/-- a kid's shallow tree in a block of its own -/
structure SnY where
  b : Nat
  y : Sc
structure SnOk (w0 w : World) (O : Nat → Prop) (s : Sn) (y : SnY) : Prop where
  own : O y.b
  cells : CellsAt w ⟨y.b, 0, none⟩ [.int .i64 s.op, .int .i64 s.n, .slice y.y.1 s.binds.length y.y.2, .slice none 0 0, .slice none 0 0]
  bl : s.binds.length ≤ 16
  b : IntsO w0 (low w0) s.binds y.y.1
def snR (w0 : World) : Rel Sn SnY where
  sz := 1
  pos := by decide
  cells := fun s y => [.pointer (some ⟨y.b, 0, none⟩)]
  ok := SnOk w0
  len := fun _ _ => rfl
  stab := fun hk h => ⟨h.own, cells_stab (hk _ h.own) h.cells, h.bl, h.b⟩
  mono := fun hk h => ⟨hk _ h.own, h.cells, h.bl, h.b⟩
theorem SnOk.tr {w0 w : World} {s : Sn} {y : SnY} (h : SnOk w0 w (low w) s y) (hs : w0.heap.size ≤ w.heap.size) (hk : ∀ k, k < w0.heap.size → w.heap[k]? = w0.heap[k]?) : TrO w (low w) s.tr y.b := by
  unfold Sn.tr
  simp only [TrO]
  refine ⟨⟨y.y, (none, 0), (none, 0)⟩, ⟨h.own, h.cells, h.bl, by simp, fun a ha => (by cases ha), (h.b.stab hk).mono fun k hk => Nat.lt_of_lt_of_le hk hs, ArrP.nil⟩, by simp, fun hl => by simp at hl⟩
theorem cat_snR (w0 : World) : ∀ l : List (Sn × SnY), cat (snR w0).c l = l.map ((fun b => Value.pointer (some ⟨b, 0, none⟩)) ∘ fun z => z.2.b)
  | [] => rfl
  | z :: r => by
    rw [List.map_cons, ← cat_snR w0 r]
    rfl
theorem lamOk_of {e : List Ex} (h : ∀ x ∈ e, nodeE e x = 0) : LamOk e := fun i x hx hop => by
  have h1 := (nodeE_zero (h x (List.mem_of_getElem? hx))).1
  unfold shapeB at h1
  rw [if_neg (by omega)] at h1
  unfold sh at h1
  rw [if_neg (by omega), if_pos hop] at h1
  simp only [Bool.and_eq_true, decide_eq_true_eq] at h1
  exact h1.1.1.1
/-- how many kids a valid node has, where purity looks at them -/
theorem kids_need {e : List Ex} {x : Ex} (h : nodeE e x = 0) : (x.op = 3 ∨ x.op = 7 ∨ x.op = 8 ∨ x.op = 10 ∨ x.op = 11 → 1 ≤ x.kids.length) ∧ (x.op = 8 → ¬ (x.n = 7 ∨ x.n = 9) → 2 ≤ x.kids.length) ∧ (x.op = 5 → x.kids.length = x.binds.length + 1) := by
  have h1 := (nodeE_zero h).1
  have h5 := (shape_kids h1)
  refine ⟨fun hop => ?_, fun hop hn => ?_, h5.2.2⟩
  · by_cases h7 : x.op = 7
    · have := h5.1 (.inl h7); omega
    · unfold shapeB at h1
      rw [if_neg (by omega)] at h1
      unfold sh at h1
      rcases hop with o | o | o | o | o
      · rw [if_neg (by omega), if_neg (by omega), if_pos o] at h1
        simp only [Bool.and_eq_true, decide_eq_true_eq] at h1
        omega
      · omega
      · rw [if_neg (by omega), if_neg (by omega), if_neg (by omega), if_neg (by omega), if_neg (by omega), if_neg (by omega), if_pos o] at h1
        split at h1
        · cases h1
        · rename_i hs
          split at hs
          · simp only [Option.some.injEq, Prod.mk.injEq] at hs
            obtain ⟨rfl, rfl, rfl⟩ := hs
            simp only [Bool.and_eq_true, decide_eq_true_eq] at h1
            have := h1.1.1.1
            unfold primN at this
            split at this
            · omega
            · split at this <;> omega
          · cases hs
      · rw [if_neg (by omega), if_neg (by omega), if_neg (by omega), if_neg (by omega), if_neg (by omega), if_neg (by omega), if_neg (by omega), if_neg (by omega), if_pos (by omega)] at h1
        simp only [Bool.and_eq_true, decide_eq_true_eq] at h1
        omega
      · rw [if_neg (by omega), if_neg (by omega), if_neg (by omega), if_neg (by omega), if_neg (by omega), if_neg (by omega), if_neg (by omega), if_neg (by omega), if_neg (by omega), if_pos o] at h1
        simp only [Bool.and_eq_true, decide_eq_true_eq] at h1
        omega
  · unfold shapeB at h1
    rw [if_neg (by omega)] at h1
    unfold sh at h1
    rw [if_neg (by omega), if_neg (by omega), if_neg (by omega), if_neg (by omega), if_neg (by omega), if_neg (by omega), if_pos hop] at h1
    split at h1
    · cases h1
    · rename_i hs
      split at hs
      · simp only [Option.some.injEq, Prod.mk.injEq] at hs
        obtain ⟨rfl, rfl, rfl⟩ := hs
        simp only [Bool.and_eq_true, decide_eq_true_eq] at h1
        have := h1.1.1.1
        unfold primN at this
        rw [if_neg hn] at this
        split at this <;> omega
      · cases hs
structure PG where
  O : Nat → Prop
  O2 : Nat → Prop
  q : Option Addr
  c : Nat
  l : List (Sn × SnY)
end Go.Co
namespace Go.Proofs.YtlboppiogeaicaaDoor.co
open Go.RowKit Go.Eng Go.Co
set_option linter.unusedVariables false
set_option linter.unusedSimpArgs false
set_option maxRecDepth 100000
set_option maxHeartbeats 2000000 in
theorem PurOf_calls (es : List (Ex × ExY)) (q : Option Addr) (cap : Nat) (w : World) (he : Arr exR w (low w) es q) (hlen : es.length ≤ 9223372036854775807) (hg : 1 < w.heap.size) (hs : arityAt w) :
    Calls Tryd.prog 26 [.slice q es.length cap].toArray w fun e w' => ∃ (l : List Int) (ql : Option Addr) (cl : Nat), e = .returned (.tuple #[.slice ql l.length cl, .int .i64 (bodyE (es.map Prod.fst) [] false)]) ∧ Ext w w' ∧ (bodyE (es.map Prod.fst) [] false ≠ 0 → l = []) ∧ (bodyE (es.map Prod.fst) [] false = 0 → l = (List.range es.length).map (effE (es.map Prod.fst))) ∧ IntsO w' (low w') l ql := by
  obtain ⟨e, hee⟩ : ∃ e, es.map Prod.fst = e := ⟨_, rfl⟩
  have hel : e.length = es.length := by rw [← hee, List.length_map]
  rw [hee]
  refine enter Tryd.func26 rfl Tryd.ntmps26 rfl (Cls.start w) ?_
  (simp only [argEnv, Nat.zero_add, Nat.reduceAdd])
  apply W.sr
  apply oas; rfl; rfl
  apply oas; rfl; rfl
  apply OL.nx
  apply W.seq
  apply W.sr
  apply omv; rfl; rfl
  (((first | (with_reducible apply OL.op) | (with_reducible apply QL.op)); (exact Guard.au); rfl; rfl); (exact Pev.call (v := .int .i64 (bodyE e [] false)) rfl (by exact Args.au) (fun _ w2 hw2 => (Check_calls es q cap w2 (he.at hw2 (by exact mau) (fun k hk => by exact NotOwned.au)) hlen (Nat.lt_of_lt_of_le hg (hw2.kp w (by exact mau)).size) (hs.at hg hw2 (by exact mau) (fun k hk => by exact NotOwned.au))).mono (fun e1 w3 h => ⟨by rw [h.1, hee], hw2.ext h.2⟩))))
  apply oas; rfl; rfl
  apply OL.nsr
  apply omv; rfl; rfl
  apply obn; rfl; rfl; rfl; apply Bin.neq
  apply OL.nx
  (refine W.cnd (fun hne => ?_) (fun hne => ?_)) <;> (try (exfalso; first | omega | exact hne trivial | contradiction))
  · apply W.sr
    apply omv; rfl; rfl
    apply oas; rfl; rfl
    apply oas; rfl; rfl
    apply OL.nx
    refine W.rt ?_
    ((with_reducible apply At.fin2); rfl; rfl; rfl; intro w' hw')
    exact ⟨[], none, 0, rfl, by (exact hw'.fr), fun _ => rfl, fun h => absurd h (by simpa using hne), IntsO.nil⟩
  have hb0 : bodyE e [] false = 0 := by simpa using hne
  have hok := BodyOk.of hb0
  have hl4 := hok.tree.len
  have hd := hok.tree.tree.down
  have hnd : ∀ x ∈ e, nodeE e x = 0 := fun x hx => (hok.node hx).1
  have hlam := lamOk_of hnd
  rw [hb0]
  have hget : ∀ {i : Nat}, i < es.length → ∃ a p, q = some a ∧ a.block < w.heap.size ∧ es[i]? = some p ∧ e[i]? = some p.1 ∧ CellsAt w (a.add (i * 5)) [.int .i64 p.1.op, .int .i64 p.1.n, .slice p.2.b.1 p.1.binds.length p.2.b.2, .slice p.2.k.1 p.1.kids.length p.2.k.2, .slice p.2.a.1 p.1.alts.length p.2.a.2] ∧ ExOk w (low w) p.1 p.2 := fun {i} hi => by
    obtain ⟨a, p, h1, h2, h3, h4, h5⟩ := he.get hi
    exact ⟨a, p, h1, h2, h3, by rw [← hee, List.getElem?_map, h3]; rfl, h4, h5⟩
  apply W.sk
  apply W.sr
  apply omv; rfl; rfl
  apply oop; rfl; apply Pev.len_slice; rfl; exact yes; rfl
  apply OL.makeSlice; rfl; rfl; rfl; rfl; rfl; rfl; rfl; omega; (intro bk hbk; simp only [AllLe, and_true] at hbk)
  apply oas; rfl; rfl
  apply OL.nx
  apply W.seq
  apply W.sr
  apply omv; rfl; rfl
  apply oop; rfl; apply Pev.len_slice; rfl; exact yes; rfl
  apply omv; rfl; rfl
  apply OL.nx
  apply W.block
  revert bk
  intro bp hbp
  have hz0 : List.replicate es.length (Value.int .i64 0) = ints (outL e 0 0) := by rw [← hel]; exact outL_zero e
  refine W.loop (G := Nat) (fun i => i ≤ es.length) (fun i => es.length - i)
    (fun i => [(0, true, .slice q es.length cap), (5, true, .slice (some ⟨bp, 0, none⟩) es.length es.length), (21, true, .slice q es.length cap), (22, true, .int .i64 (es.length : Int)), (23, true, .int .i64 (i : Int))])
    (fun i => Cls [blk bp 3 (ints (outL e i 0))] [w]) 0 (by omega) (by exact Sub.au) (fun w' hw' => by rw [← hz0]; exact hw') ?_
  rintro i hi
  apply W.sr
  apply obn; rfl; rfl; rfl; apply Bin.lss
  apply OL.nx
  apply W.seq
  (refine W.cnd (fun hlt => ?_) (fun hlt => ?_)) <;> (try (exfalso; first | omega | exact hlt trivial | contradiction))
  · have hil : i < es.length := by omega
    obtain ⟨a, p, rfl, hab, hp, hpe, hcell, hx⟩ := hget hil
    have hpm : p.1 ∈ e := List.mem_of_getElem? hpe
    have hL := hok.lim hpm
    have hLb := hL.b
    have hLa := hL.a
    have hkl := hok.kl hpm
    obtain ⟨hk1, hk2, hk5⟩ := kids_need (hnd _ hpm)
    have hks : (kidS e p.1).length = p.1.kids.length := by simp [kidS]
    apply W.sk
    apply W.sb
    apply W.sr
    apply omv; rfl; rfl
    apply oop; rfl; apply Pev.idx; rfl; exact yes; rfl; exact yes; rfl; rfl; intro hcond; omega
    apply oop; rfl; apply Pev.load_keptA; rfl; exact yes; exact .head _; rfl; intro hcond; assumption; rfl; intro hcond; (rw [add_block]; assumption); intro hcond; exact NotOwned.au
    apply OL.alloc; rfl; rfl; exact CellsL.agg; (intro bk hbk; simp only [AllLe, and_true] at hbk)
    apply oas; rfl; rfl
    apply OL.storeB; rfl; rfl; exact CellsL.agg; rfl; rfl; rfl; exact Swap.au; exact Put.au
    apply OL.nsr
    apply ofa; rfl; rfl; rfl
    apply old; rfl; rfl; exact .head _; rfl; rfl
    apply ofa; rfl; rfl; rfl
    apply old; rfl; rfl; exact .head _; rfl; rfl
    apply ofa; rfl; rfl; rfl
    apply old; rfl; rfl; exact .head _; rfl; rfl
    apply ofa; rfl; rfl; rfl
    apply old; rfl; rfl; exact .head _; rfl; rfl
    apply oop; rfl; apply Pev.build; rfl; exact CellsL.agg; rfl; exact Fill.au; rfl
    apply OL.box; rfl; rfl; exact CellsL.agg; (intro bk hbk; simp only [AllLe, and_true] at hbk)
    apply oas; rfl; rfl
    apply OL.nx
    apply W.seq
    apply W.sr
    apply ofa; rfl; rfl; rfl
    apply old; rfl; rfl; exact .tail _ (.head _); rfl; rfl
    apply oop; rfl; apply Pev.len_slice; rfl; exact yes; rfl
    apply omv; rfl; rfl
    apply OL.nx
    apply W.block
    revert bk
    intro bt hbt
    revert bk
    intro bx hbx
    refine W.loop (G := Nat × PG) (fun g => g.1 ≤ p.1.kids.length ∧ g.2.l.map Prod.fst = (kidS e p.1).take g.1) (fun g => p.1.kids.length - g.1)
      (fun g => [(0, true, .slice (some a) es.length cap), (5, true, .slice (some ⟨bp, 0, none⟩) es.length es.length), (6, true, .int .i64 (i : Int)), (7, true, .pointer (some ⟨bx, 0, none⟩)), (8, true, .pointer (some ⟨bt, 0, none⟩)), (21, true, .slice (some a) es.length cap), (22, true, .int .i64 (es.length : Int)), (23, true, .int .i64 (i : Int)), (39, true, .slice p.2.k.1 p.1.kids.length p.2.k.2), (40, true, .int .i64 (p.1.kids.length : Int)), (41, true, .int .i64 (g.1 : Int))])
      (fun g => Cls [blk bt 91 [.int .i64 p.1.op, .int .i64 p.1.n, .slice p.2.b.1 p.1.binds.length p.2.b.2, .slice g.2.q g.1 g.2.c, .slice p.2.a.1 p.1.alts.length p.2.a.2], row w.heap.size g.2.O g.2.q g.1 g.2.c 69 1 (cat (snR w).c g.2.l), pool (snR w) w.heap.size g.2.O2 g.2.l, blk bx 28 [.int .i64 p.1.op, .int .i64 p.1.n, .slice p.2.b.1 p.1.binds.length p.2.b.2, .slice p.2.k.1 p.1.kids.length p.2.k.2, .slice p.2.a.1 p.1.alts.length p.2.a.2], blk bp 3 (ints (outL e i 0))] [w]) (0, ⟨fun _ => False, fun _ => False, none, 0, []⟩) ⟨by simp, by simp⟩ (by exact Sub.au) (fun w' hw' => ?_) ?_
    · exact ((((hw'.pool_nil (snR w) w.heap.size).row_nil w.heap.size 69 1)).mv (A := [_, _]) (I := [_]) (H := [_, _]))
    rintro ⟨j, ⟨O1, O2, q2, c2, l⟩⟩ ⟨hj, hl⟩
    simp only at hj hl ⊢
    have hll : l.length = j := by
      have := congrArg List.length hl
      rw [List.length_map, List.length_take, hks] at this
      omega
    apply W.sr
    apply obn; rfl; rfl; rfl; apply Bin.lss
    apply OL.nx
    apply W.seq
    (refine W.cnd (fun hlt2 => ?_) (fun hlt2 => ?_)) <;> (try (exfalso; first | omega | exact hlt2 trivial | contradiction))
    · have hjl : j < p.1.kids.length := by omega
      obtain ⟨ak, k, hqk, habk, hk, hck⟩ := hx.k.get hjl
      have habk : ak.block < w.heap.size := habk
      have hkr := hd i _ hpe k (List.mem_of_getElem? hk)
      obtain ⟨kn, rfl⟩ : ∃ kn : Nat, k = (kn : Int) := ⟨k.toNat, by omega⟩
      obtain ⟨a', p', hqa', hab', hp', hpe', hcell', hx'⟩ := hget (show kn < es.length by omega)
      obtain rfl := Option.some.inj hqa'
      have hcell' : CellsAt w (a.add ((kn : Int).toNat * 5)) [.int .i64 p'.1.op, .int .i64 p'.1.n, .slice p'.2.b.1 p'.1.binds.length p'.2.b.2, .slice p'.2.k.1 p'.1.kids.length p'.2.k.2, .slice p'.2.a.1 p'.1.alts.length p'.2.a.2] := hcell'
      rw [hqk]
      apply W.sk
      apply W.sb
      apply W.sr
      apply oop; rfl; apply Pev.idx; rfl; exact yes; rfl; exact yes; rfl; rfl; intro hcond; omega
      apply oop; rfl; apply Pev.load_kept; rfl; exact yes; exact .head _; rfl; intro hcond; assumption; intro hcond; (rw [add_block]; assumption); intro hcond; exact NotOwned.au
      apply oas; rfl; rfl
      apply OL.nx
      apply W.regz; apply ZSplit.pure rfl; apply ZSplit.pure rfl; apply ZSplit.pure rfl; apply ZSplit.pure rfl; apply ZSplit.pure rfl; apply ZSplit.pure rfl; apply ZSplit.pure rfl; apply ZSplit.pure rfl; apply ZSplit.pure rfl; apply ZSplit.pure rfl; apply ZSplit.pure rfl; apply ZSplit.pure rfl; apply ZSplit.pure rfl; apply ZSplit.pure rfl; apply ZSplit.pure rfl; apply ZSplit.pure rfl; apply ZSplit.pure rfl; apply ZSplit.pure rfl; apply ZSplit.pure rfl; apply ZSplit.pure rfl; apply ZSplit.pure rfl; apply ZSplit.tail; apply ZSplit.tail; apply ZSplit.tail; apply ZSplit.tail; apply ZSplit.tail; apply ZSplit.tail; exact ZSplit.nil; kernel_rfl; decide +kernel; exact fun w hw => hw.drew
      apply ZL.op rfl; exact Guard.none; rfl; rfl; apply Pev.move; rfl; exact yes
      apply ZL.op rfl; exact Guard.none; rfl; rfl; apply Pev.move; rfl; exact yes
      apply ZL.op rfl; exact Guard.none; rfl; rfl; apply Pev.nil_ptr; rfl; exact yes
      apply ZL.op rfl; exact Guard.none; rfl; rfl; apply Pev.fld; rfl; exact yes; rfl
      apply ZL.ld rfl; exact Guard.none; rfl; rfl; apply Pev.load_blk; rfl; exact yes; exact .head _; rfl; rfl
      apply ZL.op rfl; exact Guard.none; rfl; rfl; apply Pev.move; rfl; exact yes
      apply ZL.op rfl; exact Guard.none; rfl; rfl; apply Pev.move; rfl; exact yes
      apply ZL.op rfl; exact Guard.none; rfl; rfl; apply Pev.idx; rfl; exact yes; rfl; exact yes; rfl; rfl; intro hcond; omega
      apply ZL.op rfl; exact Guard.none; rfl; rfl; apply Pev.fldA; rfl; exact yes; rfl
      apply ZL.ld rfl; exact Guard.none; rfl; rfl; apply Pev.load_kept; rfl; exact yes; exact .head _; rfl; intro hcond; apply CellsAt.at_ (by assumption) rfl; intro hcond; (simp only [add_block]; assumption); intro hcond; exact NotOwned.au
      apply ZL.op rfl; exact Guard.none; rfl; rfl; apply Pev.move; rfl; exact yes
      apply ZL.op rfl; exact Guard.none; rfl; rfl; apply Pev.move; rfl; exact yes
      apply ZL.op rfl; exact Guard.none; rfl; rfl; apply Pev.idx; rfl; exact yes; rfl; exact yes; rfl; rfl; intro hcond; omega
      apply ZL.op rfl; exact Guard.none; rfl; rfl; apply Pev.fldA; rfl; exact yes; rfl
      apply ZL.ld rfl; exact Guard.none; rfl; rfl; apply Pev.load_kept; rfl; exact yes; exact .head _; rfl; intro hcond; apply CellsAt.at_ (by assumption) rfl; intro hcond; (simp only [add_block]; assumption); intro hcond; exact NotOwned.au
      apply ZL.op rfl; exact Guard.none; rfl; rfl; apply Pev.move; rfl; exact yes
      apply ZL.op rfl; exact Guard.none; rfl; rfl; apply Pev.move; rfl; exact yes
      apply ZL.op rfl; exact Guard.none; rfl; rfl; apply Pev.idx; rfl; exact yes; rfl; exact yes; rfl; rfl; intro hcond; omega
      apply ZL.op rfl; exact Guard.none; rfl; rfl; apply Pev.fldA; rfl; exact yes; rfl
      apply ZL.ld rfl; exact Guard.none; rfl; rfl; apply Pev.load_kept; rfl; exact yes; exact .head _; rfl; intro hcond; apply CellsAt.at_ (by assumption) rfl; intro hcond; (simp only [add_block]; assumption); intro hcond; exact NotOwned.au
      apply ZL.op rfl; exact Guard.none; rfl; rfl; apply Pev.build; rfl; exact CellsL.agg; rfl; exact Fill.au; rfl
      apply ZL.nil
      apply TL.one rfl
      apply OL.box; rfl; rfl; exact CellsL.agg; (intro bk hbk; simp only [AllLe, and_true] at hbk)
      apply OL.nil
      refine At.tk (fun w hw => hw.thin ?_) ?_; exact Thin.au
      apply TL.one rfl
      apply OL.buildSlice; rfl; rfl; rfl; exact Elems.au; rfl; rfl; (intro bk hbk; simp only [AllLe, and_true] at hbk)
      apply OL.nil
      refine At.tk (fun w hw => hw.thin ?_) ?_; exact Thin.au
      apply TL.one rfl
      apply OL.append; rfl; rfl; rfl; rfl; exact Hole.au; exact .head _; exact Take.au; rfl; rfl; exact ⟨_, .head _, Nat.le_refl _⟩; omega; intro O1 g1 cap1
      apply OL.nil
      with_reducible apply At.tn; decide +kernel
      apply TL.one rfl
      apply oop; rfl; apply Pev.nil_ptr; rfl; exact yes
      apply OL.nil
      with_reducible apply At.tn; decide +kernel
      apply TL.one rfl
      apply ofa; rfl; rfl; rfl
      apply OL.nil
      with_reducible apply At.tn; decide +kernel
      apply TL.one rfl
      apply OL.storeB; rfl; rfl; exact CellsL.one rfl; rfl; rfl; rfl; exact Swap.au; exact Put.au
      apply OL.nil
      with_reducible apply At.tn; decide +kernel
      apply TL.nil
      with_reducible apply At.np
      with_reducible apply At.in_normal
      with_reducible apply At.next
      apply W.reg
      apply obn; rfl; rfl; rfl; apply Bin.add_in; omega
      apply omv; rfl; rfl
      apply OL.nil
      revert bk
      intro bl hbl
      revert bk
      intro bn hbn
      have hL' := hok.lim (List.mem_of_getElem? hpe')
      have hkid : (kidS e p.1)[j]? = some (snOf p'.1) := by
        unfold kidS
        rw [List.getElem?_map, hk]
        simp only [Option.map_some, Int.toNat_natCast, Option.some.injEq]
        unfold exAt
        rw [List.getD_eq_getElem?_getD, hpe']
        rfl
      refine At.again (j + 1, ⟨O1, fun k => O2 k ∨ k = bn, some ⟨g1, 0, none⟩, cap1, l ++ [(snOf p'.1, ⟨bn, p'.2.b⟩)]⟩) ⟨by simp only; omega, ?_⟩ (by simp only; omega) (by exact Sub.au) (fun w' hw' => ?_)
      · simp only
        rw [List.map_append, hl, List.take_add_one, hkid]
        rfl
      · simp only
        rw [cat_append, cat_one]
        have hb9 := hw'.item (i := blk bn 91 [.int .i64 p'.1.op, .int .i64 p'.1.n, .slice p'.2.b.1 p'.1.binds.length p'.2.b.2, .slice none 0 0, .slice none 0 0]) (by exact mau)
        have h1 := hw'.thin (.blk ⟨hbl, trivial⟩ Thin.same)
        have hsn : SnOk w w' (fun k => w.heap.size ≤ k ∧ (O2 k ∨ k = bn)) (snOf p'.1) ⟨bn, p'.2.b⟩ := ⟨⟨hbn, .inr rfl⟩, fun j v hj => by rw [add_mid, blk_cell hb9, Nat.zero_add]; exact hj, hL'.b, hx'.b⟩
        have h2 := Cls.pool_take (R := snR w) (x := snOf p'.1) (y := ⟨bn, p'.2.b⟩) ((h1.mv (A := [_, _, _]) (I := [_]) (H := [_, _])).flip) (fun k (hk : k = bn) => by rw [hk]; exact hbn) hsn
        exact h2.mv (A := [_]) (I := [_, _]) (H := [_, _])
    obtain rfl : j = p.1.kids.length := by omega
    rw [← hks, List.take_length] at hl
    refine W.xt ?_
    with_reducible apply At.next
    apply W.sr
    apply omv; rfl; rfl
    apply omv; rfl; rfl
    apply omv; rfl; rfl
    have hown : ownX e p.1 = ownS p.1.op p.1.n (kidS e p.1) p.1.alts := rfl
    (((first | (with_reducible apply OL.op) | (with_reducible apply QL.op)); (exact Guard.au); rfl; rfl); (refine Pev.call (v := .int .i64 (ownX e p.1)) rfl (by exact Args.au) (fun _ w2 hw2 => ?_)))
    · have hsz := (hw2.kp w (.head _)).size
      have hsm := hw2.same (.head _) (fun k hk => by exact NotOwned.au)
      have hup : ∀ k, low w k → low w2 k := fun k hk => Nat.lt_of_lt_of_le hk hsz
      have hb9 := hw2.item (i := blk bt 91 [.int .i64 p.1.op, .int .i64 p.1.n, .slice p.2.b.1 p.1.binds.length p.2.b.2, .slice q2 p.1.kids.length c2, .slice p.2.a.1 p.1.alts.length p.2.a.2]) (by exact mau)
      have harr : Arr (snR w) w2 (low w2) l q2 := hw2.arr (B := w.heap.size) (O1 := O1) (O2 := O2) (m := p.1.kids.length) (cap := c2) (e := 69) (by exact mau) (by exact mau)
      have htr : TrO w2 (low w2) (.mk p.1.op p.1.n p.1.binds ((kidS e p.1).map Sn.tr) p.1.alts) bt := by
        simp only [TrO]
        refine ⟨⟨p.2.b, (q2, c2), p.2.a⟩, ⟨blk_lt hb9, fun j v hj => ?_, hLb, hLa, hL.ab, (hx.b.stab hsm).mono hup, (hx.a.stab hsm).mono hup⟩, by rw [List.length_map, hks]; exact hkl, fun hl0 => ?_⟩
        · rw [List.length_map, hks] at hj
          rw [add_mid, blk_cell hb9, Nat.zero_add]
          exact hj
        · rw [List.length_map, hks] at hl0
          obtain ⟨aa, e1, e2, e3⟩ := harr.at_ (by omega)
          refine ⟨aa, e1, e2, TrsO.of (bs := l.map fun z => z.2.b) (by rw [List.length_map, List.length_map, hks, hll]) (fun j v hj => e3 j v ?_) (fun j t b hj hb => ?_)⟩
          · rw [← hj]
            unfold ptrs
            rw [List.map_map]
            rw [cat_snR]
          · rw [← hl, List.map_map, List.getElem?_map] at hj
            rw [List.getElem?_map] at hb
            cases hz : l[j]? with
            | none => rw [hz] at hj; cases hj
            | some z =>
              rw [hz] at hj hb
              simp only [Option.map_some, Option.some.injEq, Function.comp] at hj hb
              subst hj hb
              exact (harr.el z (List.mem_of_getElem? hz)).tr hsz hsm
      exact (own_calls p.1.op p.1.n p.1.binds (kidS e p.1) p.1.alts bt w2 htr (by rw [hks]; exact hk1) (by rw [hks]; exact hk2)).mono (fun e1 w3 h => ⟨h.1, hw2.ext h.2⟩)
    apply oop; rfl; apply Pev.idxB; rfl; exact yes; rfl; exact yes; rfl; intro hcond; omega; rfl
    (apply OL.storeI); rfl; rfl; rfl; rfl; rfl; (exact Swap.au); (rw [ints_length, outL_length]; omega)
    have hset : (ints (outL e i 0)).set (0 + (i : Int).toNat * 1) (.int .i64 (ownX e p.1)) = ints (outL e i (ownX e p.1)) := by
      rw [show 0 + (i : Int).toNat * 1 = i by simp, ints_set, outL_set]
    rw [hset]
    apply OL.nsr
    apply ofa; rfl; rfl; rfl
    apply old; rfl; rfl; apply List.Mem.tail; exact .tail _ (.tail _ (.head _)); rfl; rfl
    apply oop; rfl; apply Pev.len_slice; rfl; exact yes; rfl
    apply omv; rfl; rfl
    apply OL.nx
    apply W.block
    have hp0 : effP e p.1 0 = ownX e p.1 := rfl
    rw [← hp0]
    refine W.loop (G := Nat) (fun m => m ≤ p.1.kids.length) (fun m => p.1.kids.length - m)
      (fun m => [(0, true, .slice (some a) es.length cap), (5, true, .slice (some ⟨bp, 0, none⟩) es.length es.length), (6, true, .int .i64 (i : Int)), (7, true, .pointer (some ⟨bx, 0, none⟩)), (21, true, .slice (some a) es.length cap), (22, true, .int .i64 (es.length : Int)), (23, true, .int .i64 (i : Int)), (78, true, .slice p.2.k.1 p.1.kids.length p.2.k.2), (79, true, .int .i64 (p.1.kids.length : Int)), (80, true, .int .i64 (m : Int))])
      (fun m => Cls [blk bx 28 [.int .i64 p.1.op, .int .i64 p.1.n, .slice p.2.b.1 p.1.binds.length p.2.b.2, .slice p.2.k.1 p.1.kids.length p.2.k.2, .slice p.2.a.1 p.1.alts.length p.2.a.2], blk bp 3 (ints (outL e i (effP e p.1 m)))] [w]) 0 (by omega) (by exact Sub.au) (fun w' hw' => hw'.thin (.blk ⟨hbt, trivial⟩ (.any (fun k hk => ⟨hk.1, trivial⟩) (.any (fun k hk => ⟨hk.1, trivial⟩) Thin.same)))) ?_
    rintro m hm
    apply W.sr
    apply obn; rfl; rfl; rfl; apply Bin.lss
    apply OL.nx
    apply W.seq
    (refine W.cnd (fun hlt3 => ?_) (fun hlt3 => ?_)) <;> (try (exfalso; first | omega | exact hlt3 trivial | contradiction))
    · have hml : m < p.1.kids.length := by omega
      obtain ⟨ak, k, hqk, habk, hk, hck⟩ := hx.k.get hml
      have habk : ak.block < w.heap.size := habk
      have hkr := hd i _ hpe k (List.mem_of_getElem? hk)
      obtain ⟨kn, rfl⟩ : ∃ kn : Nat, k = (kn : Int) := ⟨k.toNat, by omega⟩
      have hkd : p.1.kids.getD m 0 = (kn : Int) := by rw [List.getD_eq_getElem?_getD, hk]; rfl
      obtain ⟨a', p', hqa', hab', hp', hpe', hcell', hx'⟩ := hget (show kn < es.length by omega)
      obtain rfl := Option.some.inj hqa'
      have hcell' : CellsAt w (a.add ((kn : Int).toNat * 5)) [.int .i64 p'.1.op, .int .i64 p'.1.n, .slice p'.2.b.1 p'.1.binds.length p'.2.b.2, .slice p'.2.k.1 p'.1.kids.length p'.2.k.2, .slice p'.2.a.1 p'.1.alts.length p'.2.a.2] := hcell'
      have hex : exAt e kn = p'.1 := by unfold exAt; rw [List.getD_eq_getElem?_getD, hpe']; rfl
      have hst := effP_succ (e := e) (x := p.1) (m := m)
      rw [hqk]
      have hoi : (ints (outL e i (effP e p.1 m)))[0 + (i : Int).toNat * 1]? = some (.int .i64 (effP e p.1 m)) := by
        have h1 := ints_get (outL_at (e := e) (i := i) (v := effP e p.1 m) (by omega))
        simpa using h1
      have hok2 : (ints (outL e i (effP e p.1 m)))[0 + (kn : Int).toNat * 1]? = some (.int .i64 (effE e kn)) := by
        have h1 := ints_get (outL_low (e := e) (i := i) (k := kn) (v := effP e p.1 m) (by omega) (by omega))
        simpa using h1
      have hoil := outL_length e i (effP e p.1 m)
      apply W.sk
      apply W.sb
      apply W.sr
      apply omv; rfl; rfl
      apply oop; rfl; apply Pev.idx; rfl; exact yes; rfl; exact yes; rfl; rfl; intro hcond; omega
      apply oop; rfl; apply Pev.load_kept; rfl; exact yes; exact .head _; rfl; intro hcond; assumption; intro hcond; (rw [add_block]; assumption); intro hcond; exact NotOwned.au
      apply oas; rfl; rfl
      apply oas; rfl; rfl
      apply OL.nx
      apply W.block
      apply W.seq
      apply W.sr
      apply ofa; rfl; rfl; rfl
      apply old; rfl; rfl; exact .head _; rfl; rfl
      apply obn; rfl; rfl; rfl; apply Bin.eql
      apply oas; rfl; rfl
      apply OL.nx
      refine W.cond rfl (fun hb => ?_) (fun hb => ?_)
      · have p2 : p.1.op = 2 := by simpa using hb
        rw [show conAt e p.1 m = none from if_pos (.inl p2)] at hst
        simp only at hst
        rw [← hst]
        apply W.sk
        refine W.cond rfl (fun _ => ?_) (fun hb => by simp [p2] at hb)
        apply W.skip
        with_reducible apply At.in_normal
        with_reducible apply At.in_normal
        with_reducible apply At.next
        apply W.reg
        apply obn; rfl; rfl; rfl; apply Bin.add_in; omega
        apply omv; rfl; rfl
        apply OL.nil
        exact At.again (m + 1) (by omega) (by omega) (by exact Sub.au) (fun w' hw' => hw')
      have p2 : ¬ p.1.op = 2 := by simpa using hb
      apply W.reg
      apply ofa; rfl; rfl; rfl
      apply old; rfl; rfl; exact .head _; rfl; rfl
      apply obn; rfl; rfl; rfl; apply Bin.eql
      apply omv; rfl; rfl
      apply oy; rfl; rfl; rfl; apply Pev.move; rfl; exact yes
      apply oy; rfl; rfl; rfl; apply Pev.fld; rfl; exact yes; rfl
      apply oy; rfl; rfl; rfl; apply Pev.load_blk; rfl; exact fun h => h; exact .head _; rfl; rfl
      apply oy; rfl; rfl; rfl; apply Pev.len_slice; rfl; exact fun h => h; rfl
      apply oy; rfl; rfl; rfl; apply Pev.bin; rfl; exact fun h => h; rfl; exact fun h => h; intro hcond; apply Bin.lss
      apply oop; rfl; apply Pev.pick_and; rfl; exact yes; rfl; exact fun h => h
      apply oas; rfl; rfl
      apply OL.nx
      refine W.cond rfl (fun hb5 => ?_) (fun hb5 => ?_)
      · have p5 : p.1.op = 5 ∧ m < p.1.binds.length := by
          simp at hb5
          exact ⟨hb5.1, by omega⟩
        rw [show conAt e p.1 m = none from if_pos (.inr p5)] at hst
        simp only at hst
        rw [← hst]
        apply W.skip
        with_reducible apply At.in_normal
        with_reducible apply At.in_normal
        with_reducible apply At.next
        apply W.reg
        apply obn; rfl; rfl; rfl; apply Bin.add_in; omega
        apply omv; rfl; rfl
        apply OL.nil
        exact At.again (m + 1) (by omega) (by omega) (by exact Sub.au) (fun w' hw' => hw')
      have p5 : ¬ (p.1.op = 5 ∧ m < p.1.binds.length) := fun ⟨c1, c2⟩ => by
        simp [c1] at hb5
        omega
      have hcn : conAt e p.1 m = if p.1.op = 3 ∧ m = 0 ∧ p'.1.op = 2 then some (p'.1.kids.getD 0 0).toNat else some kn := by
        unfold conAt
        rw [if_neg (by rintro (h | h); exact p2 h; exact p5 h), hkd, Int.toNat_natCast, hex]
      rw [hcn] at hst
      apply W.sr
      apply ofa; rfl; rfl; rfl
      apply old; rfl; rfl; exact .head _; rfl; rfl
      apply obn; rfl; rfl; rfl; apply Bin.eql
      apply omv; rfl; rfl
      apply oy; rfl; rfl; rfl; apply Pev.move; rfl; exact yes
      apply oy; rfl; rfl; rfl; apply Pev.bin; rfl; exact fun h => h; rfl; exact yes; intro hcond; apply Bin.eql
      apply oop; rfl; apply Pev.pick_and; rfl; exact yes; rfl; exact fun h => h
      apply omv; rfl; rfl
      apply oy; rfl; rfl; rfl; apply Pev.move; rfl; exact yes
      apply oy; rfl; rfl; rfl; apply Pev.move; rfl; exact yes
      apply oy; rfl; rfl; rfl; apply Pev.idx; rfl; exact fun h => h; rfl; exact fun h => h; rfl; rfl; intro hcond; omega
      apply oy; rfl; rfl; rfl; apply Pev.fldA; rfl; exact fun h => h; rfl
      apply oy; rfl; rfl; rfl; apply Pev.load_kept; rfl; exact fun h => h; exact .head _; rfl; intro hcond; apply CellsAt.at_ (by assumption) rfl; intro hcond; (simp only [add_block]; assumption); intro hcond; exact NotOwned.au
      apply oy; rfl; rfl; rfl; apply Pev.bin; rfl; exact fun h => h; rfl; exact yes; intro hcond; apply Bin.eql
      apply oop; rfl; apply Pev.pick_and; rfl; exact yes; rfl; exact fun h => h
      apply oas; rfl; rfl
      apply OL.nx
      refine W.cond rfl (fun hb3 => ?_) (fun hb3 => ?_)
      · have p3 : p.1.op = 3 ∧ m = 0 ∧ p'.1.op = 2 := by
          simp at hb3
          exact ⟨hb3.1.1, by omega, hb3.2⟩
        have hl1 := hlam _ _ hpe' p3.2.2
        obtain ⟨aj, kj, hqj, habj, hkj, hcj⟩ := hx'.k.get (i := 0) (by omega)
        have habj : aj.block < w.heap.size := habj
        have hcj : w.cell? (aj.add ((0 : Int).toNat * 1)) = some (.int .i64 kj) := hcj
        have hrj := hd kn _ hpe' kj (List.mem_of_getElem? hkj)
        obtain ⟨kjn, rfl⟩ : ∃ kjn : Nat, kj = (kjn : Int) := ⟨kj.toNat, by omega⟩
        have hok3 : (ints (outL e i (effP e p.1 m)))[0 + (kjn : Int).toNat * 1]? = some (.int .i64 (effE e kjn)) := by
          have h1 := ints_get (outL_low (e := e) (i := i) (k := kjn) (v := effP e p.1 m) (by omega) (by omega))
          simpa using h1
        rw [if_pos p3, show (p'.1.kids.getD 0 0).toNat = kjn by rw [List.getD_eq_getElem?_getD, hkj]; rfl] at hst
        simp only at hst
        rw [hqj] at hcell'
        apply W.regq; apply Split.s rfl; apply Split.s rfl; apply Split.s rfl; apply Split.s rfl; apply Split.s rfl; apply Split.s rfl; apply Split.s rfl; apply Split.s rfl; apply Split.s rfl; apply Split.s rfl; apply Split.s rfl; apply Split.s rfl; apply Split.s rfl; apply Split.s rfl; apply Split.s rfl; apply Split.s rfl; exact Split.z rfl; kernel_rfl; decide +kernel; exact fun w hw => hw.drew
        apply qmv; rfl; rfl
        apply qmv; rfl; rfl
        apply qop; rfl; apply Pev.idxB; rfl; exact yes; rfl; exact yes; rfl; intro hcond; omega; rfl
        apply qop; rfl; apply Pev.load_blk; rfl; exact yes; exact .tail _ (.head _); rfl; assumption
        apply qmv; rfl; rfl
        apply qmv; rfl; rfl
        apply qmv; rfl; rfl
        apply qop; rfl; apply Pev.idx; rfl; exact yes; rfl; exact yes; rfl; rfl; intro hcond; omega
        apply qop; rfl; apply Pev.fldA; rfl; exact yes; rfl
        apply qop; rfl; apply Pev.load_kept; rfl; exact yes; exact .head _; rfl; intro hcond; apply CellsAt.at_ (by assumption) rfl; intro hcond; (simp only [add_block]; assumption); intro hcond; exact NotOwned.au
        apply qop; rfl; apply Pev.idx; rfl; exact yes; rfl; exact yes; rfl; rfl; intro hcond; (simp only [Bool.and_eq_true, Bool.or_eq_true, Bool.not_eq_true', decide_eq_true_eq, decide_eq_false_iff_not] at *; omega)
        apply qop; rfl; apply Pev.load_kept; rfl; exact yes; exact .head _; rfl; intro hcond; assumption; intro hcond; assumption; intro hcond; exact NotOwned.au
        apply qop; rfl; apply Pev.idxB; rfl; exact yes; rfl; exact yes; rfl; intro hcond; omega; rfl
        apply qop; rfl; apply Pev.load_blk; rfl; exact yes; exact .tail _ (.head _); rfl; assumption
        apply qbn; rfl; rfl; rfl; apply Bin.or
        apply qop; rfl; apply Pev.idxB; rfl; exact yes; rfl; exact yes; rfl; intro hcond; omega; rfl
        with_reducible apply QL.tail
        (apply OL.storeI); rfl; rfl; rfl; rfl; rfl; (exact Swap.au); (rw [ints_length, outL_length]; omega)
        have hset : (ints (outL e i (effP e p.1 m))).set (0 + (i : Int).toNat * 1) (.int .i64 (bits .or .i64 (effP e p.1 m) (effE e kjn))) = ints (outL e i (effP e p.1 (m + 1))) := by
          rw [show 0 + (i : Int).toNat * 1 = i by simp, hst]
          exact (ints_set _ _ _).trans (by rw [outL_set]; rfl)
        rw [hset]
        apply OL.nil
        with_reducible apply At.in_normal
        with_reducible apply At.in_normal
        with_reducible apply At.next
        apply W.reg
        apply obn; rfl; rfl; rfl; apply Bin.add_in; omega
        apply omv; rfl; rfl
        apply OL.nil
        exact At.again (m + 1) (by omega) (by omega) (by exact Sub.au) (fun w' hw' => hw')
      · have p3 : ¬ (p.1.op = 3 ∧ m = 0 ∧ p'.1.op = 2) := fun ⟨c1, c2, c3⟩ => by
          simp [c1, c2, c3] at hb3
        rw [if_neg p3] at hst
        simp only at hst
        apply W.regq; apply Split.s rfl; apply Split.s rfl; apply Split.s rfl; apply Split.s rfl; apply Split.s rfl; apply Split.s rfl; apply Split.s rfl; apply Split.s rfl; apply Split.s rfl; apply Split.s rfl; exact Split.z rfl; kernel_rfl; decide +kernel; exact fun w hw => hw.drew
        apply qmv; rfl; rfl
        apply qmv; rfl; rfl
        apply qop; rfl; apply Pev.idxB; rfl; exact yes; rfl; exact yes; rfl; intro hcond; omega; rfl
        apply qop; rfl; apply Pev.load_blk; rfl; exact yes; exact .tail _ (.head _); rfl; assumption
        apply qmv; rfl; rfl
        apply qmv; rfl; rfl
        apply qop; rfl; apply Pev.idxB; rfl; exact yes; rfl; exact yes; rfl; intro hcond; omega; rfl
        apply qop; rfl; apply Pev.load_blk; rfl; exact yes; exact .tail _ (.head _); rfl; assumption
        apply qbn; rfl; rfl; rfl; apply Bin.or
        apply qop; rfl; apply Pev.idxB; rfl; exact yes; rfl; exact yes; rfl; intro hcond; omega; rfl
        with_reducible apply QL.tail
        (apply OL.storeI); rfl; rfl; rfl; rfl; rfl; (exact Swap.au); (rw [ints_length, outL_length]; omega)
        have hset : (ints (outL e i (effP e p.1 m))).set (0 + (i : Int).toNat * 1) (.int .i64 (bits .or .i64 (effP e p.1 m) (effE e kn))) = ints (outL e i (effP e p.1 (m + 1))) := by
          rw [show 0 + (i : Int).toNat * 1 = i by simp, hst]
          exact (ints_set _ _ _).trans (by rw [outL_set]; rfl)
        rw [hset]
        apply OL.nil
        with_reducible apply At.in_normal
        with_reducible apply At.in_normal
        with_reducible apply At.next
        apply W.reg
        apply obn; rfl; rfl; rfl; apply Bin.add_in; omega
        apply omv; rfl; rfl
        apply OL.nil
        exact At.again (m + 1) (by omega) (by omega) (by exact Sub.au) (fun w' hw' => hw')
    · obtain rfl : m = p.1.kids.length := by omega
      rw [← effE_eq hd hlam hpe, outL_next]
      refine W.xt ?_
      with_reducible apply At.in_normal
      with_reducible apply At.next
      apply W.reg
      apply obn; rfl; rfl; rfl; apply Bin.add_in; omega
      apply omv; rfl; rfl
      apply OL.nil
      exact At.again (i + 1) (by omega) (by omega) (by exact Sub.au) (fun w' hw' => hw'.thin (by exact Thin.au))
  · obtain rfl : i = es.length := by omega
    rw [← hel, outL_end]
    refine W.xt ?_
    with_reducible apply At.next
    apply W.sr
    apply omv; rfl; rfl
    apply oas; rfl; rfl
    apply oas; rfl; rfl
    apply OL.nx
    apply W.ret
    ((with_reducible apply At.fin2); rfl; rfl; rfl; intro w' hw')
    refine ⟨(List.range e.length).map (effE e), some ⟨bp, 0, none⟩, e.length, by simp, by (exact hw'.fr), fun h => absurd rfl h, fun _ => by rw [hel], fun hl => ?_⟩
    have hb9 := hw'.item (.head _)
    refine ⟨⟨bp, 0, none⟩, rfl, blk_lt hb9, fun j v hj => ?_⟩
    rw [add_mid, blk_cell hb9, Nat.zero_add]
    exact hj
end Go.Proofs.YtlboppiogeaicaaDoor.co

/- The walks of the reference's isWord, primEffects and caseSafe. Conditions: none. -/
namespace Go.Proofs.YtlboppiogeaicaaDoor.co
open Go.RowKit Go.Eng Go.Co
set_option linter.unusedVariables false
set_option linter.unusedSimpArgs false
set_option maxRecDepth 100000
theorem isWord_calls (es : List (Ex × ExY)) (q : Option Addr) (cap k : Nat) (p : Ex × ExY) (w : World) (he : Arr exR w (low w) es q) (hk : es[k]? = some p) (hlen : es.length ≤ 4096) (hn : p.1.op = 8 → 0 ≤ p.1.n) :
    Calls Tryd.prog 87 [.slice q es.length cap, .int .i64 (k : Int)].toArray w fun e w' => e = .returned (.bool (wordS (snOf p.1))) ∧ Ext w w' := by
  have hkl := (List.getElem?_eq_some_iff.1 hk).1
  obtain ⟨a, p', rfl, hab, hp, hcell, hx⟩ := he.get hkl
  rw [hk] at hp
  obtain rfl := Option.some.inj hp
  have hab : a.block < w.heap.size := hab
  have hcell : CellsAt w (a.add ((k : Int).toNat * 5)) [.int .i64 p.1.op, .int .i64 p.1.n, .slice p.2.b.1 p.1.binds.length p.2.b.2, .slice p.2.k.1 p.1.kids.length p.2.k.2, .slice p.2.a.1 p.1.alts.length p.2.a.2] := by rw [Int.toNat_natCast]; exact hcell
  refine enter Tryd.func87 rfl Tryd.ntmps87 rfl (Cls.start w) ?_
  (simp only [argEnv, Nat.zero_add, Nat.reduceAdd])
  by_cases h8 : p.1.op = 8
  · have d1 : decide (p.1.op = 1) = false := by simp [h8]
    have d8 : decide (p.1.op = 8) = true := by simp [h8]
    apply W.sr
    apply oas; rfl; rfl
    apply OL.nsr
    apply omv; rfl; rfl
    apply omv; rfl; rfl
    apply oop; rfl; apply Pev.idx; rfl; exact yes; rfl; exact yes; rfl; rfl; intro hcond; omega
    apply oop; rfl; apply Pev.load_keptA; rfl; exact yes; exact .head _; rfl; intro hcond; assumption; rfl; intro hcond; (rw [add_block]; assumption); intro hcond; exact NotOwned.au
    apply OL.alloc; rfl; rfl; exact CellsL.agg; (intro bk hbk; simp only [AllLe, and_true] at hbk)
    apply OL.storeB; rfl; rfl; exact CellsL.agg; rfl; rfl; rfl; exact Swap.au; exact Put.au
    apply OL.nsr
    apply ofa; rfl; rfl; rfl
    apply old; rfl; rfl; exact .head _; rfl; rfl
    apply obn; rfl; rfl; rfl; apply Bin.eql
    apply omv; rfl; rfl
    apply ono; rfl; rfl; rfl; apply Pev.fld; rfl; exact yes; rfl
    apply ono; rfl; rfl; rfl; apply Pev.load_blk; rfl; exact fun h => h; exact .head _; rfl; rfl
    apply ono; rfl; rfl; rfl; apply Pev.bin; rfl; exact fun h => h; rfl; exact yes; intro hcond; apply Bin.eql
    apply ono; rfl; rfl; rfl; apply Pev.move; rfl; exact fun h => h
    simp only [d1, d8, Bool.not_false]
    ((apply OL.ungate); (exact Guard.au); rfl)
    apply OL.buildSlice; rfl; rfl; rfl; exact Elems.au; rfl; rfl; (intro bk hbk; simp only [AllLe, and_true] at hbk)
    apply oy; rfl; rfl; rfl; apply Pev.fld; rfl; exact yes; rfl
    apply oy; rfl; rfl; rfl; apply Pev.load_blk; rfl; exact yes; exact .tail _ (.head _); rfl; rfl
    revert bk
    intro b9 hb9
    (((first | (with_reducible apply OL.op) | (with_reducible apply QL.op)); (exact Guard.au); rfl; rfl); (exact Pev.call (v := .bool (decide (p.1.n ∈ [0, 1, 2, 3, 4, 9]))) rfl (by exact Args.au) (fun _ w2 hw2 => (In_calls (some ⟨b9, 0, none⟩) 6 [0, 1, 2, 3, 4, 9] p.1.n w2 (by simp) (fun _ => ⟨_, rfl, blk_lt (hw2.item (.head _)), fun j v hj => by rw [add_mid, blk_cell (hw2.item (.head _)), Nat.zero_add]; exact hj⟩)).mono (fun e w3 h => ⟨h.1, hw2.ext h.2⟩))))
    apply ono; rfl; rfl; rfl; apply Pev.pick_and; rfl; exact yes; rfl; exact yes
    apply oop; rfl; apply Pev.pick_or; rfl; exact yes; rfl; exact yes
    apply oas; rfl; rfl
    apply OL.nx
    apply W.ret
    ((with_reducible apply At.fin1); rfl; rfl; intro w' hw')
    refine ⟨?_, by (exact hw'.fr)⟩
    have h0 := hn h8
    have hw : wordS (snOf p.1) = decide (p.1.n ∈ [0, 1, 2, 3, 4, 9]) := by
      unfold wordS snOf
      rw [Bool.eq_iff_iff]
      simp only [h8, Bool.or_eq_true, Bool.and_eq_true, decide_eq_true_eq, List.mem_cons, List.not_mem_nil, or_false]
      constructor
      · rintro (h | ⟨_, h⟩) <;> omega
      · intro h
        exact .inr ⟨by simp, by omega⟩
    rw [hw]
    simp
  · have d8 : decide (p.1.op = 8) = false := by simp [h8]
    apply W.sr
    apply oas; rfl; rfl
    apply OL.nsr
    apply omv; rfl; rfl
    apply omv; rfl; rfl
    apply oop; rfl; apply Pev.idx; rfl; exact yes; rfl; exact yes; rfl; rfl; intro hcond; omega
    apply oop; rfl; apply Pev.load_keptA; rfl; exact yes; exact .head _; rfl; intro hcond; assumption; rfl; intro hcond; (rw [add_block]; assumption); intro hcond; exact NotOwned.au
    apply OL.alloc; rfl; rfl; exact CellsL.agg; (intro bk hbk; simp only [AllLe, and_true] at hbk)
    apply OL.storeB; rfl; rfl; exact CellsL.agg; rfl; rfl; rfl; exact Swap.au; exact Put.au
    apply OL.nsr
    apply ofa; rfl; rfl; rfl
    apply old; rfl; rfl; exact .head _; rfl; rfl
    apply obn; rfl; rfl; rfl; apply Bin.eql
    apply omv; rfl; rfl
    apply ono; rfl; rfl; rfl; apply Pev.fld; rfl; exact yes; rfl
    apply ono; rfl; rfl; rfl; apply Pev.load_blk; rfl; exact fun h => h; exact .head _; rfl; rfl
    apply ono; rfl; rfl; rfl; apply Pev.bin; rfl; exact fun h => h; rfl; exact yes; intro hcond; apply Bin.eql
    apply ono; rfl; rfl; rfl; apply Pev.move; rfl; exact fun h => h
    apply OL.gateOff; exact Guard.cyes rfl rfl; (simp; omega); rfl
    apply OL.op; exact Guard.cyes rfl rfl; rfl; rfl; apply Pev.fld; rfl; exact yes; rfl
    apply OL.op; exact Guard.cyes rfl rfl; rfl; rfl; apply Pev.load_blk; rfl; exact fun h => h; exact .head _; rfl; rfl
    apply OL.gateOff; exact Guard.cyes rfl rfl; (simp; omega); rfl
    apply ono; rfl; rfl; rfl; apply Pev.pick_off; rfl; exact fun h => h; (intro hcond; simp; omega); rfl; exact yes
    apply oop; rfl; apply Pev.pick_or; rfl; exact yes; rfl; exact fun h => h
    apply oas; rfl; rfl
    apply OL.nx
    apply W.ret
    ((with_reducible apply At.fin1); rfl; rfl; intro w' hw')
    refine ⟨?_, by (exact hw'.fr)⟩
    unfold wordS snOf
    simp [h8]
theorem caseSafe_calls (es : List (Ex × ExY)) (q : Option Addr) (cap : Nat) (x : Ex) (y : ExY) (k : Nat) (p : Ex × ExY) (w : World) (he : Arr exR w (low w) es q) (hlen : es.length ≤ 4096) (hx : ExOk w (low w) x y) (hkd : x.kids[0]? = some (k : Int)) (hk : es[k]? = some p) :
    Calls Tryd.prog 54 [.slice q es.length cap, .agg (exC x y).toArray].toArray w fun e w' => e = .returned (.bool (condS (snOf p.1) x.alts)) ∧ Ext w w' := by
  have hkl := (List.getElem?_eq_some_iff.1 hk).1
  obtain ⟨a, p', rfl, hab, hp, hcell, hxp⟩ := he.get hkl
  rw [hk] at hp
  obtain rfl := Option.some.inj hp
  have hab : a.block < w.heap.size := hab
  have hcell : CellsAt w (a.add ((k : Int).toNat * 5)) [.int .i64 p.1.op, .int .i64 p.1.n, .slice p.2.b.1 p.1.binds.length p.2.b.2, .slice p.2.k.1 p.1.kids.length p.2.k.2, .slice p.2.a.1 p.1.alts.length p.2.a.2] := by rw [Int.toNat_natCast]; exact hcell
  have hk0 := (List.getElem?_eq_some_iff.1 hkd).1
  obtain ⟨ak, k', hqk, habk, hk', hck⟩ := hx.k.get hk0
  rw [hkd] at hk'
  obtain rfl := Option.some.inj hk'
  have habk : ak.block < w.heap.size := habk
  have hck : w.cell? (ak.add ((0 : Int).toNat * 1)) = some (.int .i64 (k : Int)) := hck
  obtain ⟨ps, hps, harr⟩ := hx.alts
  have hpl : x.alts.length = ps.length := by rw [← hps, List.length_map]
  have hal := hx.al
  refine enter Tryd.func54 rfl Tryd.ntmps54 rfl (Cls.start w) ?_
  (simp only [argEnv, Nat.zero_add, Nat.reduceAdd])
  simp only [exC, hqk]
  apply W.sr
  apply OL.box; rfl; rfl; exact CellsL.agg; (intro bk hbk; simp only [AllLe, and_true] at hbk)
  apply oas; rfl; rfl
  apply OL.nsr
  apply omv; rfl; rfl
  apply ofa; rfl; rfl; rfl
  apply old; rfl; rfl; exact .head _; rfl; rfl
  apply oop; rfl; apply Pev.idx; rfl; exact yes; rfl; exact yes; rfl; rfl; intro hcond; omega
  apply oop; rfl; apply Pev.load_kept; rfl; exact yes; exact .head _; rfl; intro hcond; assumption; intro hcond; assumption; intro hcond; exact NotOwned.au
  apply oop; rfl; apply Pev.idx; rfl; exact yes; rfl; exact yes; rfl; rfl; intro hcond; omega
  apply oop; rfl; apply Pev.load_keptA; rfl; exact yes; exact .head _; rfl; intro hcond; assumption; rfl; intro hcond; (rw [add_block]; assumption); intro hcond; exact NotOwned.au
  apply OL.alloc; rfl; rfl; exact CellsL.agg; (intro bk hbk; simp only [AllLe, and_true] at hbk)
  apply OL.storeB; rfl; rfl; exact CellsL.agg; rfl; rfl; rfl; exact Swap.au; exact Put.au
  apply OL.nx
  apply W.seq
  apply W.sr
  apply ofa; rfl; rfl; rfl
  apply old; rfl; rfl; exact .head _; rfl; rfl
  apply obn; rfl; rfl; rfl; apply Bin.neq
  apply omv; rfl; rfl
  apply ono; rfl; rfl; rfl; apply Pev.fld; rfl; exact yes; rfl
  apply ono; rfl; rfl; rfl; apply Pev.load_blk; rfl; exact fun h => h; exact .head _; rfl; rfl
  apply ono; rfl; rfl; rfl; apply Pev.bin; rfl; exact fun h => h; rfl; exact yes; intro hcond; apply Bin.neq
  apply ono; rfl; rfl; rfl; apply Pev.move; rfl; exact fun h => h
  apply OL.op; exact Guard.cyes rfl rfl; rfl; rfl; apply Pev.fld; rfl; exact yes; rfl
  apply OL.op; exact Guard.cyes rfl rfl; rfl; rfl; apply Pev.load_blk; rfl; exact fun h => h; exact .head _; rfl; rfl
  apply OL.op; exact Guard.cyes rfl rfl; rfl; rfl; apply Pev.bin; rfl; exact fun h => h; rfl; exact yes; intro hcond; apply Bin.neq
  apply ono; rfl; rfl; rfl; apply Pev.pick_and; rfl; exact fun h => h; rfl; exact fun h => h
  apply oop; rfl; apply Pev.pick_or; rfl; exact yes; rfl; exact fun h => h
  apply OL.nx
  refine W.cond rfl (fun hc => ?_) (fun hc => ?_)
  · apply W.sr
    apply oas; rfl; rfl
    apply OL.nx
    refine W.rt ?_
    ((with_reducible apply At.fin1); rfl; rfl; intro w' hw')
    refine ⟨?_, by (exact hw'.fr)⟩
    unfold condS snOf
    by_cases a1 : p.1.op = 8 <;> by_cases a2 : p.1.n = 5 <;> by_cases a3 : p.1.n = 6 <;> simp [a1, a2, a3] at hc ⊢
  have hcs : condS (snOf p.1) x.alts = condL x.alts 0 := by
    unfold condS snOf
    by_cases a1 : p.1.op = 8 <;> by_cases a2 : p.1.n = 5 <;> by_cases a3 : p.1.n = 6 <;> simp [a1, a2, a3] at hc ⊢
  rw [hcs]
  apply W.sk
  apply W.sr
  apply oas; rfl; rfl
  apply OL.nx
  apply W.seq
  apply W.sr
  apply ofa; rfl; rfl; rfl
  apply old; rfl; rfl; exact .tail _ (.head _); rfl; rfl
  apply oop; rfl; apply Pev.len_slice; rfl; exact yes; rfl
  apply omv; rfl; rfl
  apply OL.nx
  apply W.block
  refine W.loop (G := Nat × Nat) (fun g => g.1 ≤ ps.length ∧ g.2 ≤ g.1 ∧ condL x.alts 0 = condL (x.alts.drop g.1) g.2) (fun g => ps.length - g.1)
    (fun g => [(6, true, .int .i64 (g.2 : Int)), (30, true, .slice y.a.1 x.alts.length y.a.2), (31, true, .int .i64 (x.alts.length : Int)), (32, true, .int .i64 (g.1 : Int))])
    (fun _ => Cls [] [w]) (0, 0) ⟨by simp, by simp, by simp⟩ (by exact Sub.au) (fun w' hw' => hw'.thin (by exact Thin.au)) ?_
  rintro ⟨i, c⟩ ⟨hi, hc1, hrest⟩
  simp only at hi hc1 hrest ⊢
  apply W.sr
  apply obn; rfl; rfl; rfl; apply Bin.lss
  apply OL.nx
  apply W.seq
  (refine W.cnd (fun hlt => ?_) (fun hlt => ?_)) <;> (try (exfalso; first | omega | exact hlt trivial | contradiction))
  · obtain ⟨av, u, hqv, habv, hu, hcv, hoku⟩ := harr.get (show i < ps.length by omega)
    have habv : av.block < w.heap.size := habv
    have hcv : CellsAt w (av.add (i * 2)) [.int .i64 u.1.tag, .slice u.2.1 u.1.binds.length u.2.2] := hcv
    have hx9 : x.alts[i]? = some u.1 := by rw [← hps, List.getElem?_map, hu]; rfl
    rw [condL_drop hx9] at hrest
    rw [hqv]
    apply W.sk
    apply W.sb
    apply W.sr
    apply oop; rfl; apply Pev.idx; rfl; exact yes; rfl; exact yes; rfl; rfl; intro hcond; omega
    apply oop; rfl; apply Pev.load_keptA; rfl; exact yes; exact .head _; rfl; intro hcond; assumption; rfl; intro hcond; (rw [add_block]; assumption); intro hcond; exact NotOwned.au
    apply OL.alloc; rfl; rfl; exact CellsL.agg; (intro bk hbk; simp only [AllLe, and_true] at hbk)
    apply OL.storeB; rfl; rfl; exact CellsL.agg; rfl; rfl; rfl; exact Swap.au; exact Put.au
    apply OL.nx
    apply W.seq
    apply W.sr
    apply ofa; rfl; rfl; rfl
    apply old; rfl; rfl; exact .head _; rfl; rfl
    apply obn; rfl; rfl; rfl; apply Bin.eql
    apply OL.nx
    revert bk
    intro bx hbx
    (refine W.cnd (fun ht1 => ?_) (fun ht1 => ?_)) <;> (try (exfalso; first | omega | exact ht1 trivial | contradiction))
    · apply W.sr
      apply oas; rfl; rfl
      apply OL.nx
      refine W.rt ?_
      ((with_reducible apply At.fin1); rfl; rfl; intro w' hw')
      exact ⟨by rw [hrest, if_pos ht1], by (exact hw'.fr)⟩
    rw [if_neg ht1] at hrest
    apply W.sk
    apply W.seq
    apply W.sr
    apply ofa; rfl; rfl; rfl
    apply old; rfl; rfl; exact .head _; rfl; rfl
    apply obn; rfl; rfl; rfl; apply Bin.lss
    apply omv; rfl; rfl
    apply oy; rfl; rfl; rfl; apply Pev.fld; rfl; exact yes; rfl
    apply oy; rfl; rfl; rfl; apply Pev.load_blk; rfl; exact fun h => h; exact .head _; rfl; rfl
    apply oy; rfl; rfl; rfl; apply Pev.len_slice; rfl; exact fun h => h; rfl
    apply oy; rfl; rfl; rfl; apply Pev.bin; rfl; exact fun h => h; rfl; exact yes; intro hcond; apply Bin.gtr
    apply oop; rfl; apply Pev.pick_and; rfl; exact yes; rfl; exact fun h => h
    apply OL.nx
    refine W.cond rfl (fun hc2 => ?_) (fun hc2 => ?_)
    · have h5 : u.1.tag ≤ 1 ∧ ¬ u.1.binds.length = 0 := by
        by_cases a1 : u.1.tag < 2
        · simp [a1] at hc2
          refine ⟨by omega, fun h => ?_⟩
          have a3 : u.1.binds = [] := List.eq_nil_of_length_eq_zero h
          simp [a3] at hc2
        · simp [a1] at hc2
      rw [if_neg (fun h => h5.2 h.2), if_pos h5.1] at hrest
      apply W.sr
      apply oas; rfl; rfl
      apply OL.nx
      refine W.rt ?_
      ((with_reducible apply At.fin1); rfl; rfl; intro w' hw')
      exact ⟨by rw [hrest], by (exact hw'.fr)⟩
    apply W.sk
    apply W.sr
    apply ofa; rfl; rfl; rfl
    apply old; rfl; rfl; exact .head _; rfl; rfl
    apply obn; rfl; rfl; rfl; apply Bin.lss
    apply OL.nx
    (refine W.cnd (fun ht2 => ?_) (fun ht2 => ?_)) <;> (try (exfalso; first | omega | exact ht2 trivial | contradiction))
    · have h0 : u.1.binds.length = 0 := by
        have a1 : u.1.tag < 2 := by omega
        simp [a1] at hc2
        first | omega | (simp [hc2])
      rw [if_pos ⟨by omega, h0⟩] at hrest
      apply W.reg
      apply omv; rfl; rfl
      apply obn; rfl; rfl; rfl; apply Bin.add_in; omega
      apply oas; rfl; rfl
      apply OL.nil
      with_reducible apply At.in_normal
      with_reducible apply At.next
      apply W.reg
      apply obn; rfl; rfl; rfl; apply Bin.add_in; omega
      apply omv; rfl; rfl
      apply OL.nil
      exact At.again (i + 1, c + 1) ⟨by simp only; omega, by simp only; omega, hrest⟩ (by simp only; omega) (by exact Sub.au) (fun w' hw' => hw'.thin (by exact Thin.au))
    · rw [if_neg (by omega), if_neg (by omega)] at hrest
      apply W.skip
      with_reducible apply At.in_normal
      with_reducible apply At.next
      apply W.reg
      apply obn; rfl; rfl; rfl; apply Bin.add_in; omega
      apply omv; rfl; rfl
      apply OL.nil
      exact At.again (i + 1, c) ⟨by simp only; omega, by simp only; omega, hrest⟩ (by simp only; omega) (by exact Sub.au) (fun w' hw' => hw'.thin (by exact Thin.au))
  · obtain rfl : i = ps.length := by omega
    rw [List.drop_eq_nil_of_le (by omega), condL] at hrest
    refine W.xt ?_
    with_reducible apply At.next
    apply W.sr
    apply omv; rfl; rfl
    apply obn; rfl; rfl; rfl; apply Bin.eql
    apply oas; rfl; rfl
    apply OL.nx
    apply W.ret
    ((with_reducible apply At.fin1); rfl; rfl; intro w' hw')
    refine ⟨?_, by (exact hw'.fr)⟩
    rw [hrest]
    by_cases a1 : c = 2
    · simp [a1]
    · have : ¬ (c : Int) = 2 := by omega
      simp [a1, this]
end Go.Proofs.YtlboppiogeaicaaDoor.co

/- The walks of the reference's primEffects and EffectsOf. Conditions: none. -/
namespace Go.Co
open Go.Eng Go.RowKit
set_option linter.unusedVariables false
set_option linter.unusedSimpArgs false
theorem exAt_get {e : List Ex} {k : Nat} {x : Ex} (h : e[k]? = some x) : exAt e k = x := by unfold exAt; rw [List.getD_eq_getElem?_getD, h]; rfl
theorem kidS_get {e : List Ex} {x : Ex} {m k : Nat} {z : Ex} (h : x.kids[m]? = some (k : Int)) (hz : e[k]? = some z) : (kidS e x).getD m sn0 = snOf z := by
  rw [List.getD_eq_getElem?_getD]
  unfold kidS
  rw [List.getElem?_map, h]
  simp [exAt_get hz]
theorem prim_pos {e : List Ex} {x : Ex} (h : nodeE e x = 0) (hop : x.op = 8) : 0 ≤ x.n := by
  have h1 := (nodeE_zero h).1
  unfold shapeB at h1
  rw [if_neg (by omega)] at h1
  unfold sh at h1
  rw [if_neg (by omega), if_neg (by omega), if_neg (by omega), if_neg (by omega), if_neg (by omega), if_neg (by omega), if_pos hop] at h1
  split at h1
  · cases h1
  · rename_i hs
    split at hs
    · rename_i h2
      exact h2.1
    · cases hs
theorem effE_lam {e : List Ex} (hd : Down e) (hl : LamOk e) {i : Nat} {x : Ex} (hx : e[i]? = some x) (hop : x.op = 2) : effE e i = 0 := by
  rw [effE_eq hd hl hx]
  have h1 : ∀ m, conN e x m = [] := fun m => by
    unfold conN
    rw [List.filterMap_eq_nil_iff]
    intro k _
    exact if_pos (.inl hop)
  unfold effP
  rw [h1]
  show ownX e x = 0
  unfold ownX ownS
  rw [if_neg (by omega), if_neg (by omega), if_neg (by omega), if_neg (by omega), if_neg (by omega), if_neg (by omega), if_neg (by omega)]
theorem effP_all {e : List Ex} (hd : Down e) (hl : LamOk e) {x : Ex} (h : ownX e x = 63) : ∀ m, effP e x m = 63 := by
  intro m
  unfold effP
  rw [h]
  generalize conN e x m = l
  induction l with
  | nil => rfl
  | cons j r ih =>
    rw [List.foldl_cons, (Six.or (a := 63) ⟨by omega, by omega⟩ (effE_six hd hl j)).2.2.2]
    exact ih
structure KS where
  o : Nat
  qq : Option Addr
  cc : Nat
  v : Int
/-- what is added up so far -/
def AccOk (e : List Ex) (x : Ex) (m : Nat) (v : Int) : Prop :=
  (v = effP e x m ∧ (m = 0 → ¬ (x.op = 3 ∧ (exAt e (x.kids.getD 0 0).toNat).op = 2))) ∨ (m = 0 ∧ x.op = 3 ∧ (exAt e (x.kids.getD 0 0).toNat).op = 2 ∧ v = effP e x 1)
theorem AccOk.step {e : List Ex} (hd : Down e) (hl : LamOk e) {x : Ex} {m j : Nat} {v : Int} (h : AccOk e x m v) (h2 : ¬ x.op = 2) (h5 : x.op = 5 → x.binds.length ≤ m) (hj : x.kids[m]? = some (j : Int)) {z : Ex} (hz : e[j]? = some z) (hv : Six v) : AccOk e x (m + 1) (orI v (effE e j)) := by
  have hkd : x.kids.getD m 0 = (j : Int) := by rw [List.getD_eq_getElem?_getD, hj]; rfl
  refine .inl ⟨?_, fun h => by omega⟩
  rcases h with ⟨rfl, h0⟩ | ⟨rfl, h3, hlam, rfl⟩
  · have hc : conAt e x m = some j := by
      unfold conAt
      rw [if_neg (by rintro (h | h); exact h2 h; have := h5 h.1; omega), if_neg, hkd, Int.toNat_natCast]
      rintro ⟨a1, a2, a3⟩
      subst a2
      exact h0 rfl ⟨a1, a3⟩
    rw [effP_succ, hc]
  · rw [hkd, Int.toNat_natCast, exAt_get hz] at hlam
    rw [effE_lam hd hl hz hlam]
    exact (Six.or hv (b := 0) ⟨by omega, by omega⟩).2.2.1
theorem AccOk.six {e : List Ex} (hd : Down e) (hl : LamOk e) {x : Ex} {m : Nat} {v : Int} (h : AccOk e x m v) : Six v := by
  rcases h with ⟨rfl, _⟩ | ⟨_, _, _, rfl⟩
  · exact effP_six fun j _ => effE_six hd hl j
  · exact effP_six fun j _ => effE_six hd hl j
end Go.Co
namespace Go.Proofs.YtlboppiogeaicaaDoor.co
open Go.RowKit Go.Eng Go.Co
set_option linter.unusedVariables false
set_option linter.unusedSimpArgs false
set_option maxRecDepth 100000
set_option maxHeartbeats 1000000 in
theorem primEffects_calls (es : List (Ex × ExY)) (e : List Ex) (hee : es.map Prod.fst = e) (q : Option Addr) (cap : Nat) (x : Ex) (y : ExY) (w : World) (he : Arr exR w (low w) es q) (hlen : es.length ≤ 4096) (hx : ExOk w (low w) x y) (hnd : ∀ z ∈ e, nodeE e z = 0) (hkr : ∀ k ∈ x.kids, 0 ≤ k ∧ k < (es.length : Int)) (hk2 : ¬ (x.n = 7 ∨ x.n = 9) → 2 ≤ x.kids.length) :
    Calls Tryd.prog 53 [.slice q es.length cap, .agg (exC x y).toArray].toArray w fun e1 w' => e1 = .returned (.int .i64 (primS x.n (kidS e x))) ∧ Ext w w' := by
  have hel : e.length = es.length := by rw [← hee, List.length_map]
  refine enter Tryd.func53 rfl Tryd.ntmps53 rfl (Cls.start w) ?_
  (simp only [argEnv, Nat.zero_add, Nat.reduceAdd])
  simp only [exC]
  apply W.sr
  apply OL.box; rfl; rfl; exact CellsL.agg; (intro bk hbk; simp only [AllLe, and_true] at hbk)
  apply oas; rfl; rfl
  apply OL.nx
  apply W.seq
  apply W.sr
  apply ofa; rfl; rfl; rfl
  apply old; rfl; rfl; exact .head _; rfl; rfl
  apply OL.nx
  apply W.block
  apply W.sr
  apply obn; rfl; rfl; rfl; apply Bin.eql
  apply oas; rfl; rfl
  apply OL.nx
  (refine W.cnd (fun h7 => ?_) (fun h7 => ?_)) <;> (try (exfalso; first | omega | exact h7 trivial | contradiction))
  · apply W.sr
    apply oas; rfl; rfl
    apply OL.nx
    refine W.rt ?_
    ((with_reducible apply At.fin1); rfl; rfl; intro w' hw')
    exact ⟨by rw [h7]; rfl, by (exact hw'.fr)⟩
  apply W.seq
  apply W.sr
  apply obn; rfl; rfl; rfl; apply Bin.eql
  apply oas; rfl; rfl
  apply OL.nx
  (refine W.cnd (fun h8 => ?_) (fun h8 => ?_)) <;> (try (exfalso; first | omega | exact h8 trivial | contradiction))
  · apply W.sk
    refine W.cond rfl (fun _ => ?_) (fun hb => by simp [h8] at hb)
    apply W.sr
    apply oas; rfl; rfl
    apply OL.nx
    refine W.rt ?_
    ((with_reducible apply At.fin1); rfl; rfl; intro w' hw')
    exact ⟨by rw [h8]; rfl, by (exact hw'.fr)⟩
  apply W.reg
  apply obn; rfl; rfl; rfl; apply Bin.eql
  apply oas; rfl; rfl
  apply OL.nx
  (refine W.cnd (fun h11 => ?_) (fun h11 => ?_)) <;> (try (exfalso; first | omega | exact h11 trivial | contradiction))
  · apply W.sr
    apply oas; rfl; rfl
    apply OL.nx
    refine W.rt ?_
    ((with_reducible apply At.fin1); rfl; rfl; intro w' hw')
    exact ⟨by rw [h11]; rfl, by (exact hw'.fr)⟩
  apply W.sr
  apply obn; rfl; rfl; rfl; apply Bin.eql
  apply oas; rfl; rfl
  apply OL.nx
  (refine W.cnd (fun h10 => ?_) (fun h10 => ?_)) <;> (try (exfalso; first | omega | exact h10 trivial | contradiction))
  · apply W.sr
    apply oas; rfl; rfl
    apply OL.nx
    refine W.rt ?_
    ((with_reducible apply At.fin1); rfl; rfl; intro w' hw')
    exact ⟨by rw [h10]; rfl, by (exact hw'.fr)⟩
  apply W.sr
  apply obn; rfl; rfl; rfl; apply Bin.eql
  apply oas; rfl; rfl
  apply OL.nx
  (refine W.cnd (fun h9 => ?_) (fun h9 => ?_)) <;> (try (exfalso; first | omega | exact h9 trivial | contradiction))
  · apply W.sr
    apply oas; rfl; rfl
    apply OL.nx
    refine W.rt ?_
    ((with_reducible apply At.fin1); rfl; rfl; intro w' hw')
    exact ⟨by rw [h9]; rfl, by (exact hw'.fr)⟩
  have hk22 := hk2 (by omega)
  obtain ⟨ak, k0, hqk, habk, hkd0, hck0⟩ := hx.k.get (i := 0) (by omega)
  have habk : ak.block < w.heap.size := habk
  obtain ⟨ak', k1, hqk', _, hkd1, hck1⟩ := hx.k.get (i := 1) (by omega)
  obtain rfl : ak = ak' := Option.some.inj (hqk.symm.trans hqk')
  have hr0 := hkr k0 (List.mem_of_getElem? hkd0)
  have hr1 := hkr k1 (List.mem_of_getElem? hkd1)
  obtain ⟨n0, rfl⟩ : ∃ n0 : Nat, k0 = (n0 : Int) := ⟨k0.toNat, by omega⟩
  obtain ⟨n1, rfl⟩ : ∃ n1 : Nat, k1 = (n1 : Int) := ⟨k1.toNat, by omega⟩
  have hck0 : w.cell? (ak.add ((0 : Int).toNat * 1)) = some (.int .i64 (n0 : Int)) := hck0
  have hck1 : w.cell? (ak.add ((1 : Int).toNat * 1)) = some (.int .i64 (n1 : Int)) := hck1
  obtain ⟨a, p1, hqa, hab, hp1, hcell1, hx1⟩ := he.get (i := n1) (by omega)
  have hab : a.block < w.heap.size := hab
  have hcell1 : CellsAt w (a.add ((n1 : Int).toNat * 5)) [.int .i64 p1.1.op, .int .i64 p1.1.n, .slice p1.2.b.1 p1.1.binds.length p1.2.b.2, .slice p1.2.k.1 p1.1.kids.length p1.2.k.2, .slice p1.2.a.1 p1.1.alts.length p1.2.a.2] := by rw [Int.toNat_natCast]; exact hcell1
  obtain ⟨p0, hp0⟩ : ∃ p0, es[n0]? = some p0 := ⟨_, List.getElem?_eq_getElem (by omega)⟩
  have he0 : e[n0]? = some p0.1 := by rw [← hee, List.getElem?_map, hp0]; rfl
  have he1 : e[n1]? = some p1.1 := by rw [← hee, List.getElem?_map, hp1]; rfl
  have g0 := kidS_get hkd0 he0
  have g1 := kidS_get hkd1 he1
  have hws : wordsS (kidS e x) = (wordS (snOf p0.1) && wordS (snOf p1.1)) := by
    unfold wordsS
    rw [g0, g1, show (kidS e x).length = x.kids.length by simp [kidS], decide_eq_false (by omega)]
    rfl
  rw [hqk]
  apply W.skip
  with_reducible apply At.in_normal
  with_reducible apply At.next
  apply W.sr
  apply omv; rfl; rfl
  apply ofa; rfl; rfl; rfl
  apply old; rfl; rfl; exact .head _; rfl; rfl
  apply oop; rfl; apply Pev.idx; rfl; exact yes; rfl; exact yes; rfl; rfl; intro hcond; (simp only [Bool.and_eq_true, Bool.or_eq_true, Bool.not_eq_true', decide_eq_true_eq, decide_eq_false_iff_not] at *; omega)
  apply oop; rfl; apply Pev.load_kept; rfl; exact yes; exact .head _; rfl; intro hcond; assumption; intro hcond; assumption; intro hcond; exact NotOwned.au
  (((first | (with_reducible apply OL.op) | (with_reducible apply QL.op)); (exact Guard.au); rfl; rfl); (exact Pev.call (v := .bool (wordS (snOf p0.1))) rfl (by exact Args.au) (fun _ w2 hw2 => (isWord_calls es q cap n0 p0 w2 (he.at hw2 (by exact mau) (fun k hk => by exact NotOwned.au)) hp0 hlen (prim_pos (hnd _ (List.mem_of_getElem? he0)))).mono (fun e w3 h => ⟨h.1, hw2.ext h.2⟩))))
  apply omv; rfl; rfl
  apply oy; rfl; rfl; rfl; apply Pev.move; rfl; exact yes
  apply oy; rfl; rfl; rfl; apply Pev.fld; rfl; exact yes; rfl
  apply oy; rfl; rfl; rfl; apply Pev.load_blk; rfl; exact fun h => h; exact .head _; rfl; rfl
  apply oy; rfl; rfl; rfl; apply Pev.idx; rfl; exact fun h => h; rfl; exact yes; rfl; rfl; intro hcond; (simp only [Bool.and_eq_true, Bool.or_eq_true, Bool.not_eq_true', decide_eq_true_eq, decide_eq_false_iff_not] at *; omega)
  apply oy; rfl; rfl; rfl; apply Pev.load_kept; rfl; exact fun h => h; exact .head _; rfl; intro hcond; assumption; intro hcond; assumption; intro hcond; exact NotOwned.au
  (((first | (with_reducible apply OL.op) | (with_reducible apply QL.op)); (exact Guard.au); rfl; rfl); (exact Pev.call (v := .bool (wordS (snOf p1.1))) rfl (by exact Args.au) (fun _ w2 hw2 => (isWord_calls es q cap n1 p1 w2 (he.at hw2 (by exact mau) (fun k hk => by exact NotOwned.au)) hp1 hlen (prim_pos (hnd _ (List.mem_of_getElem? he1)))).mono (fun e w3 h => ⟨h.1, hw2.ext h.2⟩))))
  rw [hqa]
  apply oop; rfl; apply Pev.pick_and; rfl; exact yes; rfl; exact fun h => h
  apply oas; rfl; rfl
  apply OL.nx
  apply W.seq
  apply W.sr
  apply ofa; rfl; rfl; rfl
  apply old; rfl; rfl; exact .head _; rfl; rfl
  apply obn; rfl; rfl; rfl; apply Bin.eql
  apply omv; rfl; rfl
  apply ono; rfl; rfl; rfl; apply Pev.fld; rfl; exact yes; rfl
  apply ono; rfl; rfl; rfl; apply Pev.load_blk; rfl; exact fun h => h; exact .head _; rfl; rfl
  apply ono; rfl; rfl; rfl; apply Pev.bin; rfl; exact fun h => h; rfl; exact yes; intro hcond; apply Bin.eql
  apply oop; rfl; apply Pev.pick_or; rfl; exact yes; rfl; exact fun h => h
  apply OL.nx
  refine W.cond rfl (fun hc => ?_) (fun hc => ?_)
  · have h34 : x.n = 3 ∨ x.n = 4 := by simpa using hc
    have hpr : primS x.n (kidS e x) = if wordsS (kidS e x) = true ∧ p1.1.op = 1 ∧ p1.1.n ≠ 0 then 0 else 2 := by
      unfold primS
      rw [if_neg h7, if_neg (by omega), if_neg h10, if_neg h9, if_pos h34, g1]
      rfl
    apply W.reg
    apply omv; rfl; rfl
    apply omv; rfl; rfl
    apply oy; rfl; rfl; rfl; apply Pev.move; rfl; exact yes
    apply oy; rfl; rfl; rfl; apply Pev.fld; rfl; exact yes; rfl
    apply oy; rfl; rfl; rfl; apply Pev.load_blk; rfl; exact fun h => h; exact .head _; rfl; rfl
    apply oy; rfl; rfl; rfl; apply Pev.idx; rfl; exact fun h => h; rfl; exact yes; rfl; rfl; intro hcond; (simp only [Bool.and_eq_true, Bool.or_eq_true, Bool.not_eq_true', decide_eq_true_eq, decide_eq_false_iff_not] at *; omega)
    apply oy; rfl; rfl; rfl; apply Pev.load_kept; rfl; exact fun h => h; exact .head _; rfl; intro hcond; assumption; intro hcond; assumption; intro hcond; exact NotOwned.au
    apply oy; rfl; rfl; rfl; apply Pev.idx; rfl; exact fun h => h; rfl; exact fun h => h; rfl; rfl; intro hcond; omega
    apply oy; rfl; rfl; rfl; apply Pev.fldA; rfl; exact fun h => h; rfl
    apply oy; rfl; rfl; rfl; apply Pev.load_kept; rfl; exact fun h => h; exact .head _; rfl; intro hcond; apply CellsAt.at_ (by assumption) rfl; intro hcond; (simp only [add_block]; assumption); intro hcond; exact NotOwned.au
    apply oy; rfl; rfl; rfl; apply Pev.bin; rfl; exact fun h => h; rfl; exact yes; intro hcond; apply Bin.eql
    apply oop; rfl; apply Pev.pick_and; rfl; exact yes; rfl; exact fun h => h
    apply omv; rfl; rfl
    apply oy; rfl; rfl; rfl; apply Pev.move; rfl; exact yes
    apply oy; rfl; rfl; rfl; apply Pev.fld; rfl; exact yes; rfl
    apply oy; rfl; rfl; rfl; apply Pev.load_blk; rfl; exact fun h => h; exact .head _; rfl; rfl
    apply oy; rfl; rfl; rfl; apply Pev.idx; rfl; exact fun h => h; rfl; exact yes; rfl; rfl; intro hcond; (simp only [Bool.and_eq_true, Bool.or_eq_true, Bool.not_eq_true', decide_eq_true_eq, decide_eq_false_iff_not] at *; omega)
    apply oy; rfl; rfl; rfl; apply Pev.load_kept; rfl; exact fun h => h; exact .head _; rfl; intro hcond; assumption; intro hcond; assumption; intro hcond; exact NotOwned.au
    apply oy; rfl; rfl; rfl; apply Pev.idx; rfl; exact fun h => h; rfl; exact fun h => h; rfl; rfl; intro hcond; omega
    apply oy; rfl; rfl; rfl; apply Pev.fldA; rfl; exact fun h => h; rfl
    apply oy; rfl; rfl; rfl; apply Pev.load_kept; rfl; exact fun h => h; exact .head _; rfl; intro hcond; apply CellsAt.at_ (by assumption) rfl; intro hcond; (simp only [add_block]; assumption); intro hcond; exact NotOwned.au
    apply oy; rfl; rfl; rfl; apply Pev.bin; rfl; exact fun h => h; rfl; exact yes; intro hcond; apply Bin.neq
    apply oop; rfl; apply Pev.pick_and; rfl; exact yes; rfl; exact fun h => h
    apply oas; rfl; rfl
    apply OL.nx
    apply W.seq
    apply W.sr
    apply omv; rfl; rfl
    apply OL.nx
    refine W.cond rfl (fun hc2 => ?_) (fun hc2 => ?_)
    · have hcc : wordsS (kidS e x) = true ∧ p1.1.op = 1 ∧ p1.1.n ≠ 0 := by
        rw [hws]
        by_cases a1 : wordS (snOf p0.1) = true <;> by_cases a2 : wordS (snOf p1.1) = true <;> by_cases a3 : p1.1.op = 1 <;> by_cases a4 : p1.1.n = 0 <;> simp [a1, a2, a3, a4] at hc2 ⊢
      rw [if_pos hcc] at hpr
      apply W.sr
      apply oas; rfl; rfl
      apply OL.nx
      refine W.rt ?_
      ((with_reducible apply At.fin1); rfl; rfl; intro w' hw')
      exact ⟨by rw [hpr], by (exact hw'.fr)⟩
    · have hcc : ¬ (wordsS (kidS e x) = true ∧ p1.1.op = 1 ∧ p1.1.n ≠ 0) := by
        rw [hws]
        by_cases a1 : wordS (snOf p0.1) = true <;> by_cases a2 : wordS (snOf p1.1) = true <;> by_cases a3 : p1.1.op = 1 <;> by_cases a4 : p1.1.n = 0 <;> simp [a1, a2, a3, a4] at hc2 ⊢
      rw [if_neg hcc] at hpr
      apply W.sk
      apply W.sr
      apply oas; rfl; rfl
      apply OL.nx
      apply W.ret
      ((with_reducible apply At.fin1); rfl; rfl; intro w' hw')
      exact ⟨by rw [hpr], by (exact hw'.fr)⟩
  · have h34 : ¬ (x.n = 3 ∨ x.n = 4) := fun h => by rcases h with h | h <;> simp [h] at hc
    have hpr : primS x.n (kidS e x) = if wordsS (kidS e x) = true then 0 else 2 := by
      unfold primS
      rw [if_neg h7, if_neg (by omega), if_neg h10, if_neg h9, if_neg h34]
    rw [hws] at hpr
    apply W.sk
    apply W.seq
    apply W.sr
    apply omv; rfl; rfl
    apply OL.nx
    refine W.cond rfl (fun hc2 => ?_) (fun hc2 => ?_)
    · rw [if_pos hc2] at hpr
      apply W.sr
      apply oas; rfl; rfl
      apply OL.nx
      refine W.rt ?_
      ((with_reducible apply At.fin1); rfl; rfl; intro w' hw')
      exact ⟨by rw [hpr], by (exact hw'.fr)⟩
    · rw [if_neg (by rw [hc2]; simp)] at hpr
      apply W.sk
      apply W.sr
      apply oas; rfl; rfl
      apply OL.nx
      apply W.ret
      ((with_reducible apply At.fin1); rfl; rfl; intro w' hw')
      exact ⟨by rw [hpr], by (exact hw'.fr)⟩
set_option maxHeartbeats 6000000 in
theorem EffectsOf_calls (es : List (Ex × ExY)) (e : List Ex) (hee : es.map Prod.fst = e) (q : Option Addr) (cap : Nat) (hb0 : bodyE e [] false = 0) :
    ∀ (i : Nat), i < es.length → ∀ (w : World), Arr exR w (low w) es q → Calls Tryd.prog 28 [.slice q es.length cap, .int .i64 (i : Int)].toArray w fun e1 w' => e1 = .returned (.int .i64 (effE e i)) ∧ Ext w w' := by
  intro i
  induction i using Nat.strongRecOn with
  | _ i ih =>
  intro hil w he
  have hel : e.length = es.length := by rw [← hee, List.length_map]
  have hok := BodyOk.of hb0
  have hl4 := hok.tree.len
  have hd := hok.tree.tree.down
  have hnd : ∀ x ∈ e, nodeE e x = 0 := fun x hx => (hok.node hx).1
  have hlam := lamOk_of hnd
  obtain ⟨a, p, rfl, hab, hp, hcell, hx⟩ := he.get hil
  have hab : a.block < w.heap.size := hab
  have hcell : CellsAt w (a.add ((i : Int).toNat * 5)) [.int .i64 p.1.op, .int .i64 p.1.n, .slice p.2.b.1 p.1.binds.length p.2.b.2, .slice p.2.k.1 p.1.kids.length p.2.k.2, .slice p.2.a.1 p.1.alts.length p.2.a.2] := by rw [Int.toNat_natCast]; exact hcell
  have hpe : e[i]? = some p.1 := by rw [← hee, List.getElem?_map, hp]; rfl
  have hpm : p.1 ∈ e := List.mem_of_getElem? hpe
  obtain ⟨hk1, hk2, hk5⟩ := kids_need (hnd _ hpm)
  have hkl := hok.kl hpm
  have hkr : ∀ k ∈ p.1.kids, 0 ≤ k ∧ k < (i : Int) := hd i _ hpe
  have hkc := hx.kc
  have heff := effE_eq hd hlam hpe
  have hp0 : effP e p.1 0 = ownX e p.1 := rfl
  have hkS : ∀ {k : Nat}, p.1.kids[0]? = some (k : Int) → ∀ {z : Ex}, e[k]? = some z → (kidS e p.1).getD 0 sn0 = snOf z := fun {k} hk {z} hz => kidS_get hk hz
  -- the first kid
  have hfirst : 0 < p.1.kids.length → ∃ (ak : Addr) (n0 : Nat) (p0 : Ex × ExY), p.2.k.1 = some ak ∧ ak.block < w.heap.size ∧ p.1.kids[0]? = some (n0 : Int) ∧ n0 < i ∧ w.cell? (ak.add ((0 : Int).toNat * 1)) = some (.int .i64 (n0 : Int)) ∧ es[n0]? = some p0 ∧ e[n0]? = some p0.1 ∧ CellsAt w (a.add ((n0 : Int).toNat * 5)) [.int .i64 p0.1.op, .int .i64 p0.1.n, .slice p0.2.b.1 p0.1.binds.length p0.2.b.2, .slice p0.2.k.1 p0.1.kids.length p0.2.k.2, .slice p0.2.a.1 p0.1.alts.length p0.2.a.2] ∧ ExOk w (low w) p0.1 p0.2 := fun h0 => by
    obtain ⟨ak, k0, e1, e2, e3, e4⟩ := hx.k.get (i := 0) h0
    have hr := hkr k0 (List.mem_of_getElem? e3)
    obtain ⟨n0, rfl⟩ : ∃ n0 : Nat, k0 = (n0 : Int) := ⟨k0.toNat, by omega⟩
    obtain ⟨a', p0, f1, f2, f3, f4, f5⟩ := he.get (i := n0) (by omega)
    obtain rfl := Option.some.inj f1
    exact ⟨ak, n0, p0, e1, e2, e3, by omega, e4, f3, by rw [← hee, List.getElem?_map, f3]; rfl, by rw [Int.toNat_natCast]; exact f4, f5⟩
  refine enter Tryd.func28 rfl Tryd.ntmps28 rfl (Cls.start w) ?_
  (simp only [argEnv, Nat.zero_add, Nat.reduceAdd])
  apply W.sr
  apply oas; rfl; rfl
  apply OL.nsr
  apply omv; rfl; rfl
  apply omv; rfl; rfl
  apply oop; rfl; apply Pev.idx; rfl; exact yes; rfl; exact yes; rfl; rfl; intro hcond; omega
  apply oop; rfl; apply Pev.load_keptA; rfl; exact yes; exact .head _; rfl; intro hcond; assumption; rfl; intro hcond; (rw [add_block]; assumption); intro hcond; exact NotOwned.au
  apply OL.alloc; rfl; rfl; exact CellsL.agg; (intro bk hbk; simp only [AllLe, and_true] at hbk)
  apply OL.storeB; rfl; rfl; exact CellsL.agg; rfl; rfl; rfl; exact Swap.au; exact Put.au
  apply OL.nsr
  apply oas; rfl; rfl
  apply OL.nsr
  apply ofa; rfl; rfl; rfl
  apply old; rfl; rfl; exact .head _; rfl; rfl
  apply oas; rfl; rfl
  apply OL.nx
  apply W.seq
  apply W.sr
  apply ofa; rfl; rfl; rfl
  apply old; rfl; rfl; exact .head _; rfl; rfl
  apply OL.nx
  revert bk
  intro bx hbx
  by_cases p2 : p.1.op = 2
  · apply W.block
    apply W.sr
    apply obn; rfl; rfl; rfl; apply Bin.eql
    apply oas; rfl; rfl
    apply OL.nx
    refine W.cond rfl (fun _ => ?_) (fun hb => by simp [p2] at hb)
    apply W.sr
    apply oas; rfl; rfl
    apply OL.nx
    refine W.rt ?_
    ((with_reducible apply At.fin1); rfl; rfl; intro w' hw')
    exact ⟨by rw [effE_lam hd hlam hpe p2], by (exact hw'.fr)⟩
  refine W.joinx (G := KS) (fun g => g.o ≤ p.1.kids.length ∧ IntsO w (low w) (p.1.kids.drop g.o) g.qq ∧ AccOk e p.1 g.o g.v ∧ (p.1.op = 5 → p.1.binds.length ≤ g.o)) (fun g => [(0, true, .slice (some a) es.length cap), (6, true, .int .i64 g.v), (7, true, .slice g.qq (p.1.kids.length - g.o) g.cc)]) (fun _ => Cls [] [w]) ?_ ?_
  · have hI0 : IntsO w (low w) (p.1.kids.drop 0) p.2.k.1 := by rw [List.drop_zero]; exact hx.k
    have plain : ∀ v : Int, ¬ p.1.op = 3 → ¬ p.1.op = 5 → v = ownX e p.1 → (0 ≤ p.1.kids.length ∧ IntsO w (low w) (p.1.kids.drop 0) p.2.k.1 ∧ AccOk e p.1 0 v ∧ (p.1.op = 5 → p.1.binds.length ≤ 0)) := fun v h3 h5 hv => ⟨Nat.zero_le _, hI0, .inl ⟨by rw [hv, hp0], fun _ h => h3 h.1⟩, fun h => absurd h h5⟩
    have hown : ownX e p.1 = ownS p.1.op p.1.n (kidS e p.1) p.1.alts := rfl
    apply W.block
    apply W.sr
    apply obn; rfl; rfl; rfl; apply Bin.eql
    apply oas; rfl; rfl
    apply OL.nx
    refine W.cond rfl (fun hb => absurd (by simpa using hb) p2) (fun _ => ?_)
    apply W.sr
    apply obn; rfl; rfl; rfl; apply Bin.eql
    apply oas; rfl; rfl
    apply OL.nx
    (refine W.cnd (fun p17 => ?_) (fun p17 => ?_)) <;> (try (exfalso; first | omega | exact p17 trivial | contradiction))
    · apply W.reg
      apply oas; rfl; rfl
      apply OL.nil
      with_reducible apply At.in_normal
      exact At.joinedx ⟨0, p.2.k.1, p.2.k.2, 2⟩ (plain 2 (by omega) (by omega) (by rw [hown]; unfold ownS; rw [if_pos p17])) (by exact Sub.au) (fun w' hw' => hw'.thin (by exact Thin.au))
    apply W.sr
    apply obn; rfl; rfl; rfl; apply Bin.eql
    apply oas; rfl; rfl
    apply OL.nx
    (refine W.cnd (fun p8 => ?_) (fun p8 => ?_)) <;> (try (exfalso; first | omega | exact p8 trivial | contradiction))
    · have hpr : ownX e p.1 = primS p.1.n (kidS e p.1) := by rw [hown]; unfold ownS; rw [if_neg p17, if_pos p8]
      apply W.reg
      apply omv; rfl; rfl
      apply oop; rfl; apply Pev.load_blkA; rfl; exact yes; exact .head _; rfl; exact Take.au
      (((first | (with_reducible apply OL.op) | (with_reducible apply QL.op)); (exact Guard.au); rfl; rfl); (exact Pev.call (v := .int .i64 (ownX e p.1)) rfl (by exact Args.au) (fun _ w2 hw2 => (primEffects_calls es e hee (some a) cap p.1 p.2 w2 (he.at hw2 (by exact mau) (fun k hk => by exact NotOwned.au)) (by omega) (hx.at hw2 (by exact mau) (fun k hk => by exact NotOwned.au)) hnd (fun k hk => by have := hkr k hk; omega) (hk2 p8)).mono (fun e w3 h => ⟨by rw [h.1, hpr], hw2.ext h.2⟩))))
      apply oas; rfl; rfl
      apply OL.nil
      with_reducible apply At.in_normal
      exact At.joinedx ⟨0, p.2.k.1, p.2.k.2, ownX e p.1⟩ (plain _ (by omega) (by omega) rfl) (by exact Sub.au) (fun w' hw' => hw'.thin (by exact Thin.au))
    apply W.sr
    apply obn; rfl; rfl; rfl; apply Bin.eql
    apply oas; rfl; rfl
    apply OL.nx
    (refine W.cnd (fun p5 => ?_) (fun p5 => ?_)) <;> (try (exfalso; first | omega | exact p5 trivial | contradiction))
    · have h5 := hk5 p5
      have hz : ownX e p.1 = 0 := by
        rw [hown]; unfold ownS
        rw [if_neg p17, if_neg p8, if_neg (by omega), if_neg (by omega), if_neg (by omega), if_neg (by omega), if_neg (by omega)]
      have hcon : conN e p.1 (p.1.kids.length - 1) = [] := by
        unfold conN
        rw [List.filterMap_eq_nil_iff]
        intro k hk
        exact if_pos (.inr ⟨p5, by have := List.mem_range.1 hk; omega⟩)
      have hacc : AccOk e p.1 (p.1.kids.length - 1) 0 := .inl ⟨by unfold effP; rw [hcon]; exact hz.symm, fun _ h => by omega⟩
      have hcut := SlAt.cut (i := p.1.kids.length - 1) (sz := 1) (cap := p.2.k.2) hx.k.slAt (by rw [ints_length]; omega)
      rw [Nat.mul_one] at hcut
      have e1 : (p.1.kids.length : Int) - 1 = ((p.1.kids.length - 1 : Nat) : Int) := by omega
      apply W.reg
      apply omv; rfl; rfl
      apply omv; rfl; rfl
      apply oop; rfl; apply Pev.len_slice; rfl; exact yes; rfl
      apply obn; rfl; rfl; rfl; apply Bin.sub_in; omega
      apply oop; rfl; apply Pev.slice_lo; rfl; exact yes; rfl; exact yes; rfl; (first | exact (Int.toNat_of_nonneg (by omega)).symm | omega); intro hcond; omega
      apply oas; rfl; rfl
      apply OL.nil
      with_reducible apply At.in_normal
      rw [e1]
      skip
      exact At.joinedx ⟨p.1.kids.length - 1, cutq p.2.k.1 p.2.k.2 (p.1.kids.length - 1) 1, p.2.k.2 - (p.1.kids.length - 1), 0⟩ ⟨by simp only; omega, fun hl => by
        have hl2 : 0 < ((ints p.1.kids).drop (p.1.kids.length - 1)).length := by
          rw [List.length_drop, ints_length]
          omega
        obtain ⟨ad, f1, f2, f3⟩ := hcut hl2
        exact ⟨ad, f1, f2, by rw [show ints (p.1.kids.drop (p.1.kids.length - 1)) = (ints p.1.kids).drop (p.1.kids.length - 1) by simp [ints, List.map_drop]]; exact f3⟩, hacc, fun _ => by simp only; omega⟩ (by exact Sub.au) (fun w' hw' => hw'.thin (by exact Thin.au))
    apply W.sr
    apply obn; rfl; rfl; rfl; apply Bin.eql
    apply oas; rfl; rfl
    apply OL.nx
    (refine W.cnd (fun p3 => ?_) (fun p3 => ?_)) <;> (try (exfalso; first | omega | exact p3 trivial | contradiction))
    · have hk11 := hk1 (by omega)
      obtain ⟨ak, n0, p0, hqk, habk, hkd0, hn0, hck0, hes0, he0, hcell0, hx0⟩ := hfirst (by omega)
      have g0 := hkS hkd0 he0
      have hkd : p.1.kids.getD 0 0 = (n0 : Int) := by rw [List.getD_eq_getElem?_getD, hkd0]; rfl
      have hpr : ownX e p.1 = if p0.1.op = 2 ∧ p0.1.binds.length + 1 = p.1.kids.length then 0 else 63 := by
        rw [hown]; unfold ownS
        rw [if_neg p17, if_neg p8, if_pos p3, g0, show (kidS e p.1).length = p.1.kids.length by simp [kidS]]
        rfl
      rw [hqk]
      apply W.sr
      apply omv; rfl; rfl
      apply ofa; rfl; rfl; rfl
      apply old; rfl; rfl; exact .head _; rfl; rfl
      apply oop; rfl; apply Pev.idx; rfl; exact yes; rfl; exact yes; rfl; rfl; intro hcond; (simp only [Bool.and_eq_true, Bool.or_eq_true, Bool.not_eq_true', decide_eq_true_eq, decide_eq_false_iff_not] at *; omega)
      apply oop; rfl; apply Pev.load_kept; rfl; exact yes; exact .head _; rfl; intro hcond; assumption; intro hcond; assumption; intro hcond; exact NotOwned.au
      apply oop; rfl; apply Pev.idx; rfl; exact yes; rfl; exact yes; rfl; rfl; intro hcond; omega
      apply oop; rfl; apply Pev.load_keptA; rfl; exact yes; exact .head _; rfl; intro hcond; assumption; rfl; intro hcond; (rw [add_block]; assumption); intro hcond; exact NotOwned.au
      apply OL.alloc; rfl; rfl; exact CellsL.agg; (intro bk hbk; simp only [AllLe, and_true] at hbk)
      apply OL.storeB; rfl; rfl; exact CellsL.agg; rfl; rfl; rfl; exact Swap.au; exact Put.au
      apply OL.nx
      apply W.seq
      apply W.sr
      apply ofa; rfl; rfl; rfl
      apply old; rfl; rfl; exact .head _; rfl; rfl
      apply obn; rfl; rfl; rfl; apply Bin.neq
      apply omv; rfl; rfl
      apply ono; rfl; rfl; rfl; apply Pev.fld; rfl; exact yes; rfl
      apply ono; rfl; rfl; rfl; apply Pev.load_blk; rfl; exact fun h => h; exact .head _; rfl; rfl
      apply ono; rfl; rfl; rfl; apply Pev.len_slice; rfl; exact fun h => h; rfl
      apply ono; rfl; rfl; rfl; apply Pev.fld; rfl; exact yes; rfl
      apply ono; rfl; rfl; rfl; apply Pev.load_blk; rfl; exact fun h => h; exact .tail _ (.head _); rfl; rfl
      apply ono; rfl; rfl; rfl; apply Pev.len_slice; rfl; exact fun h => h; rfl
      apply ono; rfl; rfl; rfl; apply Pev.bin; rfl; exact fun h => h; rfl; exact yes; intro hcond; apply Bin.sub_in; omega
      apply ono; rfl; rfl; rfl; apply Pev.bin; rfl; exact fun h => h; rfl; exact fun h => h; intro hcond; apply Bin.neq
      apply oop; rfl; apply Pev.pick_or; rfl; exact yes; rfl; exact fun h => h
      apply OL.nx
      revert bk
      intro b9 hb9
      refine W.cond rfl (fun hc => ?_) (fun hc => ?_)
      · have hcc : ¬ (p0.1.op = 2 ∧ p0.1.binds.length + 1 = p.1.kids.length) := fun ⟨c1, c2⟩ => by
          simp [c1] at hc
          omega
        rw [if_neg hcc] at hpr
        apply W.sr
        apply oas; rfl; rfl
        apply OL.nx
        refine W.rt ?_
        ((with_reducible apply At.fin1); rfl; rfl; intro w' hw')
        exact ⟨by rw [heff, effP_all hd hlam hpr], by (exact hw'.fr)⟩
      · have hcc : p0.1.op = 2 ∧ p0.1.binds.length + 1 = p.1.kids.length := by
          by_cases c1 : p0.1.op = 2
          · simp [c1] at hc
            exact ⟨c1, by omega⟩
          · simp [c1] at hc
        rw [if_pos hcc] at hpr
        have hl1 := hlam _ _ he0 hcc.1
        obtain ⟨aj, kj, hqj, habj, hkj, hcj⟩ := hx0.k.get (i := 0) (by omega)
        have habj : aj.block < w.heap.size := habj
        have hcj : w.cell? (aj.add ((0 : Int).toNat * 1)) = some (.int .i64 kj) := hcj
        have hrj := hd n0 _ he0 kj (List.mem_of_getElem? hkj)
        obtain ⟨kjn, rfl⟩ : ∃ kjn : Nat, kj = (kjn : Int) := ⟨kj.toNat, by omega⟩
        have hex := exAt_get he0
        have hca : conAt e p.1 0 = some kjn := by
          unfold conAt
          rw [if_neg (by rintro (h | h); exact p2 h; omega), if_pos ⟨p3, rfl, by rw [hkd, Int.toNat_natCast, hex]; exact hcc.1⟩, hkd, Int.toNat_natCast, hex, List.getD_eq_getElem?_getD, hkj]
          rfl
        have hv : effE e kjn = effP e p.1 1 := by
          rw [effP_succ, hca, hp0, hpr]
          exact ((Six.or (a := 0) ⟨by omega, by omega⟩ (effE_six hd hlam kjn)).2.1).symm
        rw [hqj]
        apply W.sk
        apply W.reg
        apply omv; rfl; rfl
        apply ofa; rfl; rfl; rfl
        apply old; rfl; rfl; exact .head _; rfl; rfl
        apply oop; rfl; apply Pev.idx; rfl; exact yes; rfl; exact yes; rfl; rfl; intro hcond; (simp only [Bool.and_eq_true, Bool.or_eq_true, Bool.not_eq_true', decide_eq_true_eq, decide_eq_false_iff_not] at *; omega)
        apply oop; rfl; apply Pev.load_kept; rfl; exact yes; exact .head _; rfl; intro hcond; assumption; intro hcond; assumption; intro hcond; exact NotOwned.au
        (((first | (with_reducible apply OL.op) | (with_reducible apply QL.op)); (exact Guard.au); rfl; rfl); (exact Pev.call (v := .int .i64 (effE e kjn)) rfl (by exact Args.au) (fun _ w2 hw2 => (ih kjn (by omega) (by omega) w2 (he.at hw2 (by exact mau) (fun k hk => by exact NotOwned.au))).mono (fun e w3 h => ⟨h.1, hw2.ext h.2⟩))))
        apply oas; rfl; rfl
        apply OL.nil
        with_reducible apply At.in_normal
        exact At.joinedx ⟨0, some ak, p.2.k.2, effE e kjn⟩ ⟨Nat.zero_le _, by rw [← hqk]; exact hI0, .inr ⟨rfl, p3, by rw [hkd, Int.toNat_natCast, hex]; exact hcc.1, hv⟩, fun h => absurd h p5⟩ (by exact Sub.au) (fun w' hw' => hw'.thin (by exact Thin.au))
    apply W.sr
    apply obn; rfl; rfl; rfl; apply Bin.eql
    apply oas; rfl; rfl
    apply OL.nx
    (refine W.cnd (fun p7 => ?_) (fun p7 => ?_)) <;> (try (exfalso; first | omega | exact p7 trivial | contradiction))
    · have hk11 := hk1 (by omega)
      obtain ⟨ak, n0, p0, hqk, habk, hkd0, hn0, hck0, hes0, he0, hcell0, hx0⟩ := hfirst (by omega)
      have g0 := hkS hkd0 he0
      have hpr : ownX e p.1 = if condS (snOf p0.1) p.1.alts = true then 0 else 2 := by
        rw [hown]; unfold ownS
        rw [if_neg p17, if_neg p8, if_neg p3, if_pos p7, g0]
      apply W.sr
      apply omv; rfl; rfl
      apply oop; rfl; apply Pev.load_blkA; rfl; exact yes; exact .head _; rfl; exact Take.au
      (((first | (with_reducible apply OL.op) | (with_reducible apply QL.op)); (exact Guard.au); rfl; rfl); (exact Pev.call (v := .bool (condS (snOf p0.1) p.1.alts)) rfl (by exact Args.au) (fun _ w2 hw2 => (caseSafe_calls es (some a) cap p.1 p.2 n0 p0 w2 (he.at hw2 (by exact mau) (fun k hk => by exact NotOwned.au)) (by omega) (hx.at hw2 (by exact mau) (fun k hk => by exact NotOwned.au)) hkd0 hes0).mono (fun e w3 h => ⟨h.1, hw2.ext h.2⟩))))
      apply oop; rfl; apply Pev.not; rfl; exact yes
      apply OL.nx
      refine W.cond rfl (fun hc => ?_) (fun hc => ?_)
      · rw [if_neg (by simpa using hc)] at hpr
        apply W.reg
        apply oas; rfl; rfl
        apply OL.nil
        with_reducible apply At.in_normal
        exact At.joinedx ⟨0, p.2.k.1, p.2.k.2, 2⟩ (plain 2 p3 p5 hpr.symm) (by exact Sub.au) (fun w' hw' => hw'.thin (by exact Thin.au))
      · rw [if_pos (by simpa using hc)] at hpr
        apply W.skip
        with_reducible apply At.in_normal
        exact At.joinedx ⟨0, p.2.k.1, p.2.k.2, 0⟩ (plain 0 p3 p5 hpr.symm) (by exact Sub.au) (fun w' hw' => hw'.thin (by exact Thin.au))
    apply W.sr
    apply obn; rfl; rfl; rfl; apply Bin.eql
    apply oas; rfl; rfl
    apply OL.nx
    (refine W.cnd (fun p10 => ?_) (fun p10 => ?_)) <;> (try (exfalso; first | omega | exact p10 trivial | contradiction))
    · have hk11 := hk1 (by omega)
      obtain ⟨ak, n0, p0, hqk, habk, hkd0, hn0, hck0, hes0, he0, hcell0, hx0⟩ := hfirst (by omega)
      have g0 := hkS hkd0 he0
      have hpr : ownX e p.1 = if p0.1.op = 9 ∧ p.1.n ∈ p0.1.binds then 0 else 2 := by
        rw [hown]; unfold ownS
        rw [if_neg p17, if_neg p8, if_neg p3, if_neg p7, if_pos (.inl p10), g0]
        simp [snOf, p10]
      have hb9 := hok.lim (List.mem_of_getElem? he0)
      have hbl0 := hb9.b
      rw [hqk]
      apply W.seq
      apply W.regd0; decide +kernel; kernel_rfl; decide +kernel; exact fun w hw => hw.drew
      apply qmv; rfl; rfl
      apply qfa; rfl; rfl; rfl
      apply qld; rfl; rfl; exact .head _; rfl; rfl
      apply qop; rfl; apply Pev.idx; rfl; exact yes; rfl; exact yes; rfl; rfl; intro hcond; (simp only [Bool.and_eq_true, Bool.or_eq_true, Bool.not_eq_true', decide_eq_true_eq, decide_eq_false_iff_not] at *; omega)
      apply qop; rfl; apply Pev.load_kept; rfl; exact yes; exact .head _; rfl; intro hcond; assumption; intro hcond; assumption; intro hcond; exact NotOwned.au
      apply qop; rfl; apply Pev.idx; rfl; exact yes; rfl; exact yes; rfl; rfl; intro hcond; omega
      apply qop; rfl; apply Pev.fldA; rfl; exact yes; rfl
      apply qop; rfl; apply Pev.load_kept; rfl; exact yes; exact .head _; rfl; intro hcond; apply CellsAt.at_ (by assumption) rfl; intro hcond; (simp only [add_block]; assumption); intro hcond; exact NotOwned.au
      apply qbn; rfl; rfl; rfl; apply Bin.neq
      apply qmv; rfl; rfl
      apply qno; rfl; rfl; rfl; apply Pev.move; rfl; exact yes
      apply qno; rfl; rfl; rfl; apply Pev.fld; rfl; exact yes; rfl
      apply qno; rfl; rfl; rfl; apply Pev.load_blk; rfl; exact fun h => h; exact .head _; rfl; rfl
      apply qno; rfl; rfl; rfl; apply Pev.idx; rfl; exact fun h => h; rfl; exact yes; rfl; rfl; intro hcond; (simp only [Bool.and_eq_true, Bool.or_eq_true, Bool.not_eq_true', decide_eq_true_eq, decide_eq_false_iff_not] at *; omega)
      apply qno; rfl; rfl; rfl; apply Pev.load_kept; rfl; exact fun h => h; exact .head _; rfl; intro hcond; assumption; intro hcond; assumption; intro hcond; exact NotOwned.au
      apply qno; rfl; rfl; rfl; apply Pev.idx; rfl; exact fun h => h; rfl; exact fun h => h; rfl; rfl; intro hcond; omega
      apply qno; rfl; rfl; rfl; apply Pev.fldA; rfl; exact fun h => h; rfl
      apply qno; rfl; rfl; rfl; apply Pev.load_kept; rfl; exact fun h => h; exact .head _; rfl; intro hcond; apply CellsAt.at_ (by assumption) rfl; intro hcond; (simp only [add_block]; assumption); intro hcond; exact NotOwned.au
      apply qno; rfl; rfl; rfl; apply Pev.fld; rfl; exact yes; rfl
      apply qno; rfl; rfl; rfl; apply Pev.load_blk; rfl; exact fun h => h; exact .head _; rfl; rfl
      (((first | (with_reducible apply OL.op) | (with_reducible apply QL.op)); (exact Guard.au); rfl; rfl); (exact Pev.call (v := .bool (decide (p.1.n ∈ p0.1.binds))) rfl (by exact Args.au) (fun _ w2 hw2 => (In_calls p0.2.b.1 p0.2.b.2 p0.1.binds p.1.n w2 (by omega) (hx0.b.at hw2 (by exact mau) (fun k hk => by exact NotOwned.au))).mono (fun e w3 h => ⟨h.1, hw2.ext h.2⟩))))
      apply qno; rfl; rfl; rfl; apply Pev.not; rfl; exact fun h => h
      apply qop; rfl; apply Pev.pick_or; rfl; exact yes; rfl; exact fun h => h
      apply QL.nil
      with_reducible apply At.next
      refine W.cond rfl (fun hc => ?_) (fun hc => ?_)
      · rw [if_neg (fun ⟨c1, c2⟩ => by simp [c1, c2] at hc)] at hpr
        apply W.reg
        apply oas; rfl; rfl
        apply OL.nil
        with_reducible apply At.in_normal
        exact At.joinedx ⟨0, some ak, p.2.k.2, 2⟩ (by have := plain 2 p3 p5 hpr.symm; rw [hqk] at this; exact this) (by exact Sub.au) (fun w' hw' => hw'.thin (by exact Thin.au))
      · rw [if_pos (by by_cases c1 : p0.1.op = 9; (simp [c1] at hc; exact ⟨c1, hc⟩); (simp [c1] at hc))] at hpr
        apply W.skip
        with_reducible apply At.in_normal
        exact At.joinedx ⟨0, some ak, p.2.k.2, 0⟩ (by have := plain 0 p3 p5 hpr.symm; rw [hqk] at this; exact this) (by exact Sub.au) (fun w' hw' => hw'.thin (by exact Thin.au))
    apply W.sr
    apply obn; rfl; rfl; rfl; apply Bin.eql
    apply oas; rfl; rfl
    apply OL.nx
    (refine W.cnd (fun p11 => ?_) (fun p11 => ?_)) <;> (try (exfalso; first | omega | exact p11 trivial | contradiction))
    · have hk11 := hk1 (by omega)
      obtain ⟨ak, n0, p0, hqk, habk, hkd0, hn0, hck0, hes0, he0, hcell0, hx0⟩ := hfirst (by omega)
      have g0 := hkS hkd0 he0
      have hpr : ownX e p.1 = if p0.1.op = 9 then 0 else 2 := by
        rw [hown]; unfold ownS
        rw [if_neg p17, if_neg p8, if_neg p3, if_neg p7, if_pos (.inr p11), g0]
        simp [snOf, p10]
      rw [hqk]
      apply W.sr
      apply omv; rfl; rfl
      apply ofa; rfl; rfl; rfl
      apply old; rfl; rfl; exact .head _; rfl; rfl
      apply oop; rfl; apply Pev.idx; rfl; exact yes; rfl; exact yes; rfl; rfl; intro hcond; (simp only [Bool.and_eq_true, Bool.or_eq_true, Bool.not_eq_true', decide_eq_true_eq, decide_eq_false_iff_not] at *; omega)
      apply oop; rfl; apply Pev.load_kept; rfl; exact yes; exact .head _; rfl; intro hcond; assumption; intro hcond; assumption; intro hcond; exact NotOwned.au
      apply oop; rfl; apply Pev.idx; rfl; exact yes; rfl; exact yes; rfl; rfl; intro hcond; omega
      apply oop; rfl; apply Pev.fldA; rfl; exact yes; rfl
      apply oop; rfl; apply Pev.load_kept; rfl; exact yes; exact .head _; rfl; intro hcond; apply CellsAt.at_ (by assumption) rfl; intro hcond; (simp only [add_block]; assumption); intro hcond; exact NotOwned.au
      apply obn; rfl; rfl; rfl; apply Bin.neq
      apply OL.nx
      (refine W.cnd (fun c9 => ?_) (fun c9 => ?_)) <;> (try (exfalso; first | omega | exact c9 trivial | contradiction))
      · rw [if_neg c9] at hpr
        apply W.reg
        apply oas; rfl; rfl
        apply OL.nil
        with_reducible apply At.in_normal
        exact At.joinedx ⟨0, some ak, p.2.k.2, 2⟩ (by have := plain 2 p3 p5 hpr.symm; rw [hqk] at this; exact this) (by exact Sub.au) (fun w' hw' => hw'.thin (by exact Thin.au))
      · rw [if_pos (by omega)] at hpr
        apply W.skip
        with_reducible apply At.in_normal
        exact At.joinedx ⟨0, some ak, p.2.k.2, 0⟩ (by have := plain 0 p3 p5 hpr.symm; rw [hqk] at this; exact this) (by exact Sub.au) (fun w' hw' => hw'.thin (by exact Thin.au))
    have hpr : ownX e p.1 = if p.1.op = 12 then 6 else if p.1.op = 13 then 63 else 0 := by
      rw [hown]; unfold ownS
      rw [if_neg p17, if_neg p8, if_neg p3, if_neg p7, if_neg (by omega)]
    apply W.sr
    apply obn; rfl; rfl; rfl; apply Bin.eql
    apply oas; rfl; rfl
    apply OL.nx
    (refine W.cnd (fun p12 => ?_) (fun p12 => ?_)) <;> (try (exfalso; first | omega | exact p12 trivial | contradiction))
    · rw [if_pos p12] at hpr
      apply W.reg
      apply oas; rfl; rfl
      apply OL.nil
      with_reducible apply At.in_normal
      exact At.joinedx ⟨0, p.2.k.1, p.2.k.2, 6⟩ (plain 6 p3 p5 hpr.symm) (by exact Sub.au) (fun w' hw' => hw'.thin (by exact Thin.au))
    rw [if_neg p12] at hpr
    apply W.sr
    apply obn; rfl; rfl; rfl; apply Bin.eql
    apply oas; rfl; rfl
    apply OL.nx
    (refine W.cnd (fun p13 => ?_) (fun p13 => ?_)) <;> (try (exfalso; first | omega | exact p13 trivial | contradiction))
    · rw [if_pos p13] at hpr
      apply W.sr
      apply oas; rfl; rfl
      apply OL.nx
      refine W.rt ?_
      ((with_reducible apply At.fin1); rfl; rfl; intro w' hw')
      exact ⟨by rw [heff, effP_all hd hlam hpr], by (exact hw'.fr)⟩
    · rw [if_neg p13] at hpr
      apply W.skip
      with_reducible apply At.in_normal
      exact At.joinedx ⟨0, p.2.k.1, p.2.k.2, 0⟩ (plain 0 p3 p5 hpr.symm) (by exact Sub.au) (fun w' hw' => hw'.thin (by exact Thin.au))
  rintro ⟨o, qq, cc, v0⟩ ⟨ho, hIo, hacc0, ho5⟩
  simp only at ho hIo hacc0 ho5 ⊢
  have hdl : (p.1.kids.drop o).length = p.1.kids.length - o := List.length_drop ..
  apply W.seq
  apply W.sr
  apply omv; rfl; rfl
  apply oop; rfl; apply Pev.len_slice; rfl; exact yes; rfl
  apply omv; rfl; rfl
  apply OL.nx
  apply W.block
  refine W.loop (G := Nat × Int) (fun g => o ≤ g.1 ∧ g.1 ≤ p.1.kids.length ∧ AccOk e p.1 g.1 g.2) (fun g => p.1.kids.length - g.1)
    (fun g => [(0, true, .slice (some a) es.length cap), (6, true, .int .i64 g.2), (109, true, .slice qq (p.1.kids.length - o) cc), (110, true, .int .i64 ((p.1.kids.length - o : Nat) : Int)), (111, true, .int .i64 ((g.1 - o : Nat) : Int))])
    (fun _ => Cls [] [w]) (o, v0) ⟨Nat.le_refl _, ho, hacc0⟩ (by (repeat (first | exact Sub.nil | apply Sub.cons rfl | (refine Sub.cons_eq rfl (congrArg (Value.int .i64) (by first | omega | (simp only; omega))) ?_) | (refine Sub.cons_eq rfl (congrArg Value.bool ?_) ?_; rotate_left)))) (fun w' hw' => hw') ?_
  rintro ⟨m, v⟩ ⟨hom, hm, hacc⟩
  simp only at hom hm hacc ⊢
  apply W.sr
  apply obn; rfl; rfl; rfl; apply Bin.lss
  apply OL.nx
  apply W.seq
  (refine W.cnd (fun hlt => ?_) (fun hlt => ?_)) <;> (try (exfalso; first | omega | exact hlt trivial | contradiction))
  · have hml : m < p.1.kids.length := by omega
    obtain ⟨aq, kq, hqq, habq, hkq, hcq⟩ := hIo.get (i := m - o) (by omega)
    have habq : aq.block < w.heap.size := habq
    rw [List.getElem?_drop, show o + (m - o) = m by omega] at hkq
    have hrq := hkr kq (List.mem_of_getElem? hkq)
    obtain ⟨j, rfl⟩ : ∃ j : Nat, kq = (j : Int) := ⟨kq.toNat, by omega⟩
    have hej : e[j]? = some e[j] := List.getElem?_eq_getElem (by omega)
    have hstep := hacc.step hd hlam p2 (fun h => Nat.le_trans (ho5 h) hom) hkq hej (hacc.six hd hlam)
    rw [hqq]
    apply W.sk
    apply W.sb
    apply W.sr
    apply oop; rfl; apply Pev.idx; rfl; exact yes; rfl; exact yes; rfl; rfl; intro hcond; omega
    apply oop; rfl; apply Pev.load_kept; rfl; exact yes; exact .head _; rfl; intro hcond; assumption; intro hcond; (rw [add_block]; assumption); intro hcond; exact NotOwned.au
    apply oas; rfl; rfl
    apply OL.nx
    apply W.reg
    apply omv; rfl; rfl
    apply omv; rfl; rfl
    apply omv; rfl; rfl
    (((first | (with_reducible apply OL.op) | (with_reducible apply QL.op)); (exact Guard.au); rfl; rfl); (exact Pev.call (v := .int .i64 (effE e j)) rfl (by exact Args.au) (fun _ w2 hw2 => (ih j (by omega) (by omega) w2 (he.at hw2 (by exact mau) (fun k hk => by exact NotOwned.au))).mono (fun e w3 h => ⟨h.1, hw2.ext h.2⟩))))
    apply obn; rfl; rfl; rfl; apply Bin.or
    apply oas; rfl; rfl
    apply OL.nil
    with_reducible apply At.in_normal
    with_reducible apply At.next
    apply W.reg
    apply obn; rfl; rfl; rfl; apply Bin.add_in; omega
    apply omv; rfl; rfl
    apply OL.nil
    exact At.again (m + 1, orI v (effE e j)) ⟨by simp only; omega, by simp only; omega, hstep⟩ (by simp only; omega) (by exact Sub.au) (fun w' hw' => hw')
  · obtain rfl : m = p.1.kids.length := by omega
    refine W.xt ?_
    with_reducible apply At.next
    apply W.sr
    apply omv; rfl; rfl
    apply oas; rfl; rfl
    apply OL.nx
    apply W.ret
    ((with_reducible apply At.fin1); rfl; rfl; intro w' hw')
    refine ⟨?_, by (exact hw'.fr)⟩
    rcases hacc with ⟨rfl, _⟩ | ⟨h0, h3, _⟩
    · rw [heff]
    · have := hk1 (.inl h3)
      omega
end Go.Proofs.YtlboppiogeaicaaDoor.co

/- Plain: a check that finds a given expression valid by computing. No program in sight. No condition. -/
namespace Go.Co
set_option linter.unusedVariables false
set_option linter.unusedSimpArgs false
def growF (e : List Ex) : Nat → Nat → Tr
  | 0, _ => leaf
  | f + 1, i => match e[i]? with
    | none => leaf
    | some x => .mk x.op x.n x.binds (x.kids.map fun k => growF e f k.toNat) x.alts
theorem growF_eq {e : List Ex} (hd : Down e) : ∀ {f i : Nat}, i < f → i < e.length → growF e f i = grow e i := by
  intro f
  induction f with
  | zero => intro i h; omega
  | succ f ih =>
    intro i h hi
    have hx : e[i]? = some e[i] := List.getElem?_eq_getElem hi
    rw [growF, hx, grow_eq hd hx]
    simp only [Tr.mk.injEq, true_and, and_true]
    refine List.map_congr_left fun k hk => ?_
    have := hd i _ hx k hk
    exact ih (by omega) (by omega)
def downB (e : List Ex) : Bool := (List.range e.length).all fun i => match e[i]? with
  | none => true
  | some x => x.kids.all fun k => decide (0 ≤ k) && decide (k < (i : Int))
theorem downB_down {e : List Ex} (h : downB e = true) : Down e := fun i x hx k hk => by
  unfold downB at h
  rw [List.all_eq_true] at h
  have h1 := h i (List.mem_range.2 (List.getElem?_eq_some_iff.1 hx).1)
  rw [hx] at h1
  simp only [List.all_eq_true, Bool.and_eq_true, decide_eq_true_eq] at h1
  exact h1 k hk
def treeB (e : List Ex) : Bool := decide (0 < e.length) && decide (e.length ≤ 4096) && downB e && ((List.range (e.length - 1)).all fun i => decide ((kidsAll e).count (i : Int) = 1)) && decide (high (growF e e.length (e.length - 1)) ≤ 400)
theorem treeB_tree {e : List Ex} (h : treeB e = true) : TreeP e ∧ treeE e = 0 := by
  unfold treeB at h
  simp only [Bool.and_eq_true, decide_eq_true_eq, List.all_eq_true, List.mem_range] at h
  obtain ⟨⟨⟨⟨h1, h2⟩, h3⟩, h4⟩, h5⟩ := h
  have hd := downB_down h3
  have ht : TreeP e := ⟨h1, hd, fun i hi => h4 i (by omega)⟩
  refine ⟨ht, ?_⟩
  rw [treeE_tree (by omega) ht]
  rw [growF_eq hd (by omega) (by omega)] at h5
  exact if_neg (by omega)
def okB (e : List Ex) (ps : List Int) (flat : Bool) : Bool := treeB e && (e.all fun x => !flatBad flat x.op && decide (nodeE e x = 0)) && decide (ps ++ e.flatMap bindersX).Nodup && ((fv (growF e e.length (e.length - 1)) []).all fun n => decide (n ∈ ps))
theorem okB_ok {e : List Ex} {ps : List Int} {flat : Bool} (h : okB e ps flat = true) : bodyE e ps flat = 0 := by
  unfold okB at h
  simp only [Bool.and_eq_true, decide_eq_true_eq, List.all_eq_true, Bool.not_eq_true'] at h
  obtain ⟨⟨⟨h1, h2⟩, h3⟩, h4⟩ := h
  obtain ⟨h5, h6⟩ := treeB_tree h1
  have hp : 0 < e.length := h5.1
  rw [growF_eq h5.2.1 (by omega) (by omega)] at h4
  refine BodyOk.mk2 h6 (fun x hx => ?_) h3 h4
  obtain ⟨h7, h8⟩ := h2 x hx
  unfold oneE
  rw [if_neg (by rw [h7]; simp), h8]
end Go.Co

/- The walks of the reference's builders of nodes: N, B, W, V, Print. Conditions: none. -/
namespace Go.Proofs.YtlboppiogeaicaaDoor.co
open Go.RowKit Go.Eng Go.Co
set_option linter.unusedVariables false
set_option linter.unusedSimpArgs false
set_option maxRecDepth 100000
theorem N_calls (op n : Int) (ts : List Tr) (q : Option Addr) (c : Nat) (w : World) (ho : I64 op) (hn : I64 n) (hl : ts.length ≤ 4096) (hk : 0 < ts.length → ∃ a, q = some a ∧ a.block < w.heap.size ∧ NodsO w ts a) :
    Calls Tryd.prog 29 [.int .i64 op, .int .i64 n, .slice q ts.length c].toArray w fun e w' => ∃ b, e = .returned (.pointer (some ⟨b, 0, none⟩)) ∧ Ext w w' ∧ NodO w' (.mk op n [] ts []) b := by
  refine enter Tryd.func29 rfl Tryd.ntmps29 rfl (Cls.start w) ?_
  (simp only [argEnv, Nat.zero_add, Nat.reduceAdd])
  apply W.sr
  apply oas; rfl; rfl
  apply OL.nsr
  apply omv; rfl; rfl
  apply omv; rfl; rfl
  apply oop; rfl; apply Pev.build; rfl; exact CellsL.agg; rfl; exact Fill.au; rfl
  apply omv; rfl; rfl
  apply oop; rfl; apply Pev.build; rfl; exact CellsL.agg; rfl; exact Fill.au; rfl
  apply OL.box; rfl; rfl; exact CellsL.agg; (intro bk hbk; simp only [AllLe, and_true] at hbk)
  apply oas; rfl; rfl
  apply OL.nx
  apply W.ret
  ((with_reducible apply At.fin1); rfl; rfl; intro w' hw')
  have hb := hw'.item (.head _)
  refine ⟨bk, rfl, by (exact hw'.fr), ?_⟩
  simp only [NodO]
  refine ⟨⟨(none, 0), (q, c), (none, 0)⟩, blk_lt hb, fun j v hj => by rw [add_mid, blk_cell hb, Nat.zero_add]; exact hj, ⟨ho, hn, by simp, by simp, hl, by simp, by simp, IntsO.nil, ArrP.nil⟩, fun h => ?_⟩
  obtain ⟨a, h1, h2, h3⟩ := hk h
  have hsz := (hw'.kp w (by exact mau)).size
  exact ⟨a, h1, by omega, NodsO.ext hsz (hw'.same (by exact mau) (fun k hk => by exact NotOwned.au)) h2 h3⟩
theorem B_calls (op : Int) (l : List Int) (qb : Option Addr) (cb : Nat) (ts : List Tr) (q : Option Addr) (c : Nat) (w : World) (ho : I64 op) (hbl : l.length ≤ 16) (hbc : l.length ≤ cb) (hb : IntsO w (low w) l qb) (hl : ts.length ≤ 4096) (hk : 0 < ts.length → ∃ a, q = some a ∧ a.block < w.heap.size ∧ NodsO w ts a) :
    Calls Tryd.prog 18 [.int .i64 op, .slice qb l.length cb, .slice q ts.length c].toArray w fun e w' => ∃ b, e = .returned (.pointer (some ⟨b, 0, none⟩)) ∧ Ext w w' ∧ NodO w' (.mk op 0 l ts []) b := by
  refine enter Tryd.func18 rfl Tryd.ntmps18 rfl (Cls.start w) ?_
  (simp only [argEnv, Nat.zero_add, Nat.reduceAdd])
  apply W.sr
  apply oas; rfl; rfl
  apply OL.nsr
  apply omv; rfl; rfl
  apply omv; rfl; rfl
  apply oop; rfl; apply Pev.build; rfl; exact CellsL.agg; rfl; exact Fill.au; rfl
  apply omv; rfl; rfl
  apply oop; rfl; apply Pev.build; rfl; exact CellsL.agg; rfl; exact Fill.au; rfl
  apply OL.box; rfl; rfl; exact CellsL.agg; (intro bk hbk; simp only [AllLe, and_true] at hbk)
  apply oas; rfl; rfl
  apply OL.nx
  apply W.ret
  ((with_reducible apply At.fin1); rfl; rfl; intro w' hw')
  have hb2 := hw'.item (.head _)
  refine ⟨bk, rfl, by (exact hw'.fr), ?_⟩
  simp only [NodO]
  have hsz := (hw'.kp w (by exact mau)).size
  have hsm := hw'.same (List.Mem.head _) (fun k hk => by exact NotOwned.au)
  refine ⟨⟨(qb, cb), (q, c), (none, 0)⟩, blk_lt hb2, fun j v hj => by rw [add_mid, blk_cell hb2, Nat.zero_add]; exact hj, ⟨ho, by simp [I64], hbl, by simp, hl, hbc, by simp, (hb.stab hsm).mono fun k hk => Nat.lt_of_lt_of_le hk hsz, ArrP.nil⟩, fun h => ?_⟩
  obtain ⟨a, h1, h2, h3⟩ := hk h
  exact ⟨a, h1, by omega, NodsO.ext hsz hsm h2 h3⟩
theorem W_calls (n : Int) (w : World) (hn : I64 n) :
    Calls Tryd.prog 14 [.int .i64 n].toArray w fun e w' => ∃ b, e = .returned (.pointer (some ⟨b, 0, none⟩)) ∧ Ext w w' ∧ NodO w' (.mk 1 n [] [] []) b := by
  refine enter Tryd.func14 rfl Tryd.ntmps14 rfl (Cls.start w) ?_
  (simp only [argEnv, Nat.zero_add, Nat.reduceAdd])
  apply W.sr
  apply oas; rfl; rfl
  apply OL.nsr
  apply omv; rfl; rfl
  refine OL.callE (α := Nat × World) (fun z => .pointer (some ⟨z.1, 0, none⟩)) (fun z => NodO z.2 (.mk 1 n [] [] []) z.1) (fun z => Cls [] [z.2, w]) rfl rfl (by exact Args.au) (fun w2 hw2 => (N_calls 1 n [] none 0 w2 (by simp [I64]) hn (by simp) (fun h => by simp at h)).mono (fun e1 w3 ⟨b, h1, h2, h3⟩ => ⟨(b, w3), h1, h3, (hw2.ext h2).note⟩)) ?_
  rintro ⟨b, w3⟩ hN
  simp only at hN ⊢
  apply oas; rfl; rfl
  apply OL.nx
  apply W.ret
  ((with_reducible apply At.fin1); rfl; rfl; intro w' hw')
  exact ⟨b, rfl, hw'.fr (by exact mau), hN.at hw' (by exact mau) (fun k hk => NotOwned.nil)⟩
theorem V_calls (n : Int) (w : World) (hn : I64 n) :
    Calls Tryd.prog 19 [.int .i64 n].toArray w fun e w' => ∃ b, e = .returned (.pointer (some ⟨b, 0, none⟩)) ∧ Ext w w' ∧ NodO w' (.mk 0 n [] [] []) b := by
  refine enter Tryd.func19 rfl Tryd.ntmps19 rfl (Cls.start w) ?_
  (simp only [argEnv, Nat.zero_add, Nat.reduceAdd])
  apply W.sr
  apply oas; rfl; rfl
  apply OL.nsr
  apply omv; rfl; rfl
  refine OL.callE (α := Nat × World) (fun z => .pointer (some ⟨z.1, 0, none⟩)) (fun z => NodO z.2 (.mk 0 n [] [] []) z.1) (fun z => Cls [] [z.2, w]) rfl rfl (by exact Args.au) (fun w2 hw2 => (N_calls 0 n [] none 0 w2 (by simp [I64]) hn (by simp) (fun h => by simp at h)).mono (fun e1 w3 ⟨b, h1, h2, h3⟩ => ⟨(b, w3), h1, h3, (hw2.ext h2).note⟩)) ?_
  rintro ⟨b, w3⟩ hN
  simp only at hN ⊢
  apply oas; rfl; rfl
  apply OL.nx
  apply W.ret
  ((with_reducible apply At.fin1); rfl; rfl; intro w' hw')
  exact ⟨b, rfl, hw'.fr (by exact mau), hN.at hw' (by exact mau) (fun k hk => NotOwned.nil)⟩
/-- one kid, in a slice of the caller's -/
theorem kid1 {w : World} {H : List Eng.Item} {S : List World} {t : Tr} {b bk : Nat} {T : TypeId} (hw : Cls (blk bk T [.pointer (some ⟨b, 0, none⟩)] :: H) S w) (hN : NodO w t b) : 0 < [t].length → ∃ a, some (⟨bk, 0, none⟩ : Addr) = some a ∧ a.block < w.heap.size ∧ NodsO w [t] a := fun _ => by
  have hb := hw.item (.head _)
  refine ⟨_, rfl, blk_lt hb, ?_⟩
  simp only [NodsO]
  refine ⟨⟨b, ?_, hN⟩, trivial⟩
  rw [blk_cell hb]
  rfl
end Go.Proofs.YtlboppiogeaicaaDoor.co

/- The walk of slices.Equal at []int. Conditions: none. -/
namespace Go.Proofs.YtlboppiogeaicaaDoor.co
open Go.RowKit Go.Eng Go.Co
set_option linter.unusedVariables false
set_option linter.unusedSimpArgs false
set_option maxRecDepth 100000
theorem IEqual_calls (q1 q2 : Option Addr) (cap1 cap2 : Nat) (l1 l2 : List Int) (w : World) (hl1 : l1.length ≤ 9223372036854775807) (hl2 : l2.length ≤ 9223372036854775807) (h1 : IntsO w (low w) l1 q1) (h2 : IntsO w (low w) l2 q2) :
    Calls Tryd.prog 20 #[.slice q1 l1.length cap1, .slice q2 l2.length cap2] w fun e w' => e = .returned (.bool (decide (l1 = l2))) ∧ Ext w w' := by
  refine enter Tryd.func20 rfl Tryd.ntmps20 rfl (Cls.start w) ?_
  (simp only [argEnv, Nat.zero_add, Nat.reduceAdd])
  apply W.sr
  apply oas; rfl; rfl
  apply OL.nx
  apply W.seq
  apply W.sr
  apply omv; rfl; rfl
  apply oop; rfl; apply Pev.len_slice; rfl; exact yes; rfl
  apply omv; rfl; rfl
  apply oop; rfl; apply Pev.len_slice; rfl; exact yes; rfl
  apply obn; rfl; rfl; rfl; apply Bin.neq
  apply OL.nx
  (refine W.cnd (fun hne => ?_) (fun hne => ?_)) <;> (try (exfalso; first | omega | exact hne trivial | contradiction))
  · apply W.sr
    apply oas; rfl; rfl
    apply OL.nx
    refine W.rt ?_
    ((with_reducible apply At.fin1); rfl; rfl; intro w' hw')
    have : ¬ l1 = l2 := fun e => by subst e; exact hne rfl
    exact ⟨by simp [this], by (exact hw'.fr)⟩
  apply W.sk
  apply W.seq
  apply W.sr
  apply omv; rfl; rfl
  apply oop; rfl; apply Pev.len_slice; rfl; exact yes; rfl
  apply omv; rfl; rfl
  apply OL.nx
  apply W.block
  refine W.loop (G := Nat) (fun i => i ≤ l1.length ∧ ∀ j, j < i → l1[j]? = l2[j]?) (fun i => l1.length - i)
    (fun i => [(13, true, .int .i64 (i : Int)), (12, true, .int .i64 (l1.length : Int)), (0, true, .slice q1 l1.length cap1), (1, true, .slice q2 l2.length cap2)])
    (fun i => Cls [] [w]) 0 ⟨by omega, fun j hj => by omega⟩ (by exact Sub.au) (fun w' hw' => hw') ?_
  rintro i ⟨hi, hsame⟩
  apply W.sr
  apply obn; rfl; rfl; rfl; apply Bin.lss
  apply OL.nx
  apply W.seq
  (refine W.cnd (fun hlt => ?_) (fun hlt => ?_)) <;> (try (exfalso; first | omega | exact hlt trivial | contradiction))
  · obtain ⟨a, u, rfl, hab, hu, hcell⟩ := h1.get (show i < l1.length by omega)
    obtain ⟨a2, u2, rfl, hab2, hu2, hcell2⟩ := h2.get (show i < l2.length by omega)
    have hab : a.block < w.heap.size := hab
    have hab2 : a2.block < w.heap.size := hab2
    apply W.sk
    apply W.sb
    apply W.sr
    apply omv; rfl; rfl
    apply oas; rfl; rfl
    apply OL.nx
    apply W.seq
    apply W.regd0; decide +kernel; kernel_rfl; decide +kernel; exact fun w hw => hw.drew
    apply qmv; rfl; rfl
    apply qmv; rfl; rfl
    apply qop; rfl; apply Pev.idx; rfl; exact yes; rfl; exact yes; rfl; rfl; intro hcond; omega
    apply qop; rfl; apply Pev.load_kept; rfl; exact yes; exact .head _; rfl; intro hcond; assumption; intro hcond; (rw [add_block]; assumption); intro hcond; exact NotOwned.au
    apply qmv; rfl; rfl
    apply qmv; rfl; rfl
    apply qop; rfl; apply Pev.idx; rfl; exact yes; rfl; exact yes; rfl; rfl; intro hcond; omega
    apply qop; rfl; apply Pev.load_kept; rfl; exact yes; exact .head _; rfl; intro hcond; assumption; intro hcond; (rw [add_block]; assumption); intro hcond; exact NotOwned.au
    apply qbn; rfl; rfl; rfl; apply Bin.neq
    apply QL.nil
    with_reducible apply At.next
    (refine W.cnd (fun hd => ?_) (fun hd => ?_)) <;> (try (exfalso; first | omega | exact hd trivial | contradiction))
    · apply W.sr
      apply oas; rfl; rfl
      apply OL.nx
      refine W.rt ?_
      ((with_reducible apply At.fin1); rfl; rfl; intro w' hw')
      have : ¬ l1 = l2 := fun e => by
        subst e
        rw [hu] at hu2
        exact hd (Option.some.inj hu2)
      exact ⟨by simp [this], by (exact hw'.fr)⟩
    · apply W.skip
      with_reducible apply At.in_normal
      with_reducible apply At.next
      apply W.reg
      apply obn; rfl; rfl; rfl; apply Bin.add_in; omega
      apply omv; rfl; rfl
      apply OL.nil
      refine At.again (i + 1) ⟨by omega, fun j hj => ?_⟩ (by omega) (by exact Sub.au) (fun w' hw' => hw')
      by_cases hji : j = i
      · subst hji
        rw [hu, hu2, show u = u2 by first | omega | (simpa using hd)]
      · exact hsame j (by omega)
  · refine W.xt ?_
    with_reducible apply At.next
    apply W.sr
    apply oas; rfl; rfl
    apply OL.nx
    apply W.ret
    ((with_reducible apply At.fin1); rfl; rfl; intro w' hw')
    have : l1 = l2 := List.ext_getElem? fun j => by
      rcases Nat.lt_or_ge j l1.length with h | h
      · exact hsame j (by omega)
      · rw [List.getElem?_eq_none h, List.getElem?_eq_none (by omega)]
    exact ⟨by simp [this], by (exact hw'.fr)⟩
end Go.Proofs.YtlboppiogeaicaaDoor.co

/- The walk of the law PuritySays. Conditions: none. -/
namespace Go.Co
open Go.Eng Go.RowKit
def print1 : Tr := .mk 8 7 [] [.mk 1 1 [] [] []] []
theorem print1_ok : okB (lay print1 0) [] false = true := by decide +kernel
theorem print1_eff : (List.range 2).map (effE (lay print1 0)) = [0, 3] := by
  have hok := BodyOk.of (okB_ok print1_ok)
  have hd := hok.tree.tree.down
  have hlam := lamOk_of (e := lay print1 0) fun x hx => (hok.node hx).1
  have h0 : effE (lay print1 0) 0 = 0 := by
    rw [effE_eq hd hlam (show (lay print1 0)[0]? = some ⟨1, 1, [], [], []⟩ from rfl)]
    decide +kernel
  have h1 : effE (lay print1 0) 1 = 3 := by
    have hx : (lay print1 0)[1]? = some ⟨8, 7, [], [0], []⟩ := rfl
    rw [effE_eq hd hlam hx, show (⟨8, 7, [], [0], []⟩ : Ex).kids.length = 0 + 1 from rfl, effP_succ]
    have hc : conAt (lay print1 0) ⟨8, 7, [], [0], []⟩ 0 = some 0 := rfl
    rw [hc]
    show orI (effP (lay print1 0) ⟨8, 7, [], [0], []⟩ 0) (effE (lay print1 0) 0) = 3
    rw [h0]
    decide +kernel
  simp [List.range_succ, h0, h1]
end Go.Co
namespace Go.Proofs.YtlboppiogeaicaaDoor.co
open Go.RowKit Go.Eng Go.Co
set_option linter.unusedVariables false
set_option linter.unusedSimpArgs false
set_option maxRecDepth 100000
theorem Print_calls (t : Tr) (b : Nat) (w : World) (ht : NodO w t b) :
    Calls Tryd.prog 27 [.pointer (some ⟨b, 0, none⟩)].toArray w fun e w' => ∃ b', e = .returned (.pointer (some ⟨b', 0, none⟩)) ∧ Ext w w' ∧ NodO w' (.mk 8 7 [] [t] []) b' := by
  refine enter Tryd.func27 rfl Tryd.ntmps27 rfl (Cls.start w) ?_
  (simp only [argEnv, Nat.zero_add, Nat.reduceAdd])
  apply W.sr
  apply oas; rfl; rfl
  apply OL.nsr
  apply omv; rfl; rfl
  apply OL.buildSlice; rfl; rfl; rfl; exact Elems.au; rfl; rfl; (intro bk hbk; simp only [AllLe, and_true] at hbk)
  revert bk
  intro b2 hb2
  refine OL.callE (α := Nat × World) (fun z => .pointer (some ⟨z.1, 0, none⟩)) (fun z => NodO z.2 (.mk 8 7 [] [t] []) z.1) (fun z => Cls [] [z.2, w]) rfl rfl (by exact Args.au) (fun w2 hw2 => (N_calls 8 7 [t] (some ⟨b2, 0, none⟩) 1 w2 (by simp [I64]) (by simp [I64]) (by simp) (kid1 hw2 (ht.at hw2 (by exact mau) (fun k hk => by exact NotOwned.au)))).mono (fun e1 w3 ⟨b, h1, h2, h3⟩ => ⟨(b, w3), h1, h3, ((hw2.thin (by exact Thin.au)).ext h2).note⟩)) ?_
  rintro ⟨b3, w3⟩ hN
  simp only at hN ⊢
  apply oas; rfl; rfl
  apply OL.nx
  apply W.ret
  ((with_reducible apply At.fin1); rfl; rfl; intro w' hw')
  exact ⟨b3, rfl, hw'.fr (by exact mau), hN.at hw' (by exact mau) (fun k hk => NotOwned.nil)⟩
theorem purity_law (q : Option Addr) (cap : Nat) (es : List (Ex × ExY)) (w : World) (he : Arr exR w (low w) es q) (hlen : es.length ≤ 9223372036854775807) (hcap : es.length ≤ cap) (hg : 1 < w.heap.size) (hs : arityAt w) :
    Calls Tryd.prog 8 #[.slice q es.length cap] w fun e w' => e = .returned (.bool true) ∧ Ext w w' := by
  refine enter Tryd.func8 rfl Tryd.ntmps8 rfl (Cls.start w) ?_
  (simp only [argEnv, Nat.zero_add, Nat.reduceAdd])
  apply W.sr
  apply oas; rfl; rfl
  apply OL.nx
  apply W.seq
  apply W.sr
  refine OL.callE (α := Nat × World) (fun z => .pointer (some ⟨z.1, 0, none⟩)) (fun z => NodO z.2 (.mk 1 1 [] [] []) z.1) (fun z => Cls [] [z.2, w]) rfl rfl (by exact Args.au) (fun w2 hw2 => (W_calls 1 w2 (by simp [I64])).mono (fun e1 w3 ⟨b, h1, h2, h3⟩ => ⟨(b, w3), h1, h3, (hw2.ext h2).note⟩)) ?_
  rintro ⟨b, w3⟩ hN
  simp only at hN ⊢
  refine OL.callE (α := Nat × World) (fun z => .pointer (some ⟨z.1, 0, none⟩)) (fun z => NodO z.2 print1 z.1) (fun z => Cls [] [z.2, w]) rfl rfl (by exact Args.au) (fun w2 hw2 => (Print_calls _ b w2 (hN.at hw2 (by exact mau) (fun k hk => NotOwned.nil))).mono (fun e1 w3 ⟨b, h1, h2, h3⟩ => ⟨(b, w3), h1, h3, ((hw2.forget (by simp)).ext h2).note⟩)) ?_
  rintro ⟨b3, w4⟩ hN2
  simp only at hN2 ⊢
  refine OL.callE (α := (Option Addr × Nat × List (Ex × ExY)) × World) (fun z => .slice z.1.1 z.1.2.2.length z.1.2.1) (fun z => z.1.2.2.map Prod.fst = lay print1 0 ∧ z.1.2.2.length ≤ z.1.2.1 ∧ Arr exR z.2 (low z.2) z.1.2.2 z.1.1) (fun z => Cls [] [z.2, w]) rfl rfl (by exact Args.au) (fun w2 hw2 => (List_calls _ b3 w2 (hN2.at hw2 (by exact mau) (fun k hk => NotOwned.nil)) (by simp [print1, tsz, tszs])).mono (fun e1 w4 ⟨q1, c1, l1, h1, h2, h3, h4, h5⟩ => ⟨((q1, c1, l1), w4), h1, ⟨h3, h4, h5⟩, ((hw2.forget (by simp)).ext h2).note⟩)) ?_
  rintro ⟨⟨q1, c1, l1⟩, w5⟩ ⟨hl1, hc1, ha1⟩
  simp only at hl1 hc1 ha1 ⊢
  have hb1 : bodyE (l1.map Prod.fst) [] false = 0 := by rw [hl1]; exact okB_ok print1_ok
  have hll : l1.length = 2 := by
    have := congrArg List.length hl1
    rw [List.length_map, lay_len] at this
    simpa [print1, tsz, tszs] using this
  refine OL.callE (α := (Option Addr × Nat) × World) (fun z => .tuple #[.slice z.1.1 2 z.1.2, .int .i64 0]) (fun z => IntsO z.2 (low z.2) [0, 3] z.1.1) (fun z => Cls [] [z.2, w]) rfl rfl (by exact Args.au) (fun w2 hw2 => ?_) ?_
  · refine (PurOf_calls l1 q1 c1 w2 (ha1.at hw2 (by exact mau) (fun k hk => NotOwned.nil)) (by omega) (Nat.lt_of_lt_of_le hg (hw2.kp w (by exact mau)).size) (hs.at hg hw2 (by exact mau) (fun k hk => by exact NotOwned.au))).mono ?_
    rintro e w6 ⟨l, ql, cl, h1, h2, h3, h4, h5⟩
    have h7 : l = [0, 3] := by rw [h4 hb1, hll, hl1]; exact print1_eff
    subst h7
    exact ⟨((ql, cl), w6), by rw [h1, hb1]; rfl, h5, ((hw2.forget (by simp)).ext h2).note⟩
  rintro ⟨⟨ql, cl⟩, w6⟩ hI6
  simp only at hI6 ⊢
  apply omv; rfl; rfl
  apply oex; rfl; rfl; rfl
  apply oex; rfl; rfl; rfl
  apply oas; rfl; rfl
  apply oas; rfl; rfl
  apply OL.nsr
  apply omv; rfl; rfl
  apply obn; rfl; rfl; rfl; apply Bin.neq
  apply omv; rfl; rfl
  apply ono; rfl; rfl; rfl; apply Pev.move; rfl; exact yes
  ((apply OL.ungate); (exact Guard.au); (decide))
  apply OL.buildSlice; rfl; rfl; rfl; exact Elems.au; rfl; rfl; (intro bk hbk; simp only [AllLe, and_true] at hbk)
  revert bk
  intro b4 hb4
  (((first | (with_reducible apply OL.op) | (with_reducible apply QL.op)); (exact Guard.au); rfl; rfl); (exact Pev.call (v := .bool true) rfl (by exact Args.au) (fun _ w2 hw2 => (IEqual_calls ql (some ⟨b4, 0, none⟩) cl 2 [0, 3] [0, 3] w2 (by simp) (by simp) (hI6.at hw2 (by exact mau) (fun k hk => by exact NotOwned.au)) (fun _ => ⟨_, rfl, blk_lt (hw2.item (.head _)), fun j v hj => by rw [add_mid, blk_cell (hw2.item (.head _)), Nat.zero_add]; exact hj⟩)).mono (fun e w3 h => ⟨by rw [h.1]; simp, hw2.ext h.2⟩))))
  apply ono; rfl; rfl; rfl; apply Pev.not; rfl; exact yes
  apply oop; rfl; apply Pev.pick_or; rfl; exact yes; rfl; exact yes
  apply OL.nx
  refine W.cond rfl (fun hb => by simp at hb) (fun _ => ?_)
  apply W.sk
  apply W.sr
  apply omv; rfl; rfl
  obtain ⟨e, hee⟩ : ∃ e, es.map Prod.fst = e := ⟨_, rfl⟩
  have hel : e.length = es.length := by rw [← hee, List.length_map]
  refine OL.callE (α := (List Int × Option Addr × Nat) × World) (fun z => .tuple #[.slice z.1.2.1 z.1.1.length z.1.2.2, .int .i64 (bodyE e [] false)]) (fun z => (bodyE e [] false ≠ 0 → z.1.1 = []) ∧ (bodyE e [] false = 0 → z.1.1 = (List.range es.length).map (effE e)) ∧ IntsO z.2 (low z.2) z.1.1 z.1.2.1) (fun z => Cls [] [z.2, w]) rfl rfl (by exact Args.au) (fun w2 hw2 => (PurOf_calls es q cap w2 (he.at hw2 (by exact mau) (fun k hk => by exact NotOwned.au)) hlen (Nat.lt_of_lt_of_le hg (hw2.kp w (by exact mau)).size) (hs.at hg hw2 (by exact mau) (fun k hk => by exact NotOwned.au))).mono (fun e1 w7 ⟨l, ql, cl, h1, h2, h3, h4, h5⟩ => ⟨((l, ql, cl), w7), by rw [h1, hee], by rw [hee] at h3 h4; exact ⟨h3, h4, h5⟩, (((hw2.thin (by exact Thin.au)).forget (by simp)).ext h2).note⟩)) ?_
  rintro ⟨⟨l, ql2, cl2⟩, w7⟩ ⟨hc0, hc1, hI7⟩
  simp only at hc0 hc1 hI7 ⊢
  apply omv; rfl; rfl
  apply oex; rfl; rfl; rfl
  apply oex; rfl; rfl; rfl
  apply oas; rfl; rfl
  apply oas; rfl; rfl
  apply OL.nx
  apply W.seq
  apply W.sr
  apply omv; rfl; rfl
  (((first | (with_reducible apply OL.op) | (with_reducible apply QL.op)); (exact Guard.au); rfl; rfl); (exact Pev.call (v := .int .i64 (bodyE e [] false)) rfl (by exact Args.au) (fun _ w2 hw2 => (Fault_calls es q cap w2 (he.at hw2 (by exact mau) (fun k hk => by exact NotOwned.au)) hlen).mono (fun e1 w5 h => ⟨by rw [h.1, hee], hw2.ext h.2⟩))))
  apply oas; rfl; rfl
  apply OL.nsr
  apply omv; rfl; rfl
  apply obn; rfl; rfl; rfl; apply Bin.neq
  apply OL.nx
  (refine W.cnd (fun hf => ?_) (fun hf => ?_)) <;> (try (exfalso; first | omega | exact hf trivial | contradiction))
  · have h0 := hc0 (by simpa using hf)
    subst h0
    apply W.sr
    apply omv; rfl; rfl
    apply omv; rfl; rfl
    apply obn; rfl; rfl; rfl; apply Bin.eql
    apply omv; rfl; rfl
    apply oy; rfl; rfl; rfl; apply Pev.move; rfl; exact yes
    apply oy; rfl; rfl; rfl; apply Pev.len_slice; rfl; exact fun h => h; rfl
    apply oy; rfl; rfl; rfl; apply Pev.bin; rfl; exact fun h => h; rfl; exact yes; intro hcond; apply Bin.eql
    apply oop; rfl; apply Pev.pick_and; rfl; exact yes; rfl; exact fun h => h
    apply oas; rfl; rfl
    apply OL.nx
    refine W.rt ?_
    ((with_reducible apply At.fin1); rfl; rfl; intro w' hw')
    exact ⟨by simp, hw'.fr (by exact mau)⟩
  have hf0 : bodyE e [] false = 0 := by simpa using hf
  have hl7 := hc1 hf0
  have hlen7 : l.length = es.length := by rw [hl7]; simp
  have hl4 := (BodyOk.of hf0).tree.len
  apply W.sk
  apply W.seq
  apply W.sr
  apply omv; rfl; rfl
  apply obn; rfl; rfl; rfl; apply Bin.neq
  apply omv; rfl; rfl
  apply ono; rfl; rfl; rfl; apply Pev.move; rfl; exact yes
  apply ono; rfl; rfl; rfl; apply Pev.len_slice; rfl; exact fun h => h; rfl
  apply ono; rfl; rfl; rfl; apply Pev.move; rfl; exact yes
  apply ono; rfl; rfl; rfl; apply Pev.len_slice; rfl; exact fun h => h; rfl
  apply ono; rfl; rfl; rfl; apply Pev.bin; rfl; exact fun h => h; rfl; exact fun h => h; intro hcond; apply Bin.neq
  apply oop; rfl; apply Pev.pick_or; rfl; exact yes; rfl; exact fun h => h
  apply OL.nx
  refine W.cond rfl (fun hb => by simp [hf0, hlen7] at hb) (fun _ => ?_)
  apply W.sk
  apply W.seq
  apply W.sr
  apply omv; rfl; rfl
  apply oop; rfl; apply Pev.len_slice; rfl; exact yes; rfl
  apply omv; rfl; rfl
  apply OL.nx
  apply W.block
  refine W.loop (G := Nat) (fun i => i ≤ es.length) (fun i => es.length - i)
    (fun i => [(0, true, .slice q es.length cap), (5, true, .slice ql2 l.length cl2), (51, true, .int .i64 (es.length : Int)), (52, true, .int .i64 (i : Int))])
    (fun _ => Cls [] [w7, w]) 0 (by omega) (by exact Sub.au) (fun w' hw' => hw') ?_
  rintro i hi
  apply W.sr
  apply obn; rfl; rfl; rfl; apply Bin.lss
  apply OL.nx
  apply W.seq
  (refine W.cnd (fun hlt => ?_) (fun hlt => ?_)) <;> (try (exfalso; first | omega | exact hlt trivial | contradiction))
  · have hil : i < es.length := by omega
    obtain ⟨al, u, hqu, halb, hu, hcu⟩ := hI7.get (i := i) (by omega)
    have halb : al.block < w7.heap.size := halb
    have hue : u = effE e i := by
      rw [hl7, List.getElem?_map, List.getElem?_range hil] at hu
      exact (Option.some.inj hu).symm
    rw [hqu]
    apply W.sk
    apply W.sb
    apply W.sr
    apply omv; rfl; rfl
    apply oas; rfl; rfl
    apply OL.nx
    apply W.seq
    apply W.regd0; decide +kernel; kernel_rfl; decide +kernel; exact fun w hw => hw.drew
    apply qmv; rfl; rfl
    apply qmv; rfl; rfl
    apply qop; rfl; apply Pev.idx; rfl; exact yes; rfl; exact yes; rfl; rfl; intro hcond; omega
    apply qop; rfl; apply Pev.load_kept; rfl; exact yes; exact .head _; rfl; intro hcond; assumption; intro hcond; (rw [add_block]; assumption); intro hcond; exact NotOwned.au
    apply qmv; rfl; rfl
    apply qmv; rfl; rfl
    (((first | (with_reducible apply OL.op) | (with_reducible apply QL.op)); (exact Guard.au); rfl; rfl); (exact Pev.call (v := .int .i64 (effE e i)) rfl (by exact Args.au) (fun _ w2 hw2 => (EffectsOf_calls es e hee q cap hf0 i hil w2 (he.at hw2 (by exact mau) (fun k hk => by exact NotOwned.au))).mono (fun e w3 h => ⟨h.1, hw2.ext h.2⟩))))
    apply qbn; rfl; rfl; rfl; apply Bin.neq
    apply QL.nil
    with_reducible apply At.next
    refine W.cond rfl (fun hb => by simp [hue] at hb) (fun _ => ?_)
    apply W.skip
    with_reducible apply At.in_normal
    with_reducible apply At.next
    apply W.reg
    apply obn; rfl; rfl; rfl; apply Bin.add_in; omega
    apply omv; rfl; rfl
    apply OL.nil
    exact At.again (i + 1) (by omega) (by omega) (by exact Sub.au) (fun w' hw' => hw')
  · refine W.xt ?_
    with_reducible apply At.next
    apply W.sr
    apply oas; rfl; rfl
    apply OL.nx
    apply W.ret
    ((with_reducible apply At.fin1); rfl; rfl; intro w' hw')
    exact ⟨rfl, hw'.fr (by exact mau)⟩
end Go.Proofs.YtlboppiogeaicaaDoor.co

/- Readings with the reach: what a slice's and a struct's parts are, and how much they weigh at most. General. No condition. -/
namespace Go.Eng
open Go.RowKit Go.ChangeShapes Go.WideShapes Go.ChangeAt
set_option linter.unusedVariables false
set_option linter.unusedSimpArgs false
section
variable {H : Type} {enc : TypeId × Value → H} {P : Program} {w : World} {spare : Nat → Bool} {held : Bool}

/-- a datum within reach -/
def Lt (P : Program) (t : TypeId) (d : DataW H) : Prop := ∀ n ∈ d.weights P t, n ≤ reachBytes
theorem weightsAll_mem {e : TypeId} : ∀ {ds : List (DataW H)} {d : DataW H}, d ∈ ds → ∀ n ∈ d.weights P e, n ∈ DataW.weightsAll P e ds
  | x :: ds, d, hd, n, hn => by
    simp only [DataW.weightsAll, List.mem_append]
    rcases List.mem_cons.1 hd with rfl | hd
    · exact .inl hn
    · exact .inr (weightsAll_mem hd n hn)
theorem Lt.arg {ts : List TypeId} {ds : List (DataW H)} (h : (DataW.weightsEach P ts ds).all (· ≤ reachBytes) = true) {j : Nat} {t : TypeId} {d : DataW H} (ht : ts[j]? = some t) (hd : ds[j]? = some d) : Lt P t d := fun n hn => by
  have := List.all_eq_true.1 h _ (DataW.weights_mem_each ht hd n hn)
  simpa using this
theorem Lt.str {t : TypeId} {b : List UInt8} (h : Lt (H := H) P t (.lit (.string b))) : b.length ≤ reachBytes := h b.length (by simp [DataW.weights])

/-- a struct that reads -/
theorem rd_struct {t : TypeId} {fs : Array Field} {fuel : Nat} {cs : List Value} {x : DataW H × List MemPlace} (ht : P.underlying t = some (.struct fs)) (h : DataW.trod enc P w 0 spare held fuel t cs = some x) (hw : Lt P t x.1) :
    cs.length = P.cellsOf t ∧ ∃ n, n < fuel ∧ ∀ (i : Nat) (f : Field), fs[i]? = some f → ∃ y, DataW.trod enc P w 0 spare held n f.type ((cs.drop f.offset).take (P.cellsOf f.type)) = some y ∧ Lt P f.type y.1 := by
  obtain ⟨xs, n, hfu, rfl, hlen, hxl, hf⟩ := DataW.trod_struct ht h
  refine ⟨hlen, n, by omega, fun i f hi => ?_⟩
  have hlt : i < xs.length := by rw [hxl]; exact (Array.getElem?_eq_some_iff.1 hi).1
  refine ⟨xs[i], by rw [hf i f hi, List.getElem?_eq_getElem hlt], fun k hk => hw k ?_⟩
  simp only [DataW.weights, ht]
  exact DataW.weights_mem_each (j := i) (t := f.type) (d := xs[i].1) (by simpa using ⟨f, by simpa using hi, rfl⟩) (by simp [hlt]) k hk
/-- a slice that reads -/
theorem rd_slice0 {t e : TypeId} {sz fuel : Nat} {cs : List Value} {x : DataW H × List MemPlace} (ht : P.underlying t = some (.slice e)) (hs : P.cellsOf e = sz) (h : DataW.trod enc P w 0 spare held fuel t cs = some x) (hw : Lt P t x.1) :
    ∃ (q : Option Addr) (len cap : Nat), cs = [.slice q len cap] ∧ len ≤ cap ∧ cap ≤ maxLen ∧ len * P.bytesOf e ≤ reachBytes ∧ (q = none → len = 0) ∧
      ∃ n, n < fuel ∧ ∀ a, q = some a → ∀ i, i < len → ∃ cs' y, CellsAt w (a.add (i * sz)) cs' ∧ cs'.length = sz ∧ DataW.trod enc P w 0 spare held n e cs' = some y ∧ Lt P e y.1 := by
  rcases DataW.trod_slice ht h with ⟨rfl, _⟩ | ⟨a, len, cap, elems, rest, n, hf, rfl, rfl, _, hl, hm, hlen, hel, _, _⟩
  · refine ⟨none, 0, 0, rfl, Nat.le_refl _, by simp [maxLen], by simp, fun _ => rfl, 0, ?_, fun a ha => by cases ha⟩
    cases fuel with
    | zero => simp [DataW.trod] at h
    | succ n => omega
  · have hwt : len * P.bytesOf e ≤ reachBytes := by
      have h1 := hw ((elems.map (·.1)).length * P.bytesOf e + (rest.map (·.1)).length * P.bytesOf e) (by simp [DataW.weights, ht, Nat.add_mul])
      rw [List.length_map, hlen] at h1
      omega
    refine ⟨some a, len, cap, rfl, hl, hm, hwt, (fun hn => by cases hn), n, by omega, fun a' ha i hi => ?_⟩
    obtain rfl := Option.some.inj ha
    have h1 := hel i hi
    rw [List.getElem?_eq_getElem (by omega)] at h1
    rw [hs] at h1
    obtain ⟨cs', hc, ht'⟩ := Option.bind_eq_some_iff.1 h1
    obtain ⟨h2, h3⟩ := cellsAt_of hc
    refine ⟨cs', _, h2, h3, ht', fun k hk => hw k ?_⟩
    simp only [DataW.weights, ht]
    exact List.mem_cons_of_mem _ (List.mem_append_left _ (weightsAll_mem (d := elems[i].1) (List.mem_map.2 ⟨_, List.getElem_mem (by omega), rfl⟩) k hk))
variable {α : Type} {f : α → List Value} {sz : Nat} {R : α → Prop}
/-- a slice whose elements read, as a list -/
theorem rd_slice {t e : TypeId} {fuel : Nat} {cs : List Value} {x : DataW H × List MemPlace} (ht : P.underlying t = some (.slice e)) (hs : P.cellsOf e = sz) (hsz : 0 < sz) (hf : ∀ x, (f x).length = sz)
    (he : ∀ (n : Nat) (cs' : List Value) (y : DataW H × List MemPlace), n < fuel → DataW.trod enc P w 0 spare held n e cs' = some y → Lt P e y.1 → ∃ u : α, cs' = f u ∧ R u)
    (h : DataW.trod enc P w 0 spare held fuel t cs = some x) (hw : Lt P t x.1) :
    ∃ (q : Option Addr) (l : List α) (cap : Nat), cs = [.slice q l.length cap] ∧ l.length ≤ cap ∧ cap ≤ maxLen ∧ l.length * P.bytesOf e ≤ reachBytes ∧ SlAt w w.heap.size q (cat f l) ∧ ∀ u ∈ l, R u := by
  obtain ⟨q, len, cap, rfl, hle, hcap, hwt, hq0, m, hm, hel⟩ := rd_slice0 ht hs h hw
  cases q with
  | none =>
    obtain rfl := hq0 rfl
    exact ⟨none, [], cap, rfl, hle, hcap, by simp, SlAt.nil, fun u hu => by cases hu⟩
  | some a =>
    obtain ⟨l, hl, hr⟩ := list_of (fun i (u : α) => CellsAt w (a.add (i * sz)) (f u) ∧ R u) len (fun i hi => by
      obtain ⟨cs', y, hc, hl1, ht', hy⟩ := hel a rfl i hi
      obtain ⟨u, rfl, hR⟩ := he m cs' y hm ht' hy
      exact ⟨u, hc, hR⟩)
    subst hl
    refine ⟨some a, l, cap, rfl, hle, hcap, hwt, fun hv => ⟨a, rfl, ?_, fun j v hj => ?_⟩, fun u hu => ?_⟩
    · rw [cat_length hf] at hv
      have hl0 : 0 < l.length := Nat.pos_of_mul_pos_right hv
      have h0 := (hr 0 _ (List.getElem?_eq_getElem hl0)).1
      rw [Nat.zero_mul, add_zero_] at h0
      have hz : 0 < (f l[0]).length := by rw [hf]; exact hsz
      have := h0 0 _ (List.getElem?_eq_getElem hz)
      rw [add_zero_] at this
      exact cell_lt this
    · have hjl := (List.getElem?_eq_some_iff.1 hj).1
      rw [cat_length hf] at hjl
      have hi : j / sz < l.length := Nat.div_lt_of_lt_mul (by rwa [Nat.mul_comm] at hjl)
      have h0 := (hr (j / sz) _ (List.getElem?_eq_getElem hi)).1
      have hm' : j % sz < (f l[j / sz]).length := by rw [hf]; exact Nat.mod_lt _ hsz
      have h1 := cat_get hf (List.getElem?_eq_getElem hi) (j % sz) _ (List.getElem?_eq_getElem hm')
      have ej : j / sz * sz + j % sz = j := by rw [Nat.mul_comm]; exact Nat.div_add_mod j sz
      rw [ej, hj] at h1
      have h2 := h0 (j % sz) _ (List.getElem?_eq_getElem hm')
      rw [add_add, ej] at h2
      rw [h2, h1]
    · obtain ⟨i, hi, rfl⟩ := List.getElem_of_mem hu
      exact (hr i _ (List.getElem?_eq_getElem hi)).2
end
end Go.Eng

/- Readings with the reach, as relations. General. No condition. Readings of core expressions. No condition. -/
namespace Go.Eng
open Go.RowKit Go.ChangeShapes Go.WideShapes Go.ChangeAt
set_option linter.unusedVariables false
set_option linter.unusedSimpArgs false
section
variable {H : Type} {enc : TypeId × Value → H} {P : Program} {w : World} {spare : Nat → Bool} {held : Bool} {α μ : Type} {R : Rel α μ}
theorem rd_arrL {t e : TypeId} {fuel : Nat} {cs : List Value} {x : DataW H × List MemPlace} (ht : P.underlying t = some (.slice e)) (hs : P.cellsOf e = R.sz)
    (he : ∀ (n : Nat) (cs' : List Value) (y : DataW H × List MemPlace), n < fuel → DataW.trod enc P w 0 spare held n e cs' = some y → Lt P e y.1 → ∃ u : α × μ, cs' = R.c u ∧ R.ok w (low w) u.1 u.2)
    (h : DataW.trod enc P w 0 spare held fuel t cs = some x) (hw : Lt P t x.1) :
    ∃ (q : Option Addr) (l : List (α × μ)) (cap : Nat), cs = [.slice q l.length cap] ∧ l.length ≤ cap ∧ cap ≤ maxLen ∧ l.length * P.bytesOf e ≤ reachBytes ∧ Arr R w (low w) l q := by
  obtain ⟨q, l, cap, e1, h1, h2, h3, h4, h5⟩ := rd_slice (α := α × μ) (f := R.c) (R := fun u => R.ok w (low w) u.1 u.2) ht hs R.pos R.clen he h hw
  exact ⟨q, l, cap, e1, h1, h2, h3, fun hl => h4 (by rw [cat_length (f := R.c) R.clen]; exact Nat.mul_pos hl R.pos), h5⟩
end
end Go.Eng
namespace Go.Proofs.YtlboppiogeaicaaDoor.co
open Go.RowKit Go.Eng Go.Co Go.ChangeShapes Go.WideShapes Go.ChangeAt
set_option linter.unusedVariables false
set_option linter.unusedSimpArgs false
set_option maxRecDepth 100000
section
variable {H : Type} {enc : TypeId × Value → H} {w : World} {spare : Nat → Bool} {held : Bool}
theorem list2 {α : Type} {l : List α} (h : l.length = 2) : ∃ a b, l = [a, b] := by
  match l, h with
  | [a, b], _ => exact ⟨a, b, rfl⟩
theorem list5 {α : Type} {l : List α} (h : l.length = 5) : ∃ a b c d e, l = [a, b, c, d, e] := by
  match l, h with
  | [a, b, c, d, e], _ => exact ⟨a, b, c, d, e, rfl⟩
theorem reach47 : reachBytes ≤ 140737488355328 := by decide
theorem cat_ints (l : List Int) : cat (fun x : Int => [Value.int .i64 x]) l = ints l := by
  induction l with
  | nil => rfl
  | cons x r ih =>
    show [Value.int .i64 x] ++ cat (fun x : Int => [Value.int .i64 x]) r = _
    rw [ih]
    rfl
theorem ints_rd {fuel : Nat} {cs : List Value} {x : DataW H × List MemPlace} (h : DataW.trod enc Tryd.prog w 0 spare held fuel 25 cs = some x) (hw : Lt Tryd.prog 25 x.1) :
    ∃ (q : Option Addr) (l : List Int) (cap : Nat), cs = [.slice q l.length cap] ∧ l.length ≤ cap ∧ l.length ≤ 140737488355328 ∧ IntsO w (low w) l q ∧ ∀ n ∈ l, I64 n := by
  obtain ⟨q, l, cap, e1, h1, h2, h3, h4, h5⟩ := rd_slice (α := Int) (f := fun x => [Value.int .i64 x]) (R := fun n => I64 n) Tryd.underlying25 (by kernel_rfl) (by decide) (fun _ => rfl) (fun n cs' y _ hy _ => by
    obtain ⟨k, e1, hk⟩ := DataW.trod_int Tryd.underlying3 hy
    exact ⟨k, e1, wf_i64 hk.2⟩) h hw
  rw [cat_ints] at h4
  have hb : Tryd.prog.bytesOf 3 = 8 := by kernel_rfl
  rw [hb] at h3
  have := reach47
  exact ⟨q, l, cap, e1, h1, by omega, fun hl => h4 (by rw [ints_length]; exact hl), h5⟩
theorem alt_rd {fuel : Nat} {cs : List Value} {x : DataW H × List MemPlace} (h : DataW.trod enc Tryd.prog w 0 spare held fuel 132 cs = some x) (hw : Lt Tryd.prog 132 x.1) : ∃ u : Al × Sc, cs = altR_.c u ∧ altR_.ok w (low w) u.1 u.2 := by
  obtain ⟨hlen, n, hn, hf⟩ := rd_struct Tryd.underlying132 h hw
  rw [show Tryd.prog.cellsOf 132 = 2 by kernel_rfl] at hlen
  obtain ⟨a0, a1, rfl⟩ := list2 hlen
  obtain ⟨y0, g0, w0⟩ := hf 0 _ rfl
  obtain ⟨y1, g1, w1⟩ := hf 1 _ rfl
  change DataW.trod enc Tryd.prog w 0 spare held n 3 ((List.drop 0 [a0, a1]).take (Tryd.prog.cellsOf 3)) = some y0 at g0
  change DataW.trod enc Tryd.prog w 0 spare held n 25 ((List.drop 1 [a0, a1]).take (Tryd.prog.cellsOf 25)) = some y1 at g1
  rw [show Tryd.prog.cellsOf 3 = 1 by kernel_rfl] at g0
  rw [show Tryd.prog.cellsOf 25 = 1 by kernel_rfl] at g1
  obtain ⟨k, e0, hk⟩ := DataW.trod_int Tryd.underlying3 g0
  obtain ⟨q, l, cap, e1, h1, h2, h3, h4⟩ := ints_rd g1 w1
  simp at e0 e1
  exact ⟨(⟨k, l⟩, (q, cap)), by rw [e0, e1]; rfl, wf_i64 hk.2, ⟨h2, h1⟩, h3⟩
theorem expr_rd {fuel : Nat} {cs : List Value} {x : DataW H × List MemPlace} (h : DataW.trod enc Tryd.prog w 0 spare held fuel 28 cs = some x) (hw : Lt Tryd.prog 28 x.1) : ∃ u : Ex × ExY, cs = exR.c u ∧ exR.ok w (low w) u.1 u.2 := by
  obtain ⟨hlen, n, hn, hf⟩ := rd_struct Tryd.underlying28 h hw
  rw [show Tryd.prog.cellsOf 28 = 5 by kernel_rfl] at hlen
  obtain ⟨a0, a1, a2, a3, a4, rfl⟩ := list5 hlen
  obtain ⟨y0, g0, w0⟩ := hf 0 _ rfl
  obtain ⟨y1, g1, w1⟩ := hf 1 _ rfl
  obtain ⟨y2, g2, w2⟩ := hf 2 _ rfl
  obtain ⟨y3, g3, w3⟩ := hf 3 _ rfl
  obtain ⟨y4, g4, w4⟩ := hf 4 _ rfl
  change DataW.trod enc Tryd.prog w 0 spare held n 3 ((List.drop 0 [a0, a1, a2, a3, a4]).take (Tryd.prog.cellsOf 3)) = some y0 at g0
  change DataW.trod enc Tryd.prog w 0 spare held n 3 ((List.drop 1 [a0, a1, a2, a3, a4]).take (Tryd.prog.cellsOf 3)) = some y1 at g1
  change DataW.trod enc Tryd.prog w 0 spare held n 25 ((List.drop 2 [a0, a1, a2, a3, a4]).take (Tryd.prog.cellsOf 25)) = some y2 at g2
  change DataW.trod enc Tryd.prog w 0 spare held n 25 ((List.drop 3 [a0, a1, a2, a3, a4]).take (Tryd.prog.cellsOf 25)) = some y3 at g3
  change DataW.trod enc Tryd.prog w 0 spare held n 26 ((List.drop 4 [a0, a1, a2, a3, a4]).take (Tryd.prog.cellsOf 26)) = some y4 at g4
  rw [show Tryd.prog.cellsOf 3 = 1 by kernel_rfl] at g0 g1
  rw [show Tryd.prog.cellsOf 25 = 1 by kernel_rfl] at g2 g3
  rw [show Tryd.prog.cellsOf 26 = 1 by kernel_rfl] at g4
  obtain ⟨op, e0, hop⟩ := DataW.trod_int Tryd.underlying3 g0
  obtain ⟨nn, e1, hnn⟩ := DataW.trod_int Tryd.underlying3 g1
  obtain ⟨qb, lb, cb, e2, b1, b2, b3, b4⟩ := ints_rd g2 w2
  obtain ⟨qk, lk, ck, e3, k1, k2, k3, k4⟩ := ints_rd g3 w3
  obtain ⟨qa, la, ca, e4, a1, a2, a3, a4⟩ := rd_arrL (R := altR_) Tryd.underlying26 (by kernel_rfl) (fun n cs' y _ hy hwy => alt_rd hy hwy) g4 w4
  have hb : Tryd.prog.bytesOf 132 = 32 := by kernel_rfl
  rw [hb] at a3
  have := reach47
  simp at e0 e1 e2 e3 e4
  refine ⟨(⟨op, nn, lb, lk, la.map Prod.fst⟩, ⟨(qb, cb), (qk, ck), (qa, ca)⟩), by rw [e0, e1, e2, e3, e4]; simp [Rel.c, exR, exC], ?_⟩
  exact ⟨wf_i64 hop.2, wf_i64 hnn.2, b2, k2, by simp only [List.length_map]; omega, b1, k1, by simp only [List.length_map]; exact a1, b3, k3, ⟨la, rfl, a4⟩⟩
theorem exprs_rd {fuel : Nat} {cs : List Value} {x : DataW H × List MemPlace} (h : DataW.trod enc Tryd.prog w 0 spare held fuel 22 cs = some x) (hw : Lt Tryd.prog 22 x.1) :
    ∃ (q : Option Addr) (l : List (Ex × ExY)) (cap : Nat), cs = [.slice q l.length cap] ∧ l.length ≤ 9223372036854775807 ∧ Arr exR w (low w) l q := by
  obtain ⟨q, l, cap, e1, h1, h2, h3, h4⟩ := rd_arrL (R := exR) Tryd.underlying22 (by kernel_rfl) (fun n cs' y _ hy hwy => expr_rd hy hwy) h hw
  unfold maxLen at h2
  exact ⟨q, l, cap, e1, by omega, h4⟩
theorem exprs_rd2 {fuel : Nat} {cs : List Value} {x : DataW H × List MemPlace} (h : DataW.trod enc Tryd.prog w 0 spare held fuel 22 cs = some x) (hw : Lt Tryd.prog 22 x.1) :
    ∃ (q : Option Addr) (l : List (Ex × ExY)) (cap : Nat), cs = [.slice q l.length cap] ∧ l.length ≤ 9223372036854775807 ∧ l.length ≤ cap ∧ Arr exR w (low w) l q := by
  obtain ⟨q, l, cap, e1, h1, h2, h3, h4⟩ := rd_arrL (R := exR) Tryd.underlying22 (by kernel_rfl) (fun n cs' y _ hy hwy => expr_rd hy hwy) h hw
  unfold maxLen at h2
  exact ⟨q, l, cap, e1, by omega, h1, h4⟩
end
end Go.Proofs.YtlboppiogeaicaaDoor.co
