/- The walk of the reference's Reaches; its matrix tells all paths. Conditions: none. -/
import Derived.Test.YtgllgllbgojhfaaMoB
import Derived.Test.YtgllgllbgojhfaaAny
import Derived.Test.YtgllgllbgojhfaaMaP
import Derived.Test.YtgllgllbgojhfaaGrid
import Derived.Test.YtgllgllbgojhfaaMoP
namespace Go.Proofs.Ytgllgllbgojhfaa.mo
open Go.RowKit Go.Eng Go.Mo
set_option linter.unusedVariables false
set_option linter.unusedSimpArgs false
set_option maxRecDepth 100000

def sl (n : Nat) (b : Nat) : Value := .slice (some ⟨b, 0, none⟩) n n
def bools (r : List Bool) : List Value := r.map .bool
/-- the outer slice's cells while the first bs are made -/
def outer (n : Nat) (bs : List Nat) : List Value := bs.map (sl n) ++ List.replicate (n - bs.length) (.slice none 0 0)

def initRows (l : List ByteArray) (ll : List (List ByteArray)) (i : Nat) : List (List Value) := (initM l ll i).map bools
theorem outer_length (n : Nat) (bs : List Nat) (h : bs.length ≤ n) : (outer n bs).length = n := by simp [outer]; omega
theorem outer_set (n : Nat) (bs : List Nat) (b : Nat) (h : bs.length < n) : (outer n bs).set bs.length (sl n b) = outer n (bs ++ [b]) := by
  unfold outer
  rw [show n - bs.length = (n - (bs ++ [b]).length) + 1 by simp; omega, List.replicate_succ, List.set_append_right _ _ (by simp)]
  simp
theorem outer_get {n : Nat} {bs : List Nat} {i b : Nat} (h : bs[i]? = some b) : (outer n bs)[i]? = some (sl n b) := by
  have hl := (List.getElem?_eq_some_iff.1 h).1
  unfold outer
  rw [List.getElem?_append_left (by simpa using hl)]
  simp [h]

/-- a row while its first j cells are set -/
def part (r : List Bool) (n j : Nat) : List Value := bools (r.take j) ++ List.replicate (n - j) (.bool false)
theorem part_length {r : List Bool} {n j : Nat} (h : r.length = n) (hj : j ≤ n) : (part r n j).length = n := by simp [part, bools]; omega
theorem part_set {r : List Bool} {n j : Nat} {b : Bool} (h : r.length = n) (hb : r[j]? = some b) : (part r n j).set j (.bool b) = part r n (j + 1) := by
  have hj := (List.getElem?_eq_some_iff.1 hb).1
  unfold part bools
  rw [show n - j = (n - (j + 1)) + 1 by omega, List.replicate_succ, List.set_append_right _ _ (by simp; omega)]
  have h1 : (List.map Value.bool (r.take j)).length = j := by simp; omega
  rw [h1, Nat.sub_self, List.set_cons_zero, List.take_add_one, hb]
  simp
theorem part_zero (r : List Bool) (n : Nat) : part r n 0 = List.replicate n (.bool false) := by simp [part, bools]
theorem part_all {r : List Bool} {n : Nat} (h : r.length = n) : part r n n = bools r := by simp [part, ← h]

/-- a square of bools that is read -/
structure SqAt (w : World) (B : Nat) (q : Option Addr) (M : List (List Bool)) : Prop where
  get : ∀ (i : Nat) (r : List Bool), M[i]? = some r → ∃ a q', q = some a ∧ a.block < B ∧ w.cell? (a.add (i * 1)) = some (.slice q' r.length r.length) ∧ SlAt w B q' (bools r)
theorem grid_cell {w : World} {bs : List Nat} {t : TypeId} {rows : List (List Value)} {i b j : Nat} {r : List Value} {v : Value} (h : (grid bs t rows).holds w) (hb : bs[i]? = some b) (hr : rows[i]? = some r) (hv : r[j]? = some v) : w.cell? ⟨b, j, none⟩ = some v := by
  rw [blk_cell (grid_blk h hb hr)]; exact hv
theorem bools_set (r : List Bool) (j : Nat) (b : Bool) : (bools r).set j (.bool b) = bools (r.set j b) := by simp [bools, List.map_set]
theorem rows_set (M : List (List Bool)) (i j : Nat) (r : List Bool) (b : Bool) : (M.map bools).set i ((bools r).set j (.bool b)) = (M.set i (r.set j b)).map bools := by rw [bools_set, List.map_set]
theorem bools_get {r : List Bool} {j : Nat} {b : Bool} (h : r[j]? = some b) : (bools r)[j]? = some (.bool b) := by simp [bools, h]

theorem Reaches2_calls (q q' : Option Addr) (cap cap' : Nat) (l : List ByteArray) (ll : List (List ByteArray)) (w : World) (hl16 : l.length ≤ 16) (hll : ll.length = l.length) (hcap : l.length ≤ cap) (h : SlAt w w.heap.size q (strs l)) (h' : StrRows w w.heap.size q' ll) :
    Calls Try.prog 8 #[.slice q l.length cap, .slice q' ll.length cap'] w fun e w' =>
      ∃ (M : List (List Bool)) (a : Option Addr), e = .returned (.slice a l.length l.length) ∧ (GoodM l ll M ∧ ∀ i j, i < l.length → j < l.length → (mget M i j = true ↔ Path l ll i j)) ∧ SqAt w' w'.heap.size a M ∧ Ext w w' := by
  refine enter Try.func8 rfl Try.ntmps8 rfl (Cls.start w) ?_
  (simp only [argEnv, Nat.zero_add, Nat.reduceAdd])
  apply W.seq
  apply W.reg
  apply oas; rfl; rfl
  apply OL.nil
  with_reducible apply At.next
  apply W.seq
  apply W.reg
  apply omv; rfl; rfl
  apply OL.op; exact Guard.none; rfl; rfl; apply Pev.len_slice; rfl; exact yes; rfl
  apply oas; rfl; rfl
  apply OL.nil
  with_reducible apply At.next
  apply W.seq
  apply W.reg
  apply omv; rfl; rfl
  apply OL.makeSlice; rfl; rfl; rfl; rfl; rfl; rfl; rfl; omega; (intro bk hbk; simp only [AllLe, and_true] at hbk)
  apply oas; rfl; rfl
  apply OL.nil
  with_reducible apply At.next
  apply W.seq
  apply W.seq
  apply W.reg
  apply omv; rfl; rfl
  apply OL.op; exact Guard.none; rfl; rfl; apply Pev.len_slice; rfl; exact yes; rfl
  apply omv; rfl; rfl
  apply OL.nil
  with_reducible apply At.next
  apply W.block
  revert bk
  intro bo hbo
  refine W.loop (G := List Nat) (fun bs => bs.length ≤ l.length ∧ ∀ b, b ∈ bs → w.heap.size ≤ b) (fun bs => l.length - bs.length)
    (fun bs => [(18, true, .int .i64 (bs.length : Int)), (17, true, .int .i64 (l.length : Int)), (6, true, .slice (some ⟨bo, 0, none⟩) l.length l.length), (5, true, .int .i64 (l.length : Int)), (0, true, .slice q l.length cap), (1, true, .slice q' ll.length cap')])
    (fun bs => Cls [grid bs 4 (initRows l ll bs.length), blk bo 31 (outer l.length bs)] [w]) [] ⟨by simp, fun b hb => by cases hb⟩ (by (repeat (first | exact Sub.nil | apply Sub.cons rfl | (refine Sub.cons_eq rfl (congrArg (Value.int .i64) (by first | omega | (simp only; omega))) ?_)))) (fun w' hw' => hw'.grid_start _) ?_
  rintro bs ⟨hbs, hbb⟩
  have ho := outer_length l.length bs hbs
  apply W.seq
  apply W.reg
  apply obn; rfl; rfl; rfl; apply Bin.lss
  apply OL.nil
  with_reducible apply At.next
  apply W.seq
  (refine W.cond rfl (fun hlt => ?_) (fun hlt => ?_)) <;> (try (simp only [Bool.and_eq_true, Bool.or_eq_true, Bool.not_eq_true', Bool.and_eq_false_iff, Bool.or_eq_false_iff, Bool.not_eq_false', decide_eq_true_eq, decide_eq_false_iff_not, Int.not_lt, Int.not_le] at hlt)) <;> (try (exfalso; first | omega | exact hlt trivial | contradiction))
  · have hil : bs.length < l.length := by omega
    apply W.skip
    with_reducible apply At.next
    apply W.seq
    apply W.block
    apply W.seq
    apply W.reg
    apply omv; rfl; rfl
    apply oas; rfl; rfl
    apply OL.nil
    with_reducible apply At.next
    apply W.seq
    apply W.reg
    apply omv; rfl; rfl
    apply omv; rfl; rfl
    apply omv; rfl; rfl
    apply OL.makeSlice; rfl; rfl; rfl; rfl; rfl; rfl; rfl; omega; (intro bk hbk; simp only [AllLe, and_true] at hbk)
    apply OL.op; exact Guard.none; rfl; rfl; apply Pev.idxB; rfl; exact yes; rfl; exact yes; rfl; intro hcond; omega; rfl
    rw [show 0 + (bs.length : Int).toNat * 1 = bs.length by omega]
    (apply OL.storeI); rfl; rfl; rfl; rfl; rfl; ((repeat (first | apply Swap.z | apply Swap.s))); (rw [ho]; exact hil)
    rw [show (outer l.length bs).set bs.length (.slice (some ⟨bk, 0, none⟩) l.length l.length) = outer l.length (bs ++ [bk]) from outer_set _ _ _ hil]
    have hget : (outer l.length (bs ++ [bk]))[0 + (bs.length : Int).toNat * 1]? = some (.slice (some ⟨bk, 0, none⟩) l.length l.length) := by
      rw [show 0 + (bs.length : Int).toNat * 1 = bs.length by omega]
      exact outer_get (by simp)
    apply OL.nil
    with_reducible apply At.next
    apply W.seq
    apply W.reg
    apply omv; rfl; rfl
    apply omv; rfl; rfl
    apply OL.op; exact Guard.none; rfl; rfl; apply Pev.idxB; rfl; exact yes; rfl; exact yes; rfl; intro hcond; omega; rfl
    apply OL.op; exact Guard.none; rfl; rfl; apply Pev.load_blk; rfl; exact yes; exact .tail _ (.tail _ (.head _)); rfl; assumption
    apply OL.op; exact Guard.none; rfl; rfl; apply Pev.len_slice; rfl; exact yes; rfl
    apply omv; rfl; rfl
    apply OL.nil
    with_reducible apply At.next
    apply W.block
    obtain ⟨m, hm⟩ : ∃ m, ll[bs.length]? = some m := ⟨_, List.getElem?_eq_getElem (by omega)⟩
    obtain ⟨a2, qm, capm, rfl, hab2, hcell2, hmcap, hmlen, hms⟩ := h'.get bs.length m hm
    have hrl : (initRow l m).length = l.length := by simp [initRow]
    refine W.loop (G := Nat) (fun j => j ≤ l.length) (fun j => l.length - j)
      (fun j => [(31, true, .int .i64 (j : Int)), (30, true, .int .i64 (l.length : Int)), (7, true, .int .i64 (bs.length : Int)), (18, true, .int .i64 (bs.length : Int)), (17, true, .int .i64 (l.length : Int)), (6, true, .slice (some ⟨bo, 0, none⟩) l.length l.length), (5, true, .int .i64 (l.length : Int)), (0, true, .slice q l.length cap), (1, true, .slice (some a2) ll.length cap')])
      (fun j => Cls [blk bk 4 (part (initRow l m) l.length j), grid bs 4 (initRows l ll bs.length), blk bo 31 (outer l.length (bs ++ [bk]))] [w]) 0 (by omega) (by (repeat (first | exact Sub.nil | apply Sub.cons rfl | (refine Sub.cons_eq rfl (congrArg (Value.int .i64) (by first | omega | (simp only; omega))) ?_)))) (fun w' hw' => by rw [part_zero]; exact hw') ?_
    intro j hj
    have hpl := part_length hrl hj
    apply W.seq
    apply W.reg
    apply obn; rfl; rfl; rfl; apply Bin.lss
    apply OL.nil
    with_reducible apply At.next
    apply W.seq
    (refine W.cond rfl (fun hltj => ?_) (fun hltj => ?_)) <;> (try (simp only [Bool.and_eq_true, Bool.or_eq_true, Bool.not_eq_true', Bool.and_eq_false_iff, Bool.or_eq_false_iff, Bool.not_eq_false', decide_eq_true_eq, decide_eq_false_iff_not, Int.not_lt, Int.not_le] at hltj)) <;> (try (exfalso; first | omega | exact hltj trivial | contradiction))
    · have hjl : j < l.length := by omega
      obtain ⟨a, s, rfl, hab, hs, hcell⟩ := h.str hjl
      have hrb : (initRow l m)[j]? = some (hasB m s) := by simp [initRow, hs]
      apply W.skip
      with_reducible apply At.next
      apply W.seq
      apply W.block
      apply W.seq
      apply W.reg
      apply omv; rfl; rfl
      apply oas; rfl; rfl
      apply OL.nil
      with_reducible apply At.next
      apply W.regq; apply Split.s rfl; apply Split.s rfl; apply Split.s rfl; apply Split.s rfl; apply Split.s rfl; apply Split.s rfl; apply Split.s rfl; apply Split.s rfl; apply Split.s rfl; apply Split.s rfl; apply Split.s rfl; apply Split.s rfl; apply Split.s rfl; apply Split.s rfl; apply Split.s rfl; exact Split.z rfl; kernel_rfl; decide +kernel; exact fun w hw => hw.drew
      apply qmv; rfl; rfl
      apply qmv; rfl; rfl
      apply QL.op; exact Guard.none; rfl; rfl; apply Pev.idxB; rfl; exact yes; rfl; exact yes; rfl; intro hcond; omega; rfl
      apply QL.op; exact Guard.none; rfl; rfl; apply Pev.load_blk; rfl; exact yes; exact .tail _ (.tail _ (.head _)); rfl; assumption
      apply qmv; rfl; rfl
      apply qmv; rfl; rfl
      apply qmv; rfl; rfl
      apply QL.op; exact Guard.none; rfl; rfl; apply Pev.idx; rfl; exact yes; rfl; exact yes; rfl; rfl; intro hcond; omega
      apply QL.op; exact Guard.none; rfl; rfl; apply Pev.load_kept; rfl; exact yes; exact .head _; rfl; intro hcond; assumption; intro hcond; (rw [add_block]; assumption); intro hcond; simp only [add_block]; refine NotOwned.blk (by omega) ?_; refine NotOwned.grid (by assumption) (by omega) ?_; refine NotOwned.blk (by omega) ?_; exact NotOwned.nil
      apply qmv; rfl; rfl
      apply qmv; rfl; rfl
      apply QL.op; exact Guard.none; rfl; rfl; apply Pev.idx; rfl; exact yes; rfl; exact yes; rfl; rfl; intro hcond; omega
      apply QL.op; exact Guard.none; rfl; rfl; apply Pev.load_kept; rfl; exact yes; exact .head _; rfl; intro hcond; assumption; intro hcond; (rw [add_block]; assumption); intro hcond; simp only [add_block]; refine NotOwned.blk (by omega) ?_; refine NotOwned.grid (by assumption) (by omega) ?_; refine NotOwned.blk (by omega) ?_; exact NotOwned.nil
      (((first | (with_reducible apply OL.op) | (with_reducible apply QL.op)); ((first | exact Guard.none | exact Guard.yes rfl rfl | exact Guard.no rfl rfl | exact Guard.cyes rfl rfl | exact Guard.cno rfl rfl)); rfl; rfl); (exact Pev.call rfl (by (repeat (first | exact Args.nil | (apply Args.cons rfl; ((first | exact fun _ => rfl | exact fun h => h | (intro h; simp_all; done))))))) (fun _ w2 hw2 => (has_calls qm capm m s w2 hmlen (hms.keep (hw2.below (s := w) (by (repeat (first | exact List.Mem.head _ | apply List.Mem.tail))) (Nat.le_refl _) (fun k hk => by (focus ((try simp only [add_block]); (repeat (first | exact NotOwned.nil | exact hno _ (by omega) | refine NotOwned.nothing ?_ | refine NotOwned.nds (hlow _ (by omega)) ?_ | refine NotOwned.mapS (by omega) ?_ | apply NotOwned.bif | refine NotOwned.blk (by omega) ?_ | refine NotOwned.row (by omega) ?_ | refine NotOwned.grid (by assumption) (by omega) ?_)); done)))) (hw2.kp w (by (repeat (first | exact List.Mem.head _ | apply List.Mem.tail)))).size)).mono (fun e w3 h => ⟨h.1, hw2.ext h.2⟩))))
      apply QL.op; exact Guard.none; rfl; rfl; apply Pev.idxB; rfl; exact yes; rfl; exact yes; rfl; intro hcond; omega; rfl
      with_reducible apply QL.tail
      rw [show 0 + (j : Int).toNat * 1 = j by omega]
      (apply OL.storeI); rfl; rfl; rfl; rfl; rfl; ((repeat (first | apply Swap.z | apply Swap.s))); (rw [hpl]; exact hjl)
      rw [part_set hrl hrb]
      apply OL.nil
      with_reducible apply At.in_normal
      with_reducible apply At.next
      apply W.reg
      apply obn; rfl; rfl; rfl; apply Bin.add_in; omega
      apply omv; rfl; rfl
      apply OL.nil
      exact At.again (j + 1) (by omega) (by omega) (by (repeat (first | exact Sub.nil | apply Sub.cons rfl | (refine Sub.cons_eq rfl (congrArg (Value.int .i64) (by first | omega | (simp only; omega))) ?_)))) (fun w' hw' => hw')
    · obtain rfl : j = l.length := by omega
      apply W.exit
      with_reducible apply At.then_exit
      with_reducible apply At.then_exit
      with_reducible apply At.in_exit
      with_reducible apply At.in_normal
      with_reducible apply At.next
      apply W.reg
      apply obn; rfl; rfl; rfl; apply Bin.add_in; omega
      apply omv; rfl; rfl
      apply OL.nil
      rw [part_all hrl]
      have e1 : (bs ++ [bk]).length = bs.length + 1 := by simp
      have e2 : initRows l ll (bs.length + 1) = initRows l ll bs.length ++ [bools (initRow l m)] := by simp [initRows, initM, List.range_succ, hm]
      exact At.again (bs ++ [bk]) ⟨by simp only [e1]; omega, fun b hb => by
        rcases List.mem_append.1 hb with hb | hb
        · exact hbb b hb
        · rw [List.mem_singleton.1 hb]; exact hbk⟩ (by simp only [e1]; omega) (by simp only [e1]; (repeat (first | exact Sub.nil | apply Sub.cons rfl | (refine Sub.cons_eq rfl (congrArg (Value.int .i64) (by first | omega | (simp only; omega))) ?_)))) (fun w' hw' => by simp only [e1, e2]; exact hw'.grid_push)
  · apply W.exit
    with_reducible apply At.then_exit
    with_reducible apply At.then_exit
    with_reducible apply At.in_exit
    with_reducible apply At.next
    apply W.seq
    apply W.seq
    apply W.reg
    apply omv; rfl; rfl
    apply OL.op; exact Guard.none; rfl; rfl; apply Pev.len_slice; rfl; exact yes; rfl
    apply omv; rfl; rfl
    apply OL.nil
    with_reducible apply At.next
    apply W.block
    obtain hbn : bs.length = l.length := by omega
    rw [hbn]
    have hout : outer l.length bs = bs.map (sl l.length) := by simp [outer, hbn]
    have hat : ∀ i, i < l.length → ∃ b, bs[i]? = some b ∧ (outer l.length bs)[0 + (i : Int).toNat * 1]? = some (.slice (some ⟨b, 0, none⟩) l.length l.length) := fun i hi => by
      have hb : bs[i]? = some (bs[i]'(by omega)) := List.getElem?_eq_getElem (by omega)
      refine ⟨_, hb, ?_⟩
      rw [show 0 + (i : Int).toNat * 1 = i by omega]
      exact outer_get hb
    have hrow : ∀ M, GoodM l ll M → ∀ i, i < l.length → ∃ r, M[i]? = some r ∧ r.length = l.length := fun M hM i hi => by
      have hb : M[i]? = some (M[i]'(by rw [hM.len]; exact hi)) := List.getElem?_eq_getElem _
      exact ⟨_, hb, hM.row _ _ hb⟩
    have hbit : ∀ (r : List Bool) (j : Nat), r.length = l.length → j < l.length → ∃ b, r[j]? = some b := fun r j h1 h2 => ⟨_, List.getElem?_eq_getElem (by omega)⟩
    refine W.loop (G := Nat × List (List Bool)) (fun g => g.1 ≤ l.length ∧ St l ll g.1 0 0 g.2) (fun g => l.length - g.1)
      (fun g => [(53, true, .int .i64 (g.1 : Int)), (52, true, .int .i64 (l.length : Int)), (6, true, .slice (some ⟨bo, 0, none⟩) l.length l.length)])
      (fun g => Cls [grid bs 4 (g.2.map bools), blk bo 31 (outer l.length bs)] [w]) (0, initM l ll l.length) ⟨by simp, St.init⟩ (by (repeat (first | exact Sub.nil | apply Sub.cons rfl | (refine Sub.cons_eq rfl (congrArg (Value.int .i64) (by first | omega | (simp only; omega))) ?_)))) (fun w' hw' => hw') ?_
    rintro ⟨k, M⟩ ⟨hk, hM⟩
    simp only at hk hM ⊢
    apply W.seq
    apply W.reg
    apply obn; rfl; rfl; rfl; apply Bin.lss
    apply OL.nil
    with_reducible apply At.next
    apply W.seq
    (refine W.cond rfl (fun hltk => ?_) (fun hltk => ?_)) <;> (try (simp only [Bool.and_eq_true, Bool.or_eq_true, Bool.not_eq_true', Bool.and_eq_false_iff, Bool.or_eq_false_iff, Bool.not_eq_false', decide_eq_true_eq, decide_eq_false_iff_not, Int.not_lt, Int.not_le] at hltk)) <;> (try (exfalso; first | omega | exact hltk trivial | contradiction))
    · have hkl : k < l.length := by omega
      obtain ⟨bk, hbk, hok⟩ := hat k hkl
      apply W.skip
      with_reducible apply At.next
      apply W.seq
      apply W.block
      apply W.seq
      apply W.reg
      apply omv; rfl; rfl
      apply oas; rfl; rfl
      apply OL.nil
      with_reducible apply At.next
      apply W.seq
      apply W.reg
      apply omv; rfl; rfl
      apply OL.op; exact Guard.none; rfl; rfl; apply Pev.len_slice; rfl; exact yes; rfl
      apply omv; rfl; rfl
      apply OL.nil
      with_reducible apply At.next
      apply W.block
      refine W.loop (G := Nat × List (List Bool)) (fun g => g.1 ≤ l.length ∧ St l ll k g.1 0 g.2) (fun g => l.length - g.1)
        (fun g => [(58, true, .int .i64 (g.1 : Int)), (57, true, .int .i64 (l.length : Int)), (9, true, .int .i64 (k : Int)), (53, true, .int .i64 (k : Int)), (52, true, .int .i64 (l.length : Int)), (6, true, .slice (some ⟨bo, 0, none⟩) l.length l.length)])
        (fun g => Cls [grid bs 4 (g.2.map bools), blk bo 31 (outer l.length bs)] [w]) (0, M) ⟨by simp, hM⟩ (by (repeat (first | exact Sub.nil | apply Sub.cons rfl | (refine Sub.cons_eq rfl (congrArg (Value.int .i64) (by first | omega | (simp only; omega))) ?_)))) (fun w' hw' => hw') ?_
      rintro ⟨i, M1⟩ ⟨hi, hM1⟩
      simp only at hi hM1 ⊢
      apply W.seq
      apply W.reg
      apply obn; rfl; rfl; rfl; apply Bin.lss
      apply OL.nil
      with_reducible apply At.next
      apply W.seq
      (refine W.cond rfl (fun hlti => ?_) (fun hlti => ?_)) <;> (try (simp only [Bool.and_eq_true, Bool.or_eq_true, Bool.not_eq_true', Bool.and_eq_false_iff, Bool.or_eq_false_iff, Bool.not_eq_false', decide_eq_true_eq, decide_eq_false_iff_not, Int.not_lt, Int.not_le] at hlti)) <;> (try (exfalso; first | omega | exact hlti trivial | contradiction))
      · have hil : i < l.length := by omega
        obtain ⟨bi, hbi, hoi⟩ := hat i hil
        apply W.skip
        with_reducible apply At.next
        apply W.seq
        apply W.block
        apply W.seq
        apply W.reg
        apply omv; rfl; rfl
        apply oas; rfl; rfl
        apply OL.nil
        with_reducible apply At.next
        apply W.seq
        apply W.reg
        apply omv; rfl; rfl
        apply OL.op; exact Guard.none; rfl; rfl; apply Pev.len_slice; rfl; exact yes; rfl
        apply omv; rfl; rfl
        apply OL.nil
        with_reducible apply At.next
        apply W.block
        refine W.loop (G := Nat × List (List Bool)) (fun g => g.1 ≤ l.length ∧ St l ll k i g.1 g.2) (fun g => l.length - g.1)
          (fun g => [(63, true, .int .i64 (g.1 : Int)), (62, true, .int .i64 (l.length : Int)), (10, true, .int .i64 (i : Int)), (58, true, .int .i64 (i : Int)), (57, true, .int .i64 (l.length : Int)), (9, true, .int .i64 (k : Int)), (53, true, .int .i64 (k : Int)), (52, true, .int .i64 (l.length : Int)), (6, true, .slice (some ⟨bo, 0, none⟩) l.length l.length)])
          (fun g => Cls [grid bs 4 (g.2.map bools), blk bo 31 (outer l.length bs)] [w]) (0, M1) ⟨by simp, hM1⟩ (by (repeat (first | exact Sub.nil | apply Sub.cons rfl | (refine Sub.cons_eq rfl (congrArg (Value.int .i64) (by first | omega | (simp only; omega))) ?_)))) (fun w' hw' => hw') ?_
        rintro ⟨j, M2⟩ ⟨hj, hM2⟩
        simp only at hj hM2 ⊢
        apply W.seq
        apply W.reg
        apply obn; rfl; rfl; rfl; apply Bin.lss
        apply OL.nil
        with_reducible apply At.next
        apply W.seq
        (refine W.cond rfl (fun hltj => ?_) (fun hltj => ?_)) <;> (try (simp only [Bool.and_eq_true, Bool.or_eq_true, Bool.not_eq_true', Bool.and_eq_false_iff, Bool.or_eq_false_iff, Bool.not_eq_false', decide_eq_true_eq, decide_eq_false_iff_not, Int.not_lt, Int.not_le] at hltj)) <;> (try (exfalso; first | omega | exact hltj trivial | contradiction))
        · have hjl : j < l.length := by omega
          obtain ⟨ri, hri, hril⟩ := hrow M2 hM2.1 i hil
          obtain ⟨rk, hrk, hrkl⟩ := hrow M2 hM2.1 k hkl
          obtain ⟨c1, hc1⟩ := hbit ri k hril hkl
          obtain ⟨c2, hc2⟩ := hbit rk j hrkl hjl
          apply W.skip
          with_reducible apply At.next
          apply W.seq
          apply W.block
          apply W.seq
          apply W.reg
          apply omv; rfl; rfl
          apply oas; rfl; rfl
          apply OL.nil
          with_reducible apply At.next
          apply W.seq
          apply W.reg
          apply omv; rfl; rfl
          apply omv; rfl; rfl
          apply OL.op; exact Guard.none; rfl; rfl; apply Pev.idxB; rfl; exact yes; rfl; exact yes; rfl; intro hcond; omega; rfl
          apply OL.op; exact Guard.none; rfl; rfl; apply Pev.load_blk; rfl; exact yes; exact .tail _ (.head _); rfl; assumption
          apply omv; rfl; rfl
          apply OL.op; exact Guard.none; rfl; rfl; apply Pev.idxB; rfl; exact yes; rfl; exact yes; rfl; intro hcond; omega; rfl
          (((first | (with_reducible apply OL.op) | (with_reducible apply QL.op)); ((first | exact Guard.none | exact Guard.yes rfl rfl | exact Guard.no rfl rfl | exact Guard.cyes rfl rfl | exact Guard.cno rfl rfl)); rfl; rfl); (apply Pev.load_cls); rfl; ((first | exact fun _ => rfl | exact fun h => h | (intro h; simp_all; done))); rfl; (exact fun _ w2 hw2 => by rw [show 0 + (k : Int).toNat * 1 = k by omega]; exact grid_cell (hw2.item (i := grid bs 4 (M2.map bools)) (by (repeat (first | exact List.Mem.head _ | apply List.Mem.tail)))) hbi (by rw [List.getElem?_map, hri]; rfl) (bools_get hc1)))
          apply omv; rfl; rfl
          apply OL.op; exact Guard.yes rfl rfl; rfl; rfl; apply Pev.move; rfl; exact yes
          apply OL.op; exact Guard.yes rfl rfl; rfl; rfl; apply Pev.move; rfl; exact yes
          apply OL.op; exact Guard.yes rfl rfl; rfl; rfl; apply Pev.idxB; rfl; exact fun h => h; rfl; exact fun h => h; rfl; intro hcond; omega; rfl
          apply OL.op; exact Guard.yes rfl rfl; rfl; rfl; apply Pev.load_blk; rfl; exact fun h => h; exact .tail _ (.head _); rfl; assumption
          apply OL.op; exact Guard.yes rfl rfl; rfl; rfl; apply Pev.move; rfl; exact yes
          apply OL.op; exact Guard.yes rfl rfl; rfl; rfl; apply Pev.idxB; rfl; exact fun h => h; rfl; exact fun h => h; rfl; intro hcond; omega; rfl
          (((first | (with_reducible apply OL.op) | (with_reducible apply QL.op)); ((first | exact Guard.none | exact Guard.yes rfl rfl | exact Guard.no rfl rfl | exact Guard.cyes rfl rfl | exact Guard.cno rfl rfl)); rfl; rfl); (apply Pev.load_cls); rfl; ((first | exact fun _ => rfl | exact fun h => h | (intro h; simp_all; done))); rfl; (exact fun _ w2 hw2 => by rw [show 0 + (j : Int).toNat * 1 = j by omega]; exact grid_cell (hw2.item (i := grid bs 4 (M2.map bools)) (by (repeat (first | exact List.Mem.head _ | apply List.Mem.tail)))) hbk (by rw [List.getElem?_map, hrk]; rfl) (bools_get hc2)))
          apply OL.op; exact Guard.none; rfl; rfl; apply Pev.pick_and; rfl; exact yes; rfl; exact fun h => h
          apply OL.nil
          with_reducible apply At.next
          refine W.cond rfl (fun hc => ?_) (fun hc => ?_)
          · rw [Bool.and_eq_true] at hc
            obtain ⟨rfl, rfl⟩ := hc
            apply W.reg
            apply omv; rfl; rfl
            apply omv; rfl; rfl
            apply OL.op; exact Guard.none; rfl; rfl; apply Pev.idxB; rfl; exact yes; rfl; exact yes; rfl; intro hcond; omega; rfl
            apply OL.op; exact Guard.none; rfl; rfl; apply Pev.load_blk; rfl; exact yes; exact .tail _ (.head _); rfl; assumption
            apply omv; rfl; rfl
            apply OL.op; exact Guard.none; rfl; rfl; apply Pev.idxB; rfl; exact yes; rfl; exact yes; rfl; intro hcond; omega; rfl
            refine OL.storeG (r := bools ri) rfl rfl rfl rfl rfl .z hbi (by rw [List.getElem?_map, hri]; rfl) (by simp [bools]; omega) ?_
            rw [show 0 + (j : Int).toNat * 1 = j by omega, rows_set]
            apply OL.nil
            with_reducible apply At.in_normal
            with_reducible apply At.next
            apply W.reg
            apply obn; rfl; rfl; rfl; apply Bin.add_in; omega
            apply omv; rfl; rfl
            apply OL.nil
            exact At.again (j + 1, M2.set i (ri.set j true)) ⟨by simp only; omega, St.set hM2 hri hrk hc1 hc2 (by omega)⟩ (by simp only; omega) (by (repeat (first | exact Sub.nil | apply Sub.cons rfl | (refine Sub.cons_eq rfl (congrArg (Value.int .i64) (by first | omega | (simp only; omega))) ?_)))) (fun w' hw' => hw')
          · apply W.skip
            with_reducible apply At.in_normal
            with_reducible apply At.next
            apply W.reg
            apply obn; rfl; rfl; rfl; apply Bin.add_in; omega
            apply omv; rfl; rfl
            apply OL.nil
            exact At.again (j + 1, M2) ⟨by simp only; omega, St.skip hM2 hri hrk hc1 hc2 hc⟩ (by simp only; omega) (by (repeat (first | exact Sub.nil | apply Sub.cons rfl | (refine Sub.cons_eq rfl (congrArg (Value.int .i64) (by first | omega | (simp only; omega))) ?_)))) (fun w' hw' => hw')
        · obtain rfl : j = l.length := by omega
          apply W.exit
          with_reducible apply At.then_exit
          with_reducible apply At.then_exit
          with_reducible apply At.in_exit
          with_reducible apply At.in_normal
          with_reducible apply At.next
          apply W.reg
          apply obn; rfl; rfl; rfl; apply Bin.add_in; omega
          apply omv; rfl; rfl
          apply OL.nil
          exact At.again (i + 1, M2) ⟨by simp only; omega, St.row hM2⟩ (by simp only; omega) (by (repeat (first | exact Sub.nil | apply Sub.cons rfl | (refine Sub.cons_eq rfl (congrArg (Value.int .i64) (by first | omega | (simp only; omega))) ?_)))) (fun w' hw' => hw')
      · obtain rfl : i = l.length := by omega
        apply W.exit
        with_reducible apply At.then_exit
        with_reducible apply At.then_exit
        with_reducible apply At.in_exit
        with_reducible apply At.in_normal
        with_reducible apply At.next
        apply W.reg
        apply obn; rfl; rfl; rfl; apply Bin.add_in; omega
        apply omv; rfl; rfl
        apply OL.nil
        exact At.again (k + 1, M1) ⟨by simp only; omega, St.next hkl hM1⟩ (by simp only; omega) (by (repeat (first | exact Sub.nil | apply Sub.cons rfl | (refine Sub.cons_eq rfl (congrArg (Value.int .i64) (by first | omega | (simp only; omega))) ?_)))) (fun w' hw' => hw')
    · obtain rfl : k = l.length := by omega
      have hM' := hM.1
      apply W.exit
      with_reducible apply At.then_exit
      with_reducible apply At.then_exit
      with_reducible apply At.in_exit
      with_reducible apply At.next
      apply W.seq
      apply W.reg
      apply omv; rfl; rfl
      apply oas; rfl; rfl
      apply OL.nil
      with_reducible apply At.next
      apply W.ret
      ((with_reducible apply At.fin1); rfl; rfl; intro w' hw')
      refine ⟨M, some ⟨bo, 0, none⟩, rfl, ⟨hM', St.all hM⟩, ⟨fun i r hr => ?_⟩, by (exact hw'.toExt (by (repeat (first | exact List.Mem.head _ | apply List.Mem.tail))) (fun k hk => by (focus ((try simp only [add_block]); (repeat (first | exact NotOwned.nil | exact hno _ (by omega) | refine NotOwned.nothing ?_ | refine NotOwned.nds (hlow _ (by omega)) ?_ | refine NotOwned.mapS (by omega) ?_ | apply NotOwned.bif | refine NotOwned.blk (by omega) ?_ | refine NotOwned.row (by omega) ?_ | refine NotOwned.grid (by assumption) (by omega) ?_)); done))))⟩
      have hil : i < l.length := by
        have := (List.getElem?_eq_some_iff.1 hr).1
        rwa [hM'.len] at this
      obtain ⟨b, hb, ho2⟩ := hat i hil
      have hg := hw'.item (i := grid bs 4 (M.map bools)) (by (repeat (first | exact List.Mem.head _ | apply List.Mem.tail)))
      have hbo2 := hw'.item (i := blk bo 31 (outer l.length bs)) (by (repeat (first | exact List.Mem.head _ | apply List.Mem.tail)))
      rw [show 0 + (i : Int).toNat * 1 = i by omega] at ho2
      have hrl := hM'.row _ _ hr
      refine ⟨_, some ⟨b, 0, none⟩, rfl, blk_lt hbo2, ?_, SlAt.of_blk (o := 0) (grid_blk hg hb (by rw [List.getElem?_map, hr]; rfl)) (fun j v hj => by rw [Nat.zero_add]; exact hj)⟩
      rw [add_mid, blk_cell hbo2, hrl, show 0 + i * 1 = i by omega]
      exact ho2
end Go.Proofs.Ytgllgllbgojhfaa.mo
