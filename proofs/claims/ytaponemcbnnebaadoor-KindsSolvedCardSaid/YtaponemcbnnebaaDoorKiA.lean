/- The walks of the kinds' solver: root and join. Conditions: none. -/
import Derived.Test.YtaponemcbnnebaaDoorKiP
import Derived.Test.YtaponemcbnnebaaDoorExt
import Derived.Test.YtaponemcbnnebaaDoorZip
import Derived.Test.YtaponemcbnnebaaDoorPop
import Derived.Test.YtaponemcbnnebaaDoorRows
namespace Go.Proofs.YtaponemcbnnebaaDoor.ki
open Go.RowKit Go.Eng Go.Ki
set_option linter.unusedVariables false
set_option linter.unusedSimpArgs false
set_option maxRecDepth 100000

def nts (l : List Nat) : List Value := l.map fun (x : Nat) => Value.int .i64 (x : Int)
def ins (l : List Int) : List Value := l.map fun (x : Int) => Value.int .i64 x
theorem nts_length (l : List Nat) : (nts l).length = l.length := by simp [nts]
theorem ins_length (l : List Int) : (ins l).length = l.length := by simp [ins]
theorem nts_get {l : List Nat} {i x : Nat} (h : l[i]? = some x) : (nts l)[0 + i * 1]? = some (.int .i64 (x : Int)) := by rw [show 0 + i * 1 = i by omega]; simp [nts, h]
theorem ins_get {l : List Int} {i : Nat} {x : Int} (h : l[i]? = some x) : (ins l)[0 + i * 1]? = some (.int .i64 x) := by rw [show 0 + i * 1 = i by omega]; simp [ins, h]
theorem nts_set (l : List Nat) (i x : Nat) : (nts l).set (0 + i * 1) (.int .i64 (x : Int)) = nts (l.set i x) := by rw [show 0 + i * 1 = i by omega]; simp [nts, List.map_set]
theorem ins_set (l : List Int) (i : Nat) (x : Int) : (ins l).set (0 + i * 1) (.int .i64 x) = ins (l.set i x) := by rw [show 0 + i * 1 = i by omega]; simp [ins, List.map_set]
/-- where a solver lies -/
structure Loc where
  B : Nat
  bs : Nat
  k1 : Value
  k2 : Value
  k3 : Value
  O1 : Nat → Prop
  q1 : Option Addr
  c1 : Nat
  O2 : Nat → Prop
  q2 : Option Addr
  c2 : Nat
abbrev Loc.cells (L : Loc) (n : Nat) : List Value := [L.k1, L.k2, L.k3, .slice L.q1 n L.c1, .slice L.q2 n L.c2]
abbrev Loc.items (L : Loc) (n : Nat) (σ : Sol) (H : List Eng.Item) : List Eng.Item :=
  row L.B L.O1 L.q1 n L.c1 3 1 (nts σ.up) :: row L.B L.O2 L.q2 n L.c2 3 1 (ins σ.kind) :: blk L.bs 64 (L.cells n) :: H

theorem root_calls (L : Loc) (n : Nat) (σ : Sol) (H : List Eng.Item) (S : List World) (w : World) (hn : σ.up.length = n) (hc : Cls (L.items n σ H) S w) (d i r : Nat) (hr : Rt σ.up d i r) :
    Calls Tryd.prog 23 #[.pointer (some ⟨L.bs, 0, none⟩), .int .i64 (i : Int)] w fun e w' => e = .returned (.int .i64 (r : Int)) ∧ Cls (L.items n σ H) S w' := by
  have hlt0 := hr.lt.1
  obtain ⟨B, bs, k1, k2, k3, O1, q1, c1, O2, q2, c2⟩ := L
  simp only [Loc.items, Loc.cells] at hc ⊢
  obtain ⟨g1, rfl⟩ := row_some (hc.item (.head _)) (by omega)
  obtain ⟨g2, rfl⟩ := row_some (hc.item (.tail _ (.head _))) (by omega)
  refine enter Tryd.func23 rfl Tryd.ntmps23 rfl hc ?_
  (simp only [argEnv, Nat.zero_add, Nat.reduceAdd])
  apply W.seq
  apply W.reg
  apply oas; rfl; rfl
  apply OL.nil
  with_reducible apply At.next
  apply W.seq
  apply W.block
  refine W.loop (G := Nat × Nat) (fun g => Rt σ.up g.1 g.2 r) (fun g => g.1)
    (fun g => [(0, true, .pointer (some ⟨bs, 0, none⟩)), (1, true, .int .i64 (g.2 : Int))])
    (fun g => Cls (row B O1 (some ⟨g1, 0, none⟩) n c1 3 1 (nts σ.up) :: row B O2 (some ⟨g2, 0, none⟩) n c2 3 1 (ins σ.kind) :: blk bs 64 [k1, k2, k3, .slice (some ⟨g1, 0, none⟩) n c1, .slice (some ⟨g2, 0, none⟩) n c2] :: H) S) (d, i) hr (by (repeat (first | exact Sub.nil | apply Sub.cons rfl | (refine Sub.cons_eq rfl (congrArg (Value.int .i64) (by first | omega | (simp only; omega))) ?_)))) (fun w' hw' => hw') ?_
  clear hr
  rintro ⟨d, i⟩ hr
  simp only at hr ⊢
  have hil := hr.lt.1
  cases hr with
  | here h =>
    have hcell := nts_get h
    apply W.seq
    apply W.seq
    apply W.reg
    apply omv; rfl; rfl
    apply OL.op; exact Guard.none; rfl; rfl; apply Pev.nil_ptr; rfl; exact yes
    apply ofa; rfl; rfl; rfl
    apply old; rfl; rfl; exact .tail _ (.tail _ (.head _)); rfl; rfl
    apply omv; rfl; rfl
    apply OL.op; exact Guard.none; rfl; rfl; apply Pev.idxB; rfl; exact yes; rfl; exact yes; rfl; intro hcond; omega; rfl
    apply OL.op; exact Guard.none; rfl; rfl; apply Pev.load_row; rfl; exact yes; exact .head _; rfl; assumption
    apply omv; rfl; rfl
    apply obn; rfl; rfl; rfl; apply Bin.neq
    apply OL.nil
    with_reducible apply At.next
    refine W.cond rfl (fun hb => ?_) (fun _ => ?_)
    · simp at hb
    apply W.exit
    with_reducible apply At.then_exit
    with_reducible apply At.then_exit
    with_reducible apply At.in_exit
    with_reducible apply At.next
    apply W.seq
    apply W.reg
    apply omv; rfl; rfl
    apply oas; rfl; rfl
    apply OL.nil
    with_reducible apply At.next
    apply W.ret
    ((with_reducible apply At.fin1); rfl; rfl; intro w' hw')
    exact ⟨rfl, hw'⟩
  | @step d _ j _ h hne t =>
    have hcell := nts_get h
    apply W.seq
    apply W.seq
    apply W.reg
    apply omv; rfl; rfl
    apply OL.op; exact Guard.none; rfl; rfl; apply Pev.nil_ptr; rfl; exact yes
    apply ofa; rfl; rfl; rfl
    apply old; rfl; rfl; exact .tail _ (.tail _ (.head _)); rfl; rfl
    apply omv; rfl; rfl
    apply OL.op; exact Guard.none; rfl; rfl; apply Pev.idxB; rfl; exact yes; rfl; exact yes; rfl; intro hcond; omega; rfl
    apply OL.op; exact Guard.none; rfl; rfl; apply Pev.load_row; rfl; exact yes; exact .head _; rfl; assumption
    apply omv; rfl; rfl
    apply obn; rfl; rfl; rfl; apply Bin.neq
    apply OL.nil
    with_reducible apply At.next
    refine W.cond rfl (fun _ => ?_) (fun hb => ?_)
    case refine_2 => exact absurd hb (by simp; omega)
    apply W.skip
    with_reducible apply At.next
    apply W.block
    apply W.reg
    apply omv; rfl; rfl
    apply OL.op; exact Guard.none; rfl; rfl; apply Pev.nil_ptr; rfl; exact yes
    apply ofa; rfl; rfl; rfl
    apply old; rfl; rfl; exact .tail _ (.tail _ (.head _)); rfl; rfl
    apply omv; rfl; rfl
    apply OL.op; exact Guard.none; rfl; rfl; apply Pev.idxB; rfl; exact yes; rfl; exact yes; rfl; intro hcond; omega; rfl
    apply OL.op; exact Guard.none; rfl; rfl; apply Pev.load_row; rfl; exact yes; exact .head _; rfl; assumption
    apply oas; rfl; rfl
    apply OL.nil
    with_reducible apply At.in_normal
    exact At.again (d, j) t (by simp only; omega) (by (repeat (first | exact Sub.nil | apply Sub.cons rfl | (refine Sub.cons_eq rfl (congrArg (Value.int .i64) (by first | omega | (simp only; omega))) ?_)))) (fun w' hw' => hw')
/-- what join does -/
structure Joined (σ : Sol) (i k : Nat) (e : Int) (σ' : Sol) : Prop where
  inv : Inv σ'
  len : σ'.up.length = σ.up.length
  ok : e = 0 → ∀ f, Sat σ' f ↔ Sat σ f ∧ f i = f k
  bad : e ≠ 0 → e = 9 ∧ ∀ f, Sat σ f → f i ≠ f k
theorem join_calls (L : Loc) (n : Nat) (σ : Sol) (H : List Eng.Item) (S : List World) (w : World) (hn : σ.up.length = n) (hv : Inv σ) (hc : Cls (L.items n σ H) S w) (i k : Nat) (hi : i < n) (hk : k < n) :
    Calls Tryd.prog 33 #[.pointer (some ⟨L.bs, 0, none⟩), .int .i64 (i : Int), .int .i64 (k : Int)] w fun e w' => ∃ (er : Int) (σ' : Sol), e = .returned (.int .i64 er) ∧ Joined σ i k er σ' ∧ Cls (L.items n σ' H) S w' := by
  obtain ⟨di, ri, hri⟩ := hv.rt i (by omega)
  obtain ⟨dk, rk, hrk⟩ := hv.rt k (by omega)
  obtain ⟨ka, hka⟩ := hv.kind hri
  obtain ⟨kb, hkb⟩ := hv.kind hrk
  have hl1 := hri.lt.2
  have hl2 := hrk.lt.2
  have hroot := fun (w2 : World) hw2 => root_calls L n σ H S w2 hn hw2
  obtain ⟨B, bs, k1, k2, k3, O1, q1, c1, O2, q2, c2⟩ := L
  simp only [Loc.items, Loc.cells] at hc hroot ⊢
  obtain ⟨g1, rfl⟩ := row_some (hc.item (.head _)) (by omega)
  obtain ⟨g2, rfl⟩ := row_some (hc.item (.tail _ (.head _))) (by omega)
  refine enter Tryd.func33 rfl Tryd.ntmps33 rfl hc ?_
  (simp only [argEnv, Nat.zero_add, Nat.reduceAdd])
  apply W.seq
  apply W.reg
  apply oas; rfl; rfl
  apply OL.nil
  with_reducible apply At.next
  apply W.seq
  apply W.reg
  apply omv; rfl; rfl
  apply omv; rfl; rfl
  (((first | (with_reducible apply OL.op) | (with_reducible apply QL.op)); ((first | exact Guard.none | exact Guard.yes rfl rfl | exact Guard.no rfl rfl | exact Guard.cyes rfl rfl | exact Guard.cno rfl rfl)); rfl; rfl); (exact Pev.call rfl (by (repeat (first | exact Args.nil | (apply Args.cons rfl; ((first | exact fun _ => rfl | exact fun h => h | (intro h; simp_all; done))))))) (fun _ w2 hw2 => hroot w2 hw2 di i ri hri)))
  apply omv; rfl; rfl
  apply omv; rfl; rfl
  (((first | (with_reducible apply OL.op) | (with_reducible apply QL.op)); ((first | exact Guard.none | exact Guard.yes rfl rfl | exact Guard.no rfl rfl | exact Guard.cyes rfl rfl | exact Guard.cno rfl rfl)); rfl; rfl); (exact Pev.call rfl (by (repeat (first | exact Args.nil | (apply Args.cons rfl; ((first | exact fun _ => rfl | exact fun h => h | (intro h; simp_all; done))))))) (fun _ w2 hw2 => hroot w2 hw2 dk k rk hrk)))
  apply oas; rfl; rfl
  apply oas; rfl; rfl
  apply OL.nil
  with_reducible apply At.next
  apply W.seq
  apply W.block
  apply W.seq
  apply W.reg
  apply omv; rfl; rfl
  apply omv; rfl; rfl
  apply obn; rfl; rfl; rfl; apply Bin.eql
  apply oas; rfl; rfl
  apply OL.nil
  with_reducible apply At.next
  refine W.cond rfl (fun hb => ?_) (fun hb => ?_)
  · obtain rfl : ri = rk := by simp at hb; omega
    apply W.seq
    apply W.reg
    apply oas; rfl; rfl
    apply OL.nil
    with_reducible apply At.next
    apply W.ret
    with_reducible apply At.in_ret
    with_reducible apply At.then_ret
    ((with_reducible apply At.fin1); rfl; rfl; intro w' hw')
    exact ⟨0, σ, rfl, ⟨hv, rfl, fun _ f => ⟨fun h => ⟨h, join_same hri hrk h⟩, fun h => h.1⟩, fun h => absurd rfl h⟩, hw'⟩
  have hne : ri ≠ rk := by simp at hb; omega
  have hca := ins_get hka
  have hcb := ins_get hkb
  have hua := nts_get hri.top
  apply W.seq
  apply W.regd0; decide +kernel; kernel_rfl; decide +kernel; exact fun w hw => hw.drew
  apply qmv; rfl; rfl
  apply QL.op; exact Guard.none; rfl; rfl; apply Pev.nil_ptr; rfl; exact yes
  apply qfa; rfl; rfl; rfl
  apply qld; rfl; rfl; exact .tail _ (.tail _ (.head _)); rfl; rfl
  apply qmv; rfl; rfl
  apply QL.op; exact Guard.none; rfl; rfl; apply Pev.idxB; rfl; exact yes; rfl; exact yes; rfl; intro hcond; omega; rfl
  apply QL.op; exact Guard.none; rfl; rfl; apply Pev.load_row; rfl; exact yes; exact .tail _ (.head _); rfl; assumption
  apply qbn; rfl; rfl; rfl; apply Bin.neq
  apply qmv; rfl; rfl
  apply QL.op; exact Guard.yes rfl rfl; rfl; rfl; apply Pev.move; rfl; exact yes
  apply QL.op; exact Guard.yes rfl rfl; rfl; rfl; apply Pev.nil_ptr; rfl; exact fun h => h
  apply QL.op; exact Guard.yes rfl rfl; rfl; rfl; apply Pev.fld; rfl; exact fun h => h; rfl
  apply QL.op; exact Guard.yes rfl rfl; rfl; rfl; apply Pev.load_blk; rfl; exact fun h => h; exact .tail _ (.tail _ (.head _)); rfl; rfl
  apply QL.op; exact Guard.yes rfl rfl; rfl; rfl; apply Pev.move; rfl; exact yes
  apply QL.op; exact Guard.yes rfl rfl; rfl; rfl; apply Pev.idxB; rfl; exact fun h => h; rfl; exact fun h => h; rfl; intro hcond; omega; rfl
  apply QL.op; exact Guard.yes rfl rfl; rfl; rfl; apply Pev.load_row; rfl; exact fun h => h; exact .tail _ (.head _); rfl; assumption
  apply QL.op; exact Guard.yes rfl rfl; rfl; rfl; apply Pev.bin; rfl; exact fun h => h; rfl; exact yes; intro hcond; apply Bin.neq
  apply QL.op; exact Guard.none; rfl; rfl; apply Pev.pick_and; rfl; exact yes; rfl; exact fun h => h
  apply qmv; rfl; rfl
  apply QL.op; exact Guard.yes rfl rfl; rfl; rfl; apply Pev.move; rfl; exact yes
  apply QL.op; exact Guard.yes rfl rfl; rfl; rfl; apply Pev.nil_ptr; rfl; exact fun h => h
  apply QL.op; exact Guard.yes rfl rfl; rfl; rfl; apply Pev.fld; rfl; exact fun h => h; rfl
  apply QL.op; exact Guard.yes rfl rfl; rfl; rfl; apply Pev.load_blk; rfl; exact fun h => h; exact .tail _ (.tail _ (.head _)); rfl; rfl
  apply QL.op; exact Guard.yes rfl rfl; rfl; rfl; apply Pev.move; rfl; exact yes
  apply QL.op; exact Guard.yes rfl rfl; rfl; rfl; apply Pev.idxB; rfl; exact fun h => h; rfl; exact fun h => h; rfl; intro hcond; omega; rfl
  apply QL.op; exact Guard.yes rfl rfl; rfl; rfl; apply Pev.load_row; rfl; exact fun h => h; exact .tail _ (.head _); rfl; assumption
  apply QL.op; exact Guard.yes rfl rfl; rfl; rfl; apply Pev.move; rfl; exact yes
  apply QL.op; exact Guard.yes rfl rfl; rfl; rfl; apply Pev.nil_ptr; rfl; exact fun h => h
  apply QL.op; exact Guard.yes rfl rfl; rfl; rfl; apply Pev.fld; rfl; exact fun h => h; rfl
  apply QL.op; exact Guard.yes rfl rfl; rfl; rfl; apply Pev.load_blk; rfl; exact fun h => h; exact .tail _ (.tail _ (.head _)); rfl; rfl
  apply QL.op; exact Guard.yes rfl rfl; rfl; rfl; apply Pev.move; rfl; exact yes
  apply QL.op; exact Guard.yes rfl rfl; rfl; rfl; apply Pev.idxB; rfl; exact fun h => h; rfl; exact fun h => h; rfl; intro hcond; omega; rfl
  apply QL.op; exact Guard.yes rfl rfl; rfl; rfl; apply Pev.load_row; rfl; exact fun h => h; exact .tail _ (.head _); rfl; assumption
  apply QL.op; exact Guard.yes rfl rfl; rfl; rfl; apply Pev.bin; rfl; exact fun h => h; rfl; exact fun h => h; intro hcond; apply Bin.neq
  apply QL.op; exact Guard.none; rfl; rfl; apply Pev.pick_and; rfl; exact yes; rfl; exact fun h => h
  apply qas; rfl; rfl
  apply QL.nil
  with_reducible apply At.next
  refine W.cond rfl (fun hb2 => ?_) (fun hb2 => ?_)
  · have h3 : ka ≠ -1 ∧ kb ≠ -1 ∧ ka ≠ kb := by simp at hb2; omega
    apply W.seq
    apply W.reg
    apply oas; rfl; rfl
    apply OL.nil
    with_reducible apply At.next
    apply W.ret
    with_reducible apply At.in_ret
    with_reducible apply At.then_ret
    ((with_reducible apply At.fin1); rfl; rfl; intro w' hw')
    exact ⟨9, σ, rfl, ⟨hv, rfl, fun h => by omega, fun _ => ⟨rfl, fun f h => join_bad hri hrk hka hkb h3.1 h3.2.1 h3.2.2 h⟩⟩, hw'⟩
  have h3 : ka = -1 ∨ kb = -1 ∨ ka = kb := by simp at hb2; omega
  apply W.skip
  with_reducible apply At.in_normal
  with_reducible apply At.next
  apply W.seq
  apply W.regz; apply ZSplit.pure rfl; apply ZSplit.pure rfl; apply ZSplit.pure rfl; apply ZSplit.pure rfl; apply ZSplit.pure rfl; apply ZSplit.pure rfl; apply ZSplit.pure rfl; apply ZSplit.pure rfl; apply ZSplit.pure rfl; apply ZSplit.pure rfl; apply ZSplit.pure rfl; apply ZSplit.pure rfl; apply ZSplit.pure rfl; apply ZSplit.pure rfl; apply ZSplit.pure rfl; apply ZSplit.pure rfl; apply ZSplit.pure rfl; apply ZSplit.pure rfl; apply ZSplit.pure rfl; apply ZSplit.pure rfl; apply ZSplit.pure rfl; apply ZSplit.pure rfl; apply ZSplit.pure rfl; apply ZSplit.pure rfl; apply ZSplit.pure rfl; apply ZSplit.pure rfl; apply ZSplit.pure rfl; apply ZSplit.tail; apply ZSplit.tail; apply ZSplit.tail; exact ZSplit.nil; kernel_rfl; decide +kernel; exact fun w hw => hw.drew
  apply ZL.op rfl; exact Guard.none; rfl; rfl; apply Pev.move; rfl; exact yes
  apply ZL.op rfl; exact Guard.none; rfl; rfl; apply Pev.nil_ptr; rfl; exact yes
  apply ZL.op rfl; exact Guard.none; rfl; rfl; apply Pev.fld; rfl; exact yes; rfl
  apply ZL.ld rfl; exact Guard.none; rfl; rfl; apply Pev.load_blk; rfl; exact yes; exact .tail _ (.tail _ (.head _)); rfl; rfl
  apply ZL.op rfl; exact Guard.none; rfl; rfl; apply Pev.move; rfl; exact yes
  apply ZL.op rfl; exact Guard.none; rfl; rfl; apply Pev.move; rfl; exact yes
  apply ZL.op rfl; exact Guard.none; rfl; rfl; apply Pev.nil_ptr; rfl; exact yes
  apply ZL.op rfl; exact Guard.none; rfl; rfl; apply Pev.fld; rfl; exact yes; rfl
  apply ZL.ld rfl; exact Guard.none; rfl; rfl; apply Pev.load_blk; rfl; exact yes; exact .tail _ (.tail _ (.head _)); rfl; rfl
  apply ZL.op rfl; exact Guard.none; rfl; rfl; apply Pev.move; rfl; exact yes
  apply ZL.op rfl; exact Guard.none; rfl; rfl; apply Pev.move; rfl; exact yes
  apply ZL.op rfl; exact Guard.none; rfl; rfl; apply Pev.move; rfl; exact yes
  apply ZL.op rfl; exact Guard.none; rfl; rfl; apply Pev.nil_ptr; rfl; exact yes
  apply ZL.op rfl; exact Guard.none; rfl; rfl; apply Pev.fld; rfl; exact yes; rfl
  apply ZL.ld rfl; exact Guard.none; rfl; rfl; apply Pev.load_blk; rfl; exact yes; exact .tail _ (.tail _ (.head _)); rfl; rfl
  apply ZL.op rfl; exact Guard.none; rfl; rfl; apply Pev.move; rfl; exact yes
  apply ZL.op rfl; exact Guard.none; rfl; rfl; apply Pev.idxB; rfl; exact yes; rfl; exact yes; rfl; intro hcond; omega; rfl
  apply ZL.ld rfl; exact Guard.none; rfl; rfl; apply Pev.load_row; rfl; exact yes; exact .tail _ (.head _); rfl; assumption
  apply ZL.op rfl; exact Guard.none; rfl; rfl; apply Pev.move; rfl; exact yes
  apply ZL.op rfl; exact Guard.none; rfl; rfl; apply Pev.nil_ptr; rfl; exact yes
  apply ZL.op rfl; exact Guard.none; rfl; rfl; apply Pev.fld; rfl; exact yes; rfl
  apply ZL.ld rfl; exact Guard.none; rfl; rfl; apply Pev.load_blk; rfl; exact yes; exact .tail _ (.tail _ (.head _)); rfl; rfl
  apply ZL.op rfl; exact Guard.none; rfl; rfl; apply Pev.move; rfl; exact yes
  apply ZL.op rfl; exact Guard.none; rfl; rfl; apply Pev.idxB; rfl; exact yes; rfl; exact yes; rfl; intro hcond; omega; rfl
  apply ZL.ld rfl; exact Guard.none; rfl; rfl; apply Pev.load_row; rfl; exact yes; exact .tail _ (.head _); rfl; assumption
  apply ZL.op rfl; exact Guard.none; rfl; rfl; apply Pev.max2; rfl; exact yes; rfl; exact yes
  apply ZL.op rfl; exact Guard.none; rfl; rfl; apply Pev.idxB; rfl; exact yes; rfl; exact yes; rfl; intro hcond; omega; rfl
  apply ZL.nil
  apply TL.one rfl
  skip
  refine OL.storeR (xs := nts σ.up) rfl rfl rfl rfl rfl .z (by rw [nts_length, hn]; simp; omega) ?_
  rw [show 0 + (ri : Int).toNat * 1 = 0 + ri * 1 from rfl, nts_set]
  apply OL.nil
  with_reducible apply At.tn; decide +kernel
  apply TL.one rfl
  apply OL.op; exact Guard.none; rfl; rfl; apply Pev.idxB; rfl; exact yes; rfl; exact yes; rfl; intro hcond; omega; rfl
  apply OL.nil
  with_reducible apply At.tn; decide +kernel
  apply TL.one rfl
  refine OL.storeR (xs := ins σ.kind) rfl rfl rfl rfl rfl (.s .z) (by rw [ins_length, hv.len]; simp; omega) ?_
  rw [show 0 + (rk : Int).toNat * 1 = 0 + rk * 1 from rfl, ins_set]
  apply OL.nil
  with_reducible apply At.tn; decide +kernel
  apply TL.nil
  with_reducible apply At.np
  with_reducible apply At.next
  apply W.seq
  apply W.reg
  apply oas; rfl; rfl
  apply OL.nil
  with_reducible apply At.next
  apply W.ret
  have em : (if ka < kb then kb else ka) = max ka kb := by rw [Int.max_def]; split <;> split <;> omega
  rw [em]
  ((with_reducible apply At.fin1); rfl; rfl; intro w' hw')
  exact ⟨0, joinU σ ri rk (max ka kb), rfl, ⟨join_inv hv hri hrk hne hka hkb h3, by simp [joinU], fun _ f => join_sat hv hri hrk hne hka hkb h3 f, fun h => absurd rfl h⟩, hw'⟩
end Go.Proofs.YtaponemcbnnebaaDoor.ki
