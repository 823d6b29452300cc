/- The walk of slices.Backward's function at contexts, and of the marker's enclosing. Conditions: none. -/
import Derived.Test.YtlcclcakdfmgkaaLyD
import Derived.RangeFuncNested
import Derived.RangeFuncBound
import Derived.RangeFuncCalls
import Derived.RangeFuncLeaves
import Derived.Shelf.Abstract
import Derived.WalkKit
import Derived.OwnWalkIn
import Derived.TacticsInMore
import Derived.LoopNIn
import Derived.LoopIn
namespace Go.Proofs
open Go.RowKit Go.Shelf
set_option linter.unusedVariables false
attribute [local go_sem] Oper.semAt_some

namespace Ytlcclcakdfmgkaa.ly
def upto {α : Type} (f : Nat → α) (k : Nat) : List α := (List.range k).map f
theorem upto_succ {α : Type} (f : Nat → α) (k : Nat) : upto f (k + 1) = upto f k ++ [f k] := by simp [upto, List.range_succ]
theorem upto_length {α : Type} (f : Nat → α) (k : Nat) : (upto f k).length = k := by simp [upto]

set_option maxRecDepth 100000 in
set_option maxHeartbeats 2000000 in
theorem back1_in (n : Nat) (hn : 1 ≤ n) (l Bs n₀ b len cap : Nat) (cl : Nat → Int) (wd : Nat → ByteArray) (hreach : len ≤ 1000000) (hb : b < n₀) (hBn : Bs < n₀) (J Jx : List (Int × Int × ByteArray) → World → Prop)
    (hY : ∀ pre x W, J pre W → pre.length < len → YieldAt Fence.wide (n - 1) Try.prog l #[.int .i64 x.1, .agg #[.int .i64 x.2.1, .string x.2.2]] W fun e W' =>
      (e = .returned (.bool true) ∧ J (pre ++ [x]) W' ∧ Below n₀ W W') ∨ (e = .returned (.bool false) ∧ Jx (pre ++ [x]) W'))
    (W : World) (hBs : W.cell? ⟨Bs, 0, none⟩ = some (.slice (some ⟨b, 0, none⟩) len cap)) (hc : ∀ j, j < len → W.cell? ⟨b, (len - 1 - j) * 2, none⟩ = some (.int .i64 (cl j)) ∧ W.cell? ⟨b, (len - 1 - j) * 2 + 1, none⟩ = some (.string (wd j))) (h0 : J [] W) :
    CallsIn Fence.wide n Try.prog 65 #[.func (.yield l) #[] #[], .pointer (some ⟨Bs, 0, none⟩)] W fun e W' => (∃ v, e = .returned v) ∧
      ((∃ ys, ys = upto (fun j => ((len : Int) - 1 - j, cl j, wd j)) len ∧ J ys W') ∨ (∃ pre, (∃ k, k ≤ len ∧ pre = upto (fun j => ((len : Int) - 1 - j, cl j, wd j)) k) ∧ Jx pre W')) := by
  refine callsIn_of_wp Try.func65 rfl trivial ?_ rfl
  simp only [Try.ntmps65, List.size_toArray, List.length_cons, List.length_nil, Nat.reduceAdd, Nat.reduceSub, Array.replicate_succ, Array.replicate_zero, List.push_toArray, List.append_toArray, List.nil_append, List.cons_append]
  gi_wp2
  gi_loopw [3] (fun i wr => ∃ k : Nat, k ≤ len ∧ i = .int .i64 ((len : Int) - 1 - k) ∧ J (upto (fun j => ((len : Int) - 1 - j, cl j, wd j)) k) wr ∧ Below n₀ W wr)
    (fun i _ => (intOf i + 1).toNat)
  case atStart => exact ⟨0, Nat.zero_le _, by simp, h0, Below.refl _ _⟩
  case round =>
    obtain ⟨k, hk, rfl, hJs, hnx⟩ := hrel
    have hB2 := (hnx.cell (p := ⟨Bs, 0, none⟩) hBn).trans hBs
    by_cases hlt : k < len
    · have hcx1 := (hnx.cell (p := ⟨b, (len - 1 - k) * 2, none⟩) hb).trans (hc k hlt).1
      have hcx2 := (hnx.cell (p := ⟨b, (len - 1 - k) * 2 + 1, none⟩) hb).trans (hc k hlt).2
      obtain ⟨fn, tmps, assign, body, hy, hR⟩ := hY _ ((len : Int) - 1 - k, cl k, wd k) wr hJs (by rw [upto_length]; exact hlt)
      dsimp only at hy
      gi_wp2
      refine hR.mono ?_
      rintro e W3 (⟨rfl, hJ3, hk3⟩ | ⟨rfl, hJx3⟩)
      · gi_wp2
        go_roundw
        case rel => exact ⟨k + 1, by omega, by congr 1; omega, by rw [upto_succ]; exact hJ3, hnx.trans hk3⟩
        case measure => simp [intOf]; omega
      · gi_wp2
        refine bodyPost_ret (results_none rfl _ _ _) rfl ?_
        exact ⟨⟨_, rfl⟩, .inr ⟨_, ⟨k + 1, by omega, (upto_succ _ _).symm⟩, hJx3⟩⟩
    · obtain rfl : k = len := by omega
      gi_wp2
      go_end0
      exact ⟨⟨_, rfl⟩, .inl ⟨_, rfl, hJs⟩⟩

set_option maxRecDepth 100000 in
set_option maxHeartbeats 1000000 in
theorem back1_nil_in (n : Nat) (l Bs cap : Nat) (q : Option Addr) (J : List (Int × Int × ByteArray) → World → Prop) (W : World) (hBs : W.cell? ⟨Bs, 0, none⟩ = some (.slice q 0 cap)) (h0 : J [] W) :
    CallsIn Fence.wide n Try.prog 65 #[.func (.yield l) #[] #[], .pointer (some ⟨Bs, 0, none⟩)] W fun e W' => (∃ v, e = .returned v) ∧ J [] W' := by
  refine callsIn_of_wp Try.func65 rfl trivial ?_ rfl
  simp only [Try.ntmps65, List.size_toArray, List.length_cons, List.length_nil, Nat.reduceAdd, Nat.reduceSub, Array.replicate_succ, Array.replicate_zero, List.push_toArray, List.append_toArray, List.nil_append, List.cons_append]
  gi_wp2
  gi_loopw [3] (fun i wr => i = .int .i64 (-1) ∧ J [] wr) (fun _ _ => 0)
  case atStart => exact ⟨by simp, h0⟩
  case round =>
    obtain ⟨rfl, hJs⟩ := hrel
    gi_wp2
    go_end0
    exact ⟨⟨_, rfl⟩, hJs⟩

set_option maxHeartbeats 1000000 in
theorem back_in (n : Nat) (a : Option Addr) (len cap : Nat) (w : World) :
    CallsIn Fence.wide n Try.prog 48 #[.slice a len cap] w fun e w' => e = .returned (.func (.func 65) #[] #[.pointer (some ⟨w.heap.size, 0, none⟩)]) ∧ w' = w.alloc (.cells #[.slice a len cap] 73) := by
  refine callsIn_of_wp Try.func48 rfl trivial ?_ rfl
  simp only [Try.ntmps48, List.size_toArray, List.length_cons, List.length_nil, Nat.reduceAdd, Nat.reduceSub, Array.replicate_succ, Array.replicate_zero, List.push_toArray, List.append_toArray, List.nil_append, List.cons_append]
  gi_wp2
  go_ret
  exact ⟨rfl, rfl⟩

theorem back_stops (n : Nat) (hn : 1 ≤ n) (Bs n₀ : Nat) (q : Option Addr) (len cap : Nat) (cl : Nat → Int) (wd : Nat → ByteArray) (hreach : len ≤ 1000000) (w : World) (hBs : Bs < n₀) (hn₀ : n₀ ≤ w.heap.size)
    (hc : w.cell? ⟨Bs, 0, none⟩ = some (.slice q len cap)) (hI : 0 < len → ∃ b, q = some ⟨b, 0, none⟩ ∧ b < n₀ ∧ ∀ j, j < len → w.cell? ⟨b, (len - 1 - j) * 2, none⟩ = some (.int .i64 (cl j)) ∧ w.cell? ⟨b, (len - 1 - j) * 2 + 1, none⟩ = some (.string (wd j))) :
    SeqStopsK Fence.wide n Try.prog 65 #[.pointer (some ⟨Bs, 0, none⟩)] (fun x : Int × Int × ByteArray => #[Value.int .i64 x.1, .agg #[.int .i64 x.2.1, .string x.2.2]]) (Below n₀) (fun ys => ys = upto (fun j => ((len : Int) - 1 - j, cl j, wd j)) len) (fun pre => ∃ k, k ≤ len ∧ pre = upto (fun j => ((len : Int) - 1 - j, cl j, wd j)) k) len w := fun l J Jx W hW _ _ hY h0 => by
  have hc' := (hW.cell (p := ⟨Bs, 0, none⟩) (Nat.lt_of_lt_of_le hBs hn₀)).trans hc
  rcases Nat.eq_zero_or_pos len with rfl | hpos
  · exact (back1_nil_in n l Bs cap q J W hc' h0).mono fun e W' ⟨he, hj⟩ => ⟨he, .inl ⟨_, rfl, hj⟩⟩
  · obtain ⟨b, rfl, hb, hcs⟩ := hI hpos
    exact back1_in n hn l Bs n₀ b len cap cl wd hreach hb hBs J Jx hY W hc' (fun j hj => ⟨(hW.cell (p := ⟨b, (len - 1 - j) * 2, none⟩) (Nat.lt_of_lt_of_le hb hn₀)).trans (hcs j hj).1, (hW.cell (p := ⟨b, (len - 1 - j) * 2 + 1, none⟩) (Nat.lt_of_lt_of_le hb hn₀)).trans (hcs j hj).2⟩) h0

theorem upto_split {α : Type} (f : Nat → α) {k len : Nat} (h : k ≤ len) : ∃ r, upto f len = upto f k ++ r := by
  induction h with
  | refl => exact ⟨[], (List.append_nil _).symm⟩
  | step _ ih =>
    obtain ⟨r, hr⟩ := ih
    exact ⟨r ++ [f _], by rw [Nat.succ_eq_add_one, upto_succ, hr, List.append_assoc]⟩
theorem results_box {P : Program} {fn : Func} {tt b : Nat} {ty : TypeId} {v : Value} {tmps : Array Value} {w : World} (hr : fn.results = #[.cell tt ty]) (ht : tmps.getD tt undef = .pointer (some ⟨b, 0, none⟩)) (hc : w.cell? ⟨b, 0, none⟩ = some v) (hs : Go.Eng.scalB P ty = true) : (results fn tmps).run P w = .ok v w := by
  have := Go.Eng.run_loadVar_scal hs hc
  rw [Array.getD_eq_getD_getElem?] at ht
  simp [results, hr, ht, Sem.run_bind, asAddr, this]
def encL : List (Int × Int × ByteArray) → Int
  | [] => 0
  | x :: r => if 0 < x.2.1 then x.2.1 else encL r
theorem encL_none : ∀ {l : List (Int × Int × ByteArray)}, (∀ x ∈ l, x.2.1 ≤ 0) → encL l = 0
  | [], _ => rfl
  | x :: r, h => by rw [encL, if_neg (by have := h x (.head _); omega), encL_none fun y hy => h y (.tail _ hy)]
theorem encL_some : ∀ {l r : List (Int × Int × ByteArray)} {x : Int × Int × ByteArray}, (∀ y ∈ l, y.2.1 ≤ 0) → 0 < x.2.1 → encL (l ++ x :: r) = x.2.1
  | [], r, x, _, hx => by rw [List.nil_append, encL, if_pos hx]
  | y :: l, r, x, h, hx => by rw [List.cons_append, encL, if_neg (by have := h y (.head _); omega), encL_some (fun z hz => h z (.tail _ hz)) hx]
def Box2 (W : World) (B : Nat) (t : TypeId) (a b : Value) : Prop := W.heap[B]? = some (.cells #[a, b] t (0, 0))
theorem Box2.cell0 {W : World} {B : Nat} {t : TypeId} {a b : Value} (h : Box2 W B t a b) : W.cell? ⟨B, 0, none⟩ = some a := by simp [World.cell?, show W.heap[B]? = _ from h]
theorem Box2.own (B : Nat) (t : TypeId) (a b : Value) {X Y : World} {row : Option Nat} (hs : Box2 X B t a b) (hg : X.grownBy Y row) (hr : ∀ r, row = some r → ∃ o : Obj, X.heap[r]? = some o ∧ o.isCells = false) : Box2 Y B t a b :=
  (hg.block B (Array.getElem?_eq_some_iff.1 hs).1 (fun e => by obtain ⟨o, ho, hc⟩ := hr B e.symm; rw [show X.heap[B]? = _ from hs] at ho; cases ho; cases hc)).trans hs

set_option maxRecDepth 100000 in
set_option maxHeartbeats 4000000 in
theorem enc_in (mb len cap : Nat) (q : Option Addr) (cl : Nat → Int) (wd : Nat → ByteArray) (hreach : len ≤ 1000000) (w : World) (hmb : mb < w.heap.size) (hm : w.cell? ⟨mb, 0, none⟩ = some (.slice q len cap))
    (hI : 0 < len → ∃ b, q = some ⟨b, 0, none⟩ ∧ b < w.heap.size ∧ ∀ j, j < len → w.cell? ⟨b, (len - 1 - j) * 2, none⟩ = some (.int .i64 (cl j)) ∧ w.cell? ⟨b, (len - 1 - j) * 2 + 1, none⟩ = some (.string (wd j))) :
    CallsIn Fence.wide 3 Try.prog 32 #[.pointer (some ⟨mb, 0, none⟩)] w fun e W' => e = .returned (.int .i64 (encL (upto (fun j => ((len : Int) - 1 - j, cl j, wd j)) len))) ∧ Below w.heap.size w W' := by
  have h1 : 1 ≤ 3 := by omega
  refine callsIn_of_wp_marks Try.func32 rfl trivial ?_ rfl
  simp only [Try.ntmps32, List.size_toArray, List.length_cons, List.length_nil, Nat.reduceAdd, Nat.reduceSub, Array.replicate_succ, Array.replicate_zero, List.push_toArray, List.append_toArray, List.nil_append, List.cons_append]
  gi_wp2
  refine ⟨trivial, ?_⟩
  refine (back_in 2 _ _ _ _).mono ?_
  rintro e w' ⟨rfl, rfl⟩
  gi_wp2
  have bR := (Boxed.new w 3 (.int .i64 0)).alloc (.cells #[.slice q len cap] 73)
  have bS := Boxed.new (w.alloc (.cells #[.int .i64 0] 3)) 73 (.slice q len cap)
  simp only [World.size_alloc] at bS
  have hB0 : Below w.heap.size w ((w.alloc (.cells #[.int .i64 0] 3)).alloc (.cells #[.slice q len cap] 73)) := ((Below.refl _ w).alloc (Nat.le_refl _) _).alloc (by simp) _
  have hsz : ((w.alloc (.cells #[.int .i64 0] 3)).alloc (.cells #[.slice q len cap] 73)).heap.size = w.heap.size + 2 := by simp
  obtain ⟨W0, hW0⟩ : ∃ W0, (w.alloc (.cells #[.int .i64 0] 3)).alloc (.cells #[.slice q len cap] 73) = W0 := ⟨_, rfl⟩
  rw [hW0] at bR bS hB0 hsz ⊢
  clear hW0
  refine wpIn_rangeFunc_ownH rfl h1 (gf := 65) (lb := #[.pointer (some ⟨w.heap.size + 1, 0, none⟩)]) rfl trivial (enters_of Try.func65 (by kernel_rfl) rfl)
    (back_stops (3 - 1) (by omega) (w.heap.size + 1) (w.heap.size + 2) q len cap cl wd hreach W0 (by omega) (by omega) bS.cell (fun h => by
      obtain ⟨b, hq, hb, hc⟩ := hI h
      exact ⟨b, hq, by omega, fun j hj => ⟨(hB0.cell (p := ⟨b, (len - 1 - j) * 2, none⟩) hb).trans (hc j hj).1, (hB0.cell (p := ⟨b, (len - 1 - j) * 2 + 1, none⟩) hb).trans (hc j hj).2⟩⟩)) belowK_t (belowK_b (by omega)) (Below.refl _ _) (fun _ => rfl)
    (fun pre W => (Boxed W w.heap.size 3 (.int .i64 0) ∧ (∀ x ∈ pre, x.2.1 ≤ 0) ∧ w.heap.size + 2 ≤ W.heap.size) ∧ Below w.heap.size w W)
    (fun c pre W => (c = .ret ∧ ∃ pre' x, pre = pre' ++ [x] ∧ (∀ y ∈ pre', y.2.1 ≤ 0) ∧ 0 < x.2.1 ∧ Boxed W w.heap.size 3 (.int .i64 x.2.1)) ∧ Below w.heap.size w W)
    (OwnFrom.and (fun s X Y row hs hg hr => ⟨boxed_own w.heap.size 3 (fun (_ : Unit) => Value.int .i64 0) () X Y row hs.1 hg (fun r e => (hr r e).2), hs.2.1, Nat.le_trans hs.2.2 hg.size⟩) (ownFrom_below (Nat.le_refl _) (by omega)))
    (fun c => OwnFrom.and (fun s X Y row hs hg hr => by
      obtain ⟨hc, pre', x, h1, h2, h3, h4⟩ := hs
      exact ⟨hc, pre', x, h1, h2, h3, boxed_own w.heap.size 3 (fun (_ : Unit) => Value.int .i64 x.2.1) () X Y row h4 hg (fun r e => (hr r e).2)⟩) (ownFrom_below (Nat.le_refl _) (by omega)))
    ⟨⟨bR, (fun x hx => by cases hx), by omega⟩, hB0⟩
    (fun x a' W => ∃ Bx, w.heap.size < Bx ∧ Box2 W Bx 80 (.int .i64 x.2.1) (.string x.2.2) ∧ a' = { tmps := #[.pointer (some ⟨mb, 0, none⟩), undef, .pointer (some ⟨w.heap.size, 0, none⟩), undef, .pointer (some ⟨Bx, 0, none⟩), .pointer (some ⟨mb, 0, none⟩), .pointer (some ⟨mb, 0, none⟩), .pointer (some ⟨mb, 0, none⟩), .slice q len cap, .func (.func 65) #[] #[.pointer (some ⟨w.heap.size + 1, 0, none⟩)], .int .i64 x.1, .agg #[.int .i64 x.2.1, .string x.2.2], undef, undef, undef, undef, undef], defers := [] })
    (fun x a' _ X Y row hs hg hr => by obtain ⟨Bx, h1, h2, h3⟩ := hs; exact ⟨Bx, h1, h2.own _ _ _ _ hg (fun r e => (hr r e).2), h3⟩)
    ?assign ?body ?done ?stop
  case assign =>
    rintro l pre x W K ⟨⟨bR1, hn1, hz1⟩, hB1⟩ hK
    gi_wp2
    exact hK _ _ ((KeepsOthers.alloc _ _).from _) ((Below.refl _ W).alloc hz1 _) ⟨⟨bR1.alloc _, hn1, by simp; omega⟩, hB1.alloc hB1.size _⟩ ⟨W.heap.size, bR1.lt, World.alloc_heap_new W _, rfl⟩
  case body =>
    rintro l pre x a' W hl ⟨r, hr⟩ ⟨⟨bR1, hn1, hz1⟩, hB1⟩ ⟨Bx, hBx, bX, rfl⟩ hlt
    have cX := bX.cell0
    have cR := bR1.cell
    have fR := bR1.frozen
    by_cases hx : 0 < x.2.1
    · gi_wp2
      exact ⟨(KeepsOthers.setCell _ _ _).from _, ⟨rfl, pre, x, rfl, hn1, hx, bR1.set _⟩, hB1.setCell (p := ⟨w.heap.size, 0, none⟩) (Nat.le_refl _) _⟩
    · have hn2 : ∀ y ∈ pre ++ [x], y.2.1 ≤ 0 := fun y hy => by
        rcases List.mem_append.1 hy with hy | hy
        · exact hn1 y hy
        · rw [List.mem_singleton] at hy; subst hy; omega
      gi_wp2
      exact ⟨KeepsFrom.refl _ _, Below.refl _ _, ⟨bR1, fun a b c h => hn2 (a, b, c) h, hz1⟩, hB1⟩
  case done =>
    rintro D zs W hD rfl ⟨⟨bR1, hn1, hz1⟩, hB1⟩ hK
    have cR := bR1.cell
    have fR := bR1.frozen
    gi_wp2
    have hK2 := (KeepsOthers.setCell W ⟨w.heap.size, 0, none⟩ (.int .i64 0)).same D _ hK rfl
    have bR2 := bR1.set (.int .i64 0)
    have bR3 : Boxed _ w.heap.size 3 _ := bR2.kept (grownBy_putObj' _ D (.deferred none)) (fun e => by cases e; omega)
    refine ⟨by simp, .inl ⟨_, _, rfl, run_takeDeferred hK2, ?_⟩⟩
    rw [encL_none hn1]
    refine ⟨_, results_box rfl (by rfl) bR3.cell (by kernel_rfl), rfl, ?_⟩
    exact (hB1.setCell (p := ⟨w.heap.size, 0, none⟩) (Nat.le_refl _) _).trans (belowK_b (w := w) (Nat.le_refl _) _ D _ _ (by omega) hK2 rfl rfl)
  case stop =>
    rintro D c pre W hD ⟨k, hk, hpre⟩ ⟨⟨rfl, pre', x, rfl, hn1, hx, bR1⟩, hB1⟩ hK
    have cR := bR1.cell
    gi_wp2
    have bR3 : Boxed _ w.heap.size 3 _ := bR1.kept (grownBy_putObj' _ D (.deferred none)) (fun e => by cases e; omega)
    refine ⟨by simp, .inl ⟨_, _, rfl, run_takeDeferred hK, ?_⟩⟩
    obtain ⟨r, hr⟩ := upto_split (fun j => ((len : Int) - 1 - j, cl j, wd j)) hk
    rw [hr, ← hpre, List.append_assoc, List.singleton_append, encL_some hn1 hx]
    refine ⟨_, results_box rfl (by rfl) bR3.cell (by kernel_rfl), rfl, ?_⟩
    exact hB1.trans (belowK_b (w := w) (Nat.le_refl _) _ D _ _ (by omega) hK rfl rfl)

open Go.Eng Go.Ly in
theorem encL_s : ∀ (s : List Cx) (m : Nat) (f : Nat → Int), encL ((List.range' m (s.length - m)).map (fun j => (f j, ((s[j]?).getD ⟨0, ⟨#[]⟩⟩).col, ((s[j]?).getD ⟨0, ⟨#[]⟩⟩).word))) = enc (s.drop m) := fun s m f => by
  generalize hn : s.length - m = k
  induction k generalizing m with
  | zero => rw [List.drop_eq_nil_of_le (by omega)]; rfl
  | succ k ih =>
    have hl : m < s.length := by omega
    rw [List.range'_succ, List.map_cons, encL, List.drop_eq_getElem_cons hl, enc, ih (m + 1) (by omega), List.getElem?_eq_getElem hl]
    rfl
open Go.Eng Go.Ly in
theorem enclosing_calls (B mb : Nat) (s : List Cx) (out : List Tok) (y : MY) (H : List Eng.Item) (S : List World) (w : World) (hlen : s.length ≤ 1000000) (hc : Cls (MI B mb s out y H) S w) :
    Calls Try.prog 32 #[.pointer (some ⟨mb, 0, none⟩)] w fun e w' => e = .returned (.int .i64 (enc s)) ∧ Ext w w' := by
  have hm := hc.item (.head _)
  have hrow := hc.item (i := row B y.O y.q s.length y.c 80 2 (cat cc s.reverse)) (.tail _ (.head _))
  have key := enc_in mb s.length y.c y.q (fun j => ((s[j]?).getD ⟨0, ⟨#[]⟩⟩).col) (fun j => ((s[j]?).getD ⟨0, ⟨#[]⟩⟩).word) hlen w (blk_lt hm) (blk_cell hm) (fun h0 => by
    obtain ⟨g0, hq⟩ := row_some hrow h0
    rw [hq] at hrow
    refine ⟨g0, hq, ?_, fun j hj => ?_⟩
    · obtain ⟨a, ha, hb, _⟩ := SlAt.of_row hrow (by rw [cat_length clen, List.length_reverse]; omega)
      obtain rfl := Option.some.inj ha
      exact hb
    · have hL : s.reverse[s.length - 1 - j]? = s[j]? := by rw [List.getElem?_reverse (by omega), show s.length - 1 - (s.length - 1 - j) = j by omega]
      rw [List.getElem?_eq_getElem hj] at hL ⊢
      exact ⟨by have := row_cell hrow (cat_get clen hL 0 _ rfl); exact this, row_cell hrow (cat_get clen hL 1 _ rfl)⟩)
  have h2 := callsIn_wide.1 key
  refine h2.mono fun e w' h => ⟨?_, Ext.of_below h.2⟩
  rw [h.1, upto, List.range_eq_range']
  have := encL_s s 0 (fun j => (s.length : Int) - 1 - j)
  rw [Nat.sub_zero, List.drop_zero] at this
  rw [← this]
end Ytlcclcakdfmgkaa.ly
end Go.Proofs
