/- The walk of modules.After. Conditions: none. -/
import Derived.Test.YtgllgllbgojhfaaMoB
import Derived.Test.YtgllgllbgojhfaaMaS
namespace Go.Proofs.Ytgllgllbgojhfaa.mo
open Go.RowKit Go.Eng Go.Mo
set_option linter.unusedVariables false
set_option linter.unusedSimpArgs false
set_option maxRecDepth 100000

theorem lit_calls (bk : Nat) (q : Option Addr) (cap : Nat) (done : List ByteArray) (s : ByteArray) (w : World) (hb : bk < w.heap.size) (hc : w.cell? ⟨bk, 0, none⟩ = some (.slice q done.length cap)) (hlen : done.length ≤ 9223372036854775807) (h : SlAt w w.heap.size q (strs done)) :
    Calls Try.prog 15 #[.string s, .pointer (some ⟨bk, 0, none⟩)] w fun e w' => e = .returned (.bool (hasB done s)) ∧ Ext w w' := by
  refine enter Try.func15 rfl Try.ntmps15 rfl (Cls.start w) ?_
  (simp only [argEnv, Nat.zero_add, Nat.reduceAdd])
  apply W.seq
  apply W.reg
  apply oas; rfl; rfl
  apply OL.nil
  with_reducible apply At.next
  apply W.seq
  apply W.reg
  apply OL.op; exact Guard.none; rfl; rfl; apply Pev.load_kept; rfl; exact yes; exact .head _; rfl; intro hcond; assumption; intro hcond; assumption; intro hcond; exact NotOwned.nil
  apply omv; rfl; rfl
  (((first | (with_reducible apply OL.op) | (with_reducible apply QL.op)); ((first | exact Guard.none | exact Guard.yes rfl rfl | exact Guard.no rfl rfl | exact Guard.cyes rfl rfl | exact Guard.cno rfl rfl)); rfl; rfl); (exact Pev.call rfl (by (repeat (first | exact Args.nil | (apply Args.cons rfl; ((first | exact fun _ => rfl | exact fun h => h | (intro h; simp_all; done))))))) (fun _ w2 hw2 => (Contains_calls q cap done s w2 hlen (h.keep (hw2.below (s := w) (by (repeat (first | exact List.Mem.head _ | apply List.Mem.tail))) (Nat.le_refl _) (fun k hk => by (focus ((try simp only [add_block]); (repeat (first | exact NotOwned.nil | exact hno _ (by omega) | refine NotOwned.nothing ?_ | refine NotOwned.nds (hlow _ (by omega)) ?_ | refine NotOwned.mapS (by omega) ?_ | apply NotOwned.bif | refine NotOwned.blk (by omega) ?_ | refine NotOwned.row (by omega) ?_ | refine NotOwned.grid (by assumption) (by omega) ?_)); done)))) (hw2.kp w (by (repeat (first | exact List.Mem.head _ | apply List.Mem.tail)))).size)).mono (fun e w3 h => ⟨h.1, hw2.ext h.2⟩))))
  apply oas; rfl; rfl
  apply OL.nil
  with_reducible apply At.next
  apply W.ret
  ((with_reducible apply At.fin1); rfl; rfl; intro w' hw')
  exact ⟨rfl, by (exact hw'.toExt (by (repeat (first | exact List.Mem.head _ | apply List.Mem.tail))) (fun k hk => by (focus ((try simp only [add_block]); (repeat (first | exact NotOwned.nil | exact hno _ (by omega) | refine NotOwned.nothing ?_ | refine NotOwned.nds (hlow _ (by omega)) ?_ | refine NotOwned.mapS (by omega) ?_ | apply NotOwned.bif | refine NotOwned.blk (by omega) ?_ | refine NotOwned.row (by omega) ?_ | refine NotOwned.grid (by assumption) (by omega) ?_)); done))))⟩
structure GA where
  xs : List ByteArray
  O : Nat → Prop
  q : Option Addr
  cap : Nat
structure GB where
  ys : List ByteArray
  q : Option Addr
  cap : Nat
/-- what After gives -/
def AftV (l : List ByteArray) (ll : List (List ByteArray)) (ch ys : List ByteArray) (e : Int) : Prop :=
  if chk l ll ≠ 0 then ys = [] ∧ e = chk l ll else if ch.any (fun s => !hasB l s) then ys = [] ∧ e = 6 else
    e = 0 ∧ ∃ xs, GoodX l ll ch xs ∧ (∀ i, i < l.length → addI l ll xs i = false) ∧ ys = cmpS (srtS xs)
theorem take_any {ch : List ByteArray} {p : ByteArray → Bool} {j : Nat} {s : ByteArray} (h : ch[j]? = some s) (hp : p s = true) : ch.any p = true := List.any_eq_true.2 ⟨s, List.mem_of_getElem? h, hp⟩
theorem After_calls (q q' qc : Option Addr) (cap cap' capc : Nat) (l : List ByteArray) (ll : List (List ByteArray)) (ch : List ByteArray) (w : World) (hlen : l.length ≤ 9223372036854775807) (hcap : l.length ≤ cap) (h : SlAt w w.heap.size q (strs l))
    (hlen' : ll.length ≤ 9223372036854775807) (h' : StrRows w w.heap.size q' ll) (hlenc : ch.length * 16 ≤ 140737488351232) (hc : SlAt w w.heap.size qc (strs ch)) :
    Calls Try.prog 5 #[.slice q l.length cap, .slice q' ll.length cap', .slice qc ch.length capc] w fun e w' =>
      ∃ (x : GB) (er : Int), e = .returned (.tuple #[.slice x.q x.ys.length x.cap, .int .i64 er]) ∧ AftV l ll ch x.ys er ∧ SlAt w' w'.heap.size x.q (strs x.ys) ∧ Ext w w' := by
  refine enter Try.func5 rfl Try.ntmps5 rfl (Cls.start w) ?_
  (simp only [argEnv, Nat.zero_add, Nat.reduceAdd])
  have hsz : ∀ w2, Cls [] [w] w2 → (∀ p : Addr, p.block < w.heap.size → w2.cell? p = w.cell? p) ∧ w.heap.size ≤ w2.heap.size := fun w2 hw2 =>
    ⟨hw2.below (s := w) (by (repeat (first | exact List.Mem.head _ | apply List.Mem.tail))) (Nat.le_refl _) (fun k hk => by (focus ((try simp only [add_block]); (repeat (first | exact NotOwned.nil | exact hno _ (by omega) | refine NotOwned.nothing ?_ | refine NotOwned.nds (hlow _ (by omega)) ?_ | refine NotOwned.mapS (by omega) ?_ | apply NotOwned.bif | refine NotOwned.blk (by omega) ?_ | refine NotOwned.row (by omega) ?_ | refine NotOwned.grid (by assumption) (by omega) ?_)); done))), (hw2.kp w (by (repeat (first | exact List.Mem.head _ | apply List.Mem.tail)))).size⟩
  apply W.seq
  apply W.reg
  apply oas; rfl; rfl
  apply oas; rfl; rfl
  apply OL.nil
  with_reducible apply At.next
  apply W.seq
  apply W.seq
  apply W.reg
  apply omv; rfl; rfl
  apply omv; rfl; rfl
  (((first | (with_reducible apply OL.op) | (with_reducible apply QL.op)); ((first | exact Guard.none | exact Guard.yes rfl rfl | exact Guard.no rfl rfl | exact Guard.cyes rfl rfl | exact Guard.cno rfl rfl)); rfl; rfl); (exact Pev.call rfl (by (repeat (first | exact Args.nil | (apply Args.cons rfl; ((first | exact fun _ => rfl | exact fun h => h | (intro h; simp_all; done))))))) (fun _ w2 hw2 => (Check_calls q q' cap cap' l ll w2 hlen hcap (h.keep (hsz w2 hw2).1 (hsz w2 hw2).2) hlen' (h'.keep (hsz w2 hw2).1 (hsz w2 hw2).2)).mono (fun e w3 h => ⟨h.1, hw2.ext h.2⟩))))
  apply oas; rfl; rfl
  apply OL.nil
  with_reducible apply At.next
  apply W.seq
  apply W.reg
  apply omv; rfl; rfl
  apply obn; rfl; rfl; rfl; apply Bin.neq
  apply OL.nil
  with_reducible apply At.next
  refine W.cond rfl (fun hb => ?_) (fun hb => ?_)
  · have h0 : chk l ll ≠ 0 := by simpa using hb
    apply W.seq
    apply W.reg
    apply omv; rfl; rfl
    apply oas; rfl; rfl
    apply oas; rfl; rfl
    apply OL.nil
    with_reducible apply At.next
    apply W.ret
    with_reducible apply At.then_ret
    ((with_reducible apply At.fin2); rfl; rfl; rfl; intro w' hw')
    exact ⟨⟨[], none, 0⟩, chk l ll, rfl, by unfold AftV; rw [if_pos h0]; exact ⟨rfl, rfl⟩, SlAt.nil, by (exact hw'.toExt (by (repeat (first | exact List.Mem.head _ | apply List.Mem.tail))) (fun k hk => by (focus ((try simp only [add_block]); (repeat (first | exact NotOwned.nil | exact hno _ (by omega) | refine NotOwned.nothing ?_ | refine NotOwned.nds (hlow _ (by omega)) ?_ | refine NotOwned.mapS (by omega) ?_ | apply NotOwned.bif | refine NotOwned.blk (by omega) ?_ | refine NotOwned.row (by omega) ?_ | refine NotOwned.grid (by assumption) (by omega) ?_)); done))))⟩
  have h0 : chk l ll = 0 := by simpa using hb
  obtain ⟨hl16, hll⟩ := chk_len h0
  apply W.skip
  with_reducible apply At.next
  apply W.seq
  apply W.reg
  apply OL.alloc; rfl; rfl; exact CellsL.one rfl; (intro bk hbk; simp only [AllLe, and_true] at hbk)
  apply OL.nil
  with_reducible apply At.next
  apply W.seq
  apply W.seq
  apply W.reg
  apply omv; rfl; rfl
  apply OL.op; exact Guard.none; rfl; rfl; apply Pev.len_slice; rfl; exact yes; rfl
  apply omv; rfl; rfl
  apply OL.nil
  with_reducible apply At.next
  apply W.block
  refine W.loop (G := Nat × GA) (fun g => g.1 ≤ ch.length ∧ g.2.xs = ch.take g.1 ∧ ∀ s ∈ ch.take g.1, hasB l s = true) (fun g => ch.length - g.1)
    (fun g => [(0, true, .slice q l.length cap), (1, true, .slice q' ll.length cap'), (9, true, .pointer (some ⟨bk, 0, none⟩)), (21, true, .slice qc ch.length capc), (22, true, .int .i64 (ch.length : Int)), (23, true, .int .i64 (g.1 : Int))])
    (fun g => Cls [row w.heap.size g.2.O g.2.q g.2.xs.length g.2.cap 9 1 (strs g.2.xs), blk bk 22 [.slice g.2.q g.2.xs.length g.2.cap]] [w])
    (0, ⟨[], fun _ => False, none, 0⟩) ⟨by simp, by simp, by simp⟩ (by (repeat (first | exact Sub.nil | apply Sub.cons rfl | (refine Sub.cons_eq rfl (congrArg (Value.int .i64) (by first | omega | (simp only; omega))) ?_)))) (fun w' hw' => hw'.row_nil _ _ _) ?_
  rintro ⟨j, ⟨xs, O, qx, cx⟩⟩ ⟨hj, hxs, hall⟩
  simp only at hj hxs hall ⊢
  apply W.seq
  apply W.reg
  apply obn; rfl; rfl; rfl; apply Bin.lss
  apply OL.nil
  with_reducible apply At.next
  apply W.seq
  (refine W.cond rfl (fun hlt => ?_) (fun hlt => ?_)) <;> (try (simp only [Bool.and_eq_true, Bool.or_eq_true, Bool.not_eq_true', Bool.and_eq_false_iff, Bool.or_eq_false_iff, Bool.not_eq_false', decide_eq_true_eq, decide_eq_false_iff_not, Int.not_lt, Int.not_le] at hlt)) <;> (try (exfalso; first | omega | exact hlt trivial | contradiction))
  · have hjl : j < ch.length := by omega
    obtain ⟨a, s, rfl, hab, hs, hcell⟩ := hc.str hjl
    have hxl : xs.length = j := by rw [hxs, List.length_take]; omega
    apply W.skip
    with_reducible apply At.next
    apply W.seq
    apply W.block
    apply W.seq
    apply W.reg
    apply OL.op; exact Guard.none; rfl; rfl; apply Pev.idx; rfl; exact yes; rfl; exact yes; rfl; rfl; intro hcond; omega
    apply OL.op; exact Guard.none; rfl; rfl; apply Pev.load_kept; rfl; exact yes; exact .head _; rfl; intro hcond; assumption; intro hcond; (rw [add_block]; assumption); intro hcond; simp only [add_block]; refine NotOwned.row (by omega) ?_; refine NotOwned.blk (by omega) ?_; exact NotOwned.nil
    apply oas; rfl; rfl
    apply OL.nil
    with_reducible apply At.next
    apply W.seq
    apply W.seq
    apply W.reg
    apply omv; rfl; rfl
    apply omv; rfl; rfl
    (((first | (with_reducible apply OL.op) | (with_reducible apply QL.op)); ((first | exact Guard.none | exact Guard.yes rfl rfl | exact Guard.no rfl rfl | exact Guard.cyes rfl rfl | exact Guard.cno rfl rfl)); rfl; rfl); (exact Pev.call rfl (by (repeat (first | exact Args.nil | (apply Args.cons rfl; ((first | exact fun _ => rfl | exact fun h => h | (intro h; simp_all; done))))))) (fun _ w2 hw2 => (Contains_calls q cap l s w2 hlen (h.keep (hw2.below (s := w) (by (repeat (first | exact List.Mem.head _ | apply List.Mem.tail))) (Nat.le_refl _) (fun k hk => by (focus ((try simp only [add_block]); (repeat (first | exact NotOwned.nil | exact hno _ (by omega) | refine NotOwned.nothing ?_ | refine NotOwned.nds (hlow _ (by omega)) ?_ | refine NotOwned.mapS (by omega) ?_ | apply NotOwned.bif | refine NotOwned.blk (by omega) ?_ | refine NotOwned.row (by omega) ?_ | refine NotOwned.grid (by assumption) (by omega) ?_)); done)))) (hw2.kp w (by (repeat (first | exact List.Mem.head _ | apply List.Mem.tail)))).size)).mono (fun e w3 h => ⟨h.1, hw2.ext h.2⟩))))
    apply OL.op; exact Guard.none; rfl; rfl; apply Pev.not; rfl; exact yes
    apply OL.nil
    with_reducible apply At.next
    refine W.cond rfl (fun hb2 => ?_) (fun hb2 => ?_)
    · apply W.seq
      apply W.reg
      apply oas; rfl; rfl
      apply oas; rfl; rfl
      apply OL.nil
      with_reducible apply At.next
      apply W.ret
      with_reducible apply At.then_ret
      with_reducible apply At.in_ret
      with_reducible apply At.then_ret
      with_reducible apply At.then_ret
      with_reducible apply At.in_ret
      with_reducible apply At.then_ret
      ((with_reducible apply At.fin2); rfl; rfl; rfl; intro w' hw')
      exact ⟨⟨[], none, 0⟩, 6, rfl, by unfold AftV; rw [if_neg (by simpa using h0), if_pos (take_any hs hb2)]; exact ⟨rfl, rfl⟩, SlAt.nil, by (exact hw'.toExt (by (repeat (first | exact List.Mem.head _ | apply List.Mem.tail))) (fun k hk => by (focus ((try simp only [add_block]); (repeat (first | exact NotOwned.nil | exact hno _ (by omega) | refine NotOwned.nothing ?_ | refine NotOwned.nds (hlow _ (by omega)) ?_ | refine NotOwned.mapS (by omega) ?_ | apply NotOwned.bif | refine NotOwned.blk (by omega) ?_ | refine NotOwned.row (by omega) ?_ | refine NotOwned.grid (by assumption) (by omega) ?_)); done))))⟩
    · have hin : hasB l s = true := by simpa using hb2
      have htk : ch.take (j + 1) = ch.take j ++ [s] := by rw [List.take_add_one, hs]; rfl
      have hst : strs (ch.take (j + 1)) = strs xs ++ [.string s] := by rw [htk, hxs]; simp [strs]
      apply W.skip
      with_reducible apply At.next
      apply W.reg
      apply old; rfl; rfl; exact .tail _ (.head _); rfl; rfl
      apply omv; rfl; rfl
      apply OL.buildSlice; rfl; rfl; rfl; apply Elems.cons rfl; exact CellsL.one rfl; rfl; apply Elems.nil; apply App.cons; apply App.nil; rfl; rfl; (intro bk hbk; simp only [AllLe, and_true] at hbk)
      apply OL.append; rfl; rfl; rfl; rfl; apply Hole.s; apply Hole.z; exact .head _; apply Take.succ; apply Take.zero; rfl; rfl; exact ⟨_, .head _, Nat.le_refl _⟩; omega; intro O1 g1 cap1
      apply OL.storeB; rfl; rfl; exact CellsL.one rfl; rfl; rfl; rfl; apply Swap.s; apply Swap.s; apply Swap.z; apply Put.here; apply Over.cons; apply Over.nil
      apply OL.nil
      with_reducible apply At.in_normal
      with_reducible apply At.next
      apply W.reg
      apply obn; rfl; rfl; rfl; apply Bin.add_in; omega
      apply omv; rfl; rfl
      apply OL.nil
      have hl1 : (ch.take (j + 1)).length = xs.length + 1 := by rw [List.length_take, hxl]; omega
      refine At.again (j + 1, ⟨ch.take (j + 1), O1, some ⟨g1, 0, none⟩, cap1⟩) ⟨by simp only; omega, rfl, fun u hu => ?_⟩ (by simp only; omega) (by (repeat (first | exact Sub.nil | apply Sub.cons rfl | (refine Sub.cons_eq rfl (congrArg (Value.int .i64) (by first | omega | (simp only; omega))) ?_)))) (fun w' hw' => ?_)
      · rw [htk] at hu
        rcases List.mem_append.1 hu with hu | hu
        · exact hall u hu
        · rw [List.mem_singleton.1 hu]; exact hin
      · simp only [hst, hl1]
        exact hw'.thin (by (repeat (first | exact Thin.nil | exact Thin.same | apply Thin.keep | (refine Thin.blk (by assumption) ?_) | (refine Thin.blk (by simp only [AllLe, and_true]; omega) ?_))))
  have hje : j = ch.length := by omega
  subst hje
  rw [List.take_length] at hxs hall
  have hany : ch.any (fun s => !hasB l s) = false := by
    rw [List.any_eq_false]
    intro s hs
    rw [hall s hs]; simp
  have hX0 : GoodX l ll ch xs := by
    rw [hxs]
    refine ⟨fun s hs => ?_, fun s hs => hs, Nat.add_le_add_left (List.length_filter_le _ _) _⟩
    obtain ⟨i, hi⟩ := List.mem_iff_getElem?.1 (hasB_iff.1 (hall s hs))
    have e : nm l i = s := getD_of hi
    exact ⟨i, (List.getElem?_eq_some_iff.1 hi).1, e, .inl (by rw [e]; exact hs)⟩
  clear hxs
  apply W.exit
  with_reducible apply At.then_exit
  with_reducible apply At.then_exit
  with_reducible apply At.in_exit
  with_reducible apply At.next
  apply W.seq
  apply W.seq
  apply W.reg
  apply oas; rfl; rfl
  apply OL.nil
  with_reducible apply At.next
  apply W.block
  refine W.loop (G := Bool × GA) (fun g => GoodX l ll ch g.2.xs ∧ (g.1 = false → ∀ i, i < l.length → addI l ll g.2.xs i = false)) (fun g => cnt l g.2.xs + if g.1 then 1 else 0)
    (fun g => [(0, true, .slice q l.length cap), (1, true, .slice q' ll.length cap'), (9, true, .pointer (some ⟨bk, 0, none⟩)), (12, true, .bool g.1)])
    (fun g => Cls [row w.heap.size g.2.O g.2.q g.2.xs.length g.2.cap 9 1 (strs g.2.xs), blk bk 22 [.slice g.2.q g.2.xs.length g.2.cap]] [w])
    (true, ⟨xs, O, qx, cx⟩) ⟨hX0, by simp⟩ (by (repeat (first | exact Sub.nil | apply Sub.cons rfl | (refine Sub.cons_eq rfl (congrArg (Value.int .i64) (by first | omega | (simp only; omega))) ?_)))) (fun w' hw' => hw') ?_
  clear hX0
  rintro ⟨ag, ⟨xs0, O, qx, cx⟩⟩ ⟨hX, hdone⟩
  simp only at hX hdone ⊢
  apply W.seq
  apply W.seq
  apply W.reg
  apply omv; rfl; rfl
  apply OL.nil
  with_reducible apply At.next
  refine W.cond rfl (fun hag => ?_) (fun hag => ?_)
  · subst hag
    apply W.skip
    with_reducible apply At.next
    apply W.block
    apply W.seq
    apply W.reg
    apply oas; rfl; rfl
    apply OL.nil
    with_reducible apply At.next
    apply W.seq
    apply W.reg
    apply omv; rfl; rfl
    apply OL.op; exact Guard.none; rfl; rfl; apply Pev.len_slice; rfl; exact yes; rfl
    apply omv; rfl; rfl
    apply OL.nil
    with_reducible apply At.next
    apply W.block
    refine W.loop (G := Nat × Bool × GA) (fun g => g.1 ≤ l.length ∧ GoodX l ll ch g.2.2.xs ∧ cnt l g.2.2.xs + (if g.2.1 then 1 else 0) ≤ cnt l xs0 ∧ (g.2.1 = false → ∀ i, i < g.1 → addI l ll g.2.2.xs i = false)) (fun g => l.length - g.1)
      (fun g => [(0, true, .slice q l.length cap), (1, true, .slice q' ll.length cap'), (9, true, .pointer (some ⟨bk, 0, none⟩)), (12, true, .bool g.2.1), (37, true, .slice q l.length cap), (38, true, .int .i64 (l.length : Int)), (39, true, .int .i64 (g.1 : Int))])
      (fun g => Cls [row w.heap.size g.2.2.O g.2.2.q g.2.2.xs.length g.2.2.cap 9 1 (strs g.2.2.xs), blk bk 22 [.slice g.2.2.q g.2.2.xs.length g.2.2.cap]] [w])
      (0, false, ⟨xs0, O, qx, cx⟩) ⟨by simp, hX, by simp, fun _ i hi => by simp only at hi; omega⟩ (by (repeat (first | exact Sub.nil | apply Sub.cons rfl | (refine Sub.cons_eq rfl (congrArg (Value.int .i64) (by first | omega | (simp only; omega))) ?_)))) (fun w' hw' => hw') ?_
    clear hX
    rintro ⟨i, ag, ⟨xs, O, qx, cx⟩⟩ ⟨hi, hX, hcn, hdn⟩
    simp only at hi hX hcn hdn ⊢
    apply W.seq
    apply W.reg
    apply obn; rfl; rfl; rfl; apply Bin.lss
    apply OL.nil
    with_reducible apply At.next
    apply W.seq
    (refine W.cond rfl (fun hlt2 => ?_) (fun hlt2 => ?_)) <;> (try (simp only [Bool.and_eq_true, Bool.or_eq_true, Bool.not_eq_true', Bool.and_eq_false_iff, Bool.or_eq_false_iff, Bool.not_eq_false', decide_eq_true_eq, decide_eq_false_iff_not, Int.not_lt, Int.not_le] at hlt2)) <;> (try (exfalso; first | omega | exact hlt2 trivial | contradiction))
    · have hil : i < l.length := by omega
      obtain ⟨a, u, rfl, hab, hu, hcell⟩ := h.str hil
      obtain ⟨m, hm⟩ : ∃ m, ll[i]? = some m := ⟨_, List.getElem?_eq_getElem (by omega)⟩
      obtain ⟨a2, qm, capm, rfl, hab2, hcell2, hmcap, hmlen, hms⟩ := h'.get i m hm
      have hnm : nm l i = u := getD_of hu
      have hgm : ll.getD i [] = m := by rw [List.getD_eq_getElem?_getD, hm]; rfl
      have hxl : xs.length ≤ ch.length + 16 := by have := hX.len; omega
      have hadd : addI l ll xs i = (!hasB xs u && m.any (hasB xs)) := by unfold addI; rw [hnm, hgm]
      have hb2 : ∀ w2, Cls [row w.heap.size O qx xs.length cx 9 1 (strs xs), blk bk 22 [.slice qx xs.length cx]] [w] w2 →
          (∀ p : Addr, p.block < w.heap.size → w2.cell? p = w.cell? p) ∧ w.heap.size ≤ w2.heap.size ∧ SlAt w2 w2.heap.size qx (strs xs) ∧ w2.cell? ⟨bk, 0, none⟩ = some (.slice qx xs.length cx) ∧ bk < w2.heap.size := fun w2 hw2 => by
        have hi := hw2.item (i := blk bk 22 [.slice qx xs.length cx]) (by (repeat (first | exact List.Mem.head _ | apply List.Mem.tail)))
        exact ⟨hw2.below (s := w) (by (repeat (first | exact List.Mem.head _ | apply List.Mem.tail))) (Nat.le_refl _) (fun k hk => by (focus ((try simp only [add_block]); (repeat (first | exact NotOwned.nil | exact hno _ (by omega) | refine NotOwned.nothing ?_ | refine NotOwned.nds (hlow _ (by omega)) ?_ | refine NotOwned.mapS (by omega) ?_ | apply NotOwned.bif | refine NotOwned.blk (by omega) ?_ | refine NotOwned.row (by omega) ?_ | refine NotOwned.grid (by assumption) (by omega) ?_)); done))), (hw2.kp w (by (repeat (first | exact List.Mem.head _ | apply List.Mem.tail)))).size, SlAt.of_row (hw2.item (i := row w.heap.size O qx xs.length cx 9 1 (strs xs)) (by (repeat (first | exact List.Mem.head _ | apply List.Mem.tail)))), by rw [blk_cell hi]; rfl, blk_lt hi⟩
      apply W.skip
      with_reducible apply At.next
      apply W.seq
      apply W.block
      apply W.seq
      apply W.reg
      apply omv; rfl; rfl
      apply OL.op; exact Guard.none; rfl; rfl; apply Pev.idx; rfl; exact yes; rfl; exact yes; rfl; rfl; intro hcond; omega
      apply OL.op; exact Guard.none; rfl; rfl; apply Pev.load_kept; rfl; exact yes; exact .head _; rfl; intro hcond; assumption; intro hcond; (rw [add_block]; assumption); intro hcond; simp only [add_block]; refine NotOwned.row (by omega) ?_; refine NotOwned.blk (by omega) ?_; exact NotOwned.nil
      apply oas; rfl; rfl
      apply oas; rfl; rfl
      apply OL.nil
      with_reducible apply At.next
      apply W.seq
      apply W.reg
      apply old; rfl; rfl; exact .tail _ (.head _); rfl; rfl
      apply omv; rfl; rfl
      (((first | (with_reducible apply OL.op) | (with_reducible apply QL.op)); ((first | exact Guard.none | exact Guard.yes rfl rfl | exact Guard.no rfl rfl | exact Guard.cyes rfl rfl | exact Guard.cno rfl rfl)); rfl; rfl); (exact Pev.call rfl (by (repeat (first | exact Args.nil | (apply Args.cons rfl; ((first | exact fun _ => rfl | exact fun h => h | (intro h; simp_all; done))))))) (fun _ w2 hw2 => (Contains_calls qx cx xs u w2 (by omega) (hb2 w2 hw2).2.2.1).mono (fun e w3 h => ⟨h.1, hw2.ext h.2⟩))))
      apply OL.op; exact Guard.none; rfl; rfl; apply Pev.not; rfl; exact yes
      apply omv; rfl; rfl
      apply OL.op; exact Guard.yes rfl rfl; rfl; rfl; apply Pev.move; rfl; exact yes
      apply OL.op; exact Guard.yes rfl rfl; rfl; rfl; apply Pev.move; rfl; exact yes
      apply OL.op; exact Guard.yes rfl rfl; rfl; rfl; apply Pev.idx; rfl; exact fun h => h; rfl; exact fun h => h; rfl; rfl; intro hcond; omega
      apply OL.op; exact Guard.yes rfl rfl; rfl; rfl; apply Pev.load_kept; rfl; exact fun h => h; exact .head _; rfl; intro hcond; assumption; intro hcond; (rw [add_block]; assumption); intro hcond; simp only [add_block]; refine NotOwned.row (by omega) ?_; refine NotOwned.blk (by omega) ?_; exact NotOwned.nil
      apply OL.op; exact Guard.yes rfl rfl; rfl; rfl; apply Pev.makeFunc; exact Args.nil; apply Args.cons rfl; exact yes; exact Args.nil
      (((first | (with_reducible apply OL.op) | (with_reducible apply QL.op)); ((first | exact Guard.none | exact Guard.yes rfl rfl | exact Guard.no rfl rfl | exact Guard.cyes rfl rfl | exact Guard.cno rfl rfl)); rfl; rfl); (exact Pev.call rfl (by (repeat (first | exact Args.nil | (apply Args.cons rfl; ((first | exact fun _ => rfl | exact fun h => h | (intro h; simp_all; done))))))) (fun _ w2 hw2 => (ContainsFunc_calls qm capm m 15 [] [.pointer (some ⟨bk, 0, none⟩)] (fun s => hasB xs s) w2 hmlen (hms.keep (hb2 w2 hw2).1 (hb2 w2 hw2).2.1) rfl
        (fun s hs w3 hx => lit_calls bk qx cx xs s w3 (Nat.lt_of_lt_of_le (hb2 w2 hw2).2.2.2.2 hx.size) ((World.cell?_of_block (hx.below.block bk (hb2 w2 hw2).2.2.2.2)).trans (hb2 w2 hw2).2.2.2.1) (by omega) ((hb2 w2 hw2).2.2.1.ext hx (Nat.le_refl _)))).mono (fun e w3 h => ⟨h.1, hw2.ext h.2⟩))))
      apply OL.op; exact Guard.none; rfl; rfl; apply Pev.pick_and; rfl; exact yes; rfl; exact fun h => h
      apply OL.nil
      with_reducible apply At.next
      refine W.cond rfl (fun hc2 => ?_) (fun hc2 => ?_)
      · have ha : addI l ll xs i = true := hadd.trans hc2
        have hst : strs (xs ++ [u]) = strs xs ++ [.string u] := by simp [strs]
        have hl1 : (xs ++ [u]).length = xs.length + 1 := by simp
        have hX2 := hX.push h0 hil ha
        rw [hnm] at hX2
        have hcp : cnt l (xs ++ [u]) < cnt l xs := by
          refine cnt_push (by rw [← hnm]; exact nm_mem hil) ?_
          unfold addI at ha
          simp only [Bool.and_eq_true, Bool.not_eq_true'] at ha
          rw [hnm] at ha
          exact ha.1
        apply W.reg
        apply old; rfl; rfl; exact .tail _ (.head _); rfl; rfl
        apply omv; rfl; rfl
        apply OL.buildSlice; rfl; rfl; rfl; apply Elems.cons rfl; exact CellsL.one rfl; rfl; apply Elems.nil; apply App.cons; apply App.nil; rfl; rfl; (intro bk hbk; simp only [AllLe, and_true] at hbk)
        apply OL.append; rfl; rfl; rfl; rfl; apply Hole.s; apply Hole.z; exact .head _; apply Take.succ; apply Take.zero; rfl; rfl; exact ⟨_, .head _, Nat.le_refl _⟩; omega; intro O1 g1 cap1
        apply OL.storeB; rfl; rfl; exact CellsL.one rfl; rfl; rfl; rfl; apply Swap.s; apply Swap.s; apply Swap.z; apply Put.here; apply Over.cons; apply Over.nil
        apply oas; rfl; rfl
        apply OL.nil
        with_reducible apply At.in_normal
        with_reducible apply At.next
        apply W.reg
        apply obn; rfl; rfl; rfl; apply Bin.add_in; omega
        apply omv; rfl; rfl
        apply OL.nil
        refine At.again (i + 1, true, ⟨xs ++ [u], O1, some ⟨g1, 0, none⟩, cap1⟩) ⟨by simp only; omega, hX2, by show cnt l (xs ++ [u]) + 1 ≤ cnt l xs0; split at hcn <;> omega, by simp⟩ (by simp only; omega) (by (repeat (first | exact Sub.nil | apply Sub.cons rfl | (refine Sub.cons_eq rfl (congrArg (Value.int .i64) (by first | omega | (simp only; omega))) ?_)))) (fun w' hw' => ?_)
        simp only [hst, hl1]
        exact hw'.thin (by (repeat (first | exact Thin.nil | exact Thin.same | apply Thin.keep | (refine Thin.blk (by assumption) ?_) | (refine Thin.blk (by simp only [AllLe, and_true]; omega) ?_))))
      · have ha : addI l ll xs i = false := hadd.trans hc2
        apply W.skip
        with_reducible apply At.in_normal
        with_reducible apply At.next
        apply W.reg
        apply obn; rfl; rfl; rfl; apply Bin.add_in; omega
        apply omv; rfl; rfl
        apply OL.nil
        refine At.again (i + 1, ag, ⟨xs, O, qx, cx⟩) ⟨by simp only; omega, hX, hcn, fun e k hk => ?_⟩ (by simp only; omega) (by (repeat (first | exact Sub.nil | apply Sub.cons rfl | (refine Sub.cons_eq rfl (congrArg (Value.int .i64) (by first | omega | (simp only; omega))) ?_)))) (fun w' hw' => hw')
        simp only at e hk
        rcases Nat.lt_or_ge k i with h2 | h2
        · exact hdn e k h2
        · obtain rfl : k = i := by omega
          exact ha
    · obtain rfl : i = l.length := by omega
      apply W.exit
      with_reducible apply At.then_exit
      with_reducible apply At.then_exit
      with_reducible apply At.in_exit
      with_reducible apply At.in_normal
      refine At.again (ag, ⟨xs, O, qx, cx⟩) ⟨hX, hdn⟩ (by show cnt l xs + (if ag = true then 1 else 0) < cnt l xs0 + 1; omega) (by (repeat (first | exact Sub.nil | apply Sub.cons rfl | (refine Sub.cons_eq rfl (congrArg (Value.int .i64) (by first | omega | (simp only; omega))) ?_)))) (fun w' hw' => hw')
  · subst hag
    have hd := hdone rfl
    have hxl : xs0.length ≤ ch.length + 16 := by have := hX.len; omega
    apply W.exit
    with_reducible apply At.then_exit
    with_reducible apply At.then_exit
    with_reducible apply At.in_exit
    with_reducible apply At.next
    apply W.seq
    apply W.reg
    apply old; rfl; rfl; exact .tail _ (.head _); rfl; rfl
    refine OL.callE (α := Unit) (fun _ => .tuple #[]) (fun _ => True) (fun _ => Cls [row w.heap.size O qx xs0.length cx 9 1 (strs (srtS xs0)), blk bk 22 [.slice qx xs0.length cx]] [w]) rfl rfl (by (repeat (first | exact Args.nil | (apply Args.cons rfl; ((first | exact fun _ => rfl | exact fun h => h | (intro h; simp_all; done))))))) (fun w2 hw2 => (Sort_calls .z hw2 (by omega)).mono fun e w3 h => ⟨(), h.1, trivial, h.2⟩) ?_
    rintro _ _
    have hsl := srtS_len xs0
    apply OL.nil
    with_reducible apply At.next
    apply W.seq
    apply W.reg
    apply old; rfl; rfl; exact .tail _ (.head _); rfl; rfl
    refine OL.callE (α := Unit) (fun _ => .slice qx (cmpS (srtS xs0)).length cx) (fun _ => True) (fun _ => Cls [row w.heap.size O qx (cmpS (srtS xs0)).length cx 9 1 (strs (cmpS (srtS xs0))), blk bk 22 [.slice qx xs0.length cx]] [w]) rfl rfl (by (repeat (first | exact Args.nil | (apply Args.cons rfl; ((first | exact fun _ => rfl | exact fun h => h | (intro h; simp_all; done))))))) (fun w2 hw2 => ?_) ?_
    · rw [← hsl] at hw2
      have hcc := Compact_calls (xs := srtS xs0) .z (fun _ => .z) hw2 (by omega)
      rw [hsl] at hcc
      exact hcc.mono fun e w3 h => ⟨(), h.1, trivial, h.2⟩
    rintro _ _
    apply oas; rfl; rfl
    apply oas; rfl; rfl
    apply OL.nil
    with_reducible apply At.next
    apply W.ret
    ((with_reducible apply At.fin2); rfl; rfl; rfl; intro w' hw')
    exact ⟨⟨cmpS (srtS xs0), qx, cx⟩, 0, rfl, by unfold AftV; rw [if_neg (by simpa using h0), hany]; exact ⟨rfl, xs0, hX, hd, rfl⟩, SlAt.of_row (hw'.item (.head _)), by (exact hw'.toExt (by (repeat (first | exact List.Mem.head _ | apply List.Mem.tail))) (fun k hk => by (focus ((try simp only [add_block]); (repeat (first | exact NotOwned.nil | exact hno _ (by omega) | refine NotOwned.nothing ?_ | refine NotOwned.nds (hlow _ (by omega)) ?_ | refine NotOwned.mapS (by omega) ?_ | apply NotOwned.bif | refine NotOwned.blk (by omega) ?_ | refine NotOwned.row (by omega) ?_ | refine NotOwned.grid (by assumption) (by omega) ?_)); done))))⟩
end Go.Proofs.Ytgllgllbgojhfaa.mo
