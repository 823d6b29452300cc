/- The walk of the law ModulesAfter. Conditions: none. -/
import Derived.Test.YtgllgllbgojhfaaMaA
import Derived.Test.YtgllgllbgojhfaaMaD
import Derived.Test.YtgllgllbgojhfaaMaE
import Derived.Test.YtgllgllbgojhfaaRd
import Derived.Test.YtgllgllbgojhfaaGat
import Derived.Test.YtgllgllbgojhfaaMoR
namespace Go.Proofs.Ytgllgllbgojhfaa.mo
open Go.RowKit Go.Eng Go.Mo
set_option linter.unusedVariables false
set_option linter.unusedSimpArgs false
set_option maxRecDepth 100000

theorem aft_eq {xs b : List ByteArray} (h : ∀ x, x ∈ xs ↔ x ∈ b) (hb : b.Nodup) : cmpS (srtS xs) = srtS b := by
  unfold cmpS srtS
  rw [bss_ssb, compact_srt (b := bss b)]
  · unfold bss
    rw [List.Nodup, List.pairwise_map]
    refine List.Pairwise.imp (fun hab e => hab ?_) hb
    apply ByteArray.ext
    exact Array.toList_inj.1 e
  · intro x
    have e : x = (⟨x.toArray⟩ : ByteArray).data.toList := rfl
    rw [e, bss_mem, bss_mem]
    exact h _
theorem outR_nodup {l : List ByteArray} {ll : List (List ByteArray)} (hc : chk l ll = 0) (M : List (List Bool)) (ch : List ByteArray) : (outR l M ch l.length).Nodup := by
  unfold outR
  rw [List.Nodup, List.pairwise_map]
  refine List.Pairwise.imp_of_mem (fun {a b} ha hb hab e => hab ?_) (List.Pairwise.filter _ (List.nodup_range (n := l.length)))
  rw [List.mem_filter, List.mem_range] at ha hb
  exact (chk_nodup hc).1 a b ha.1 hb.1 e
theorem out_mem {l : List ByteArray} {ll : List (List ByteArray)} {ch xs : List ByteArray} {M : List (List Bool)} (hc : chk l ll = 0) (hX : GoodX l ll ch xs) (hd : ∀ i, i < l.length → addI l ll xs i = false)
    (hM : ∀ i j, i < l.length → j < l.length → (mget M i j = true ↔ Path l ll i j)) (x : ByteArray) : x ∈ xs ↔ x ∈ outR l M ch l.length := by
  unfold outR
  rw [List.mem_map]
  constructor
  · intro hx
    obtain ⟨i, hi, rfl, hr⟩ := hX.inn x hx
    exact ⟨i, List.mem_filter.2 ⟨List.mem_range.2 hi, (isR_iff hM hi).2 hr⟩, rfl⟩
  · rintro ⟨i, hi, rfl⟩
    rw [List.mem_filter, List.mem_range] at hi
    exact (hX.all hc hd hi.1).2 ((isR_iff hM hi.1).1 hi.2)
def sA : ByteArray := ⟨#[65]⟩
theorem aft_one {ys : List ByteArray} {e : Int} (h : AftV [sA] [[]] [sA] ys e) : ys.length = 1 ∧ e = 0 := by
  have hc : chk [sA] [[]] = 0 := by kernel_rfl
  have ha : [sA].any (fun s => !hasB [sA] s) = false := by kernel_rfl
  unfold AftV at h
  rw [if_neg (by simpa using hc), ha, if_neg (by simp)] at h
  obtain ⟨rfl, xs, hX, hd, rfl⟩ := h
  refine ⟨?_, rfl⟩
  rw [aft_eq (b := [sA]) (fun x => ⟨fun hx => ?_, fun hx => hX.sub _ hx⟩) (by simp), srtS_len]
  · rfl
  · obtain ⟨i, hi, e, _⟩ := hX.inn x hx
    have : i = 0 := by simp at hi; exact hi
    subst this
    rw [← e]
    exact .head _
theorem sq_row {w : World} {B : Nat} {q : Option Addr} {M : List (List Bool)} (h : SqAt w B q M) {n i j : Nat} (hl : M.length = n) (hr : ∀ (i : Nat) (r : List Bool), M[i]? = some r → r.length = n) (hi : i < n) (hj : j < n) :
    ∃ a a2, q = some a ∧ a.block < B ∧ w.cell? (a.add (i * 1)) = some (.slice (some a2) n n) ∧ a2.block < B ∧ w.cell? (a2.add (j * 1)) = some (.bool (mget M i j)) := by
  obtain ⟨r, hri⟩ : ∃ r, M[i]? = some r := ⟨_, List.getElem?_eq_getElem (by omega)⟩
  obtain ⟨a, q', rfl, hab, hc, hs⟩ := h.get i r hri
  have hrl := hr i r hri
  obtain ⟨b, hb⟩ : ∃ b, r[j]? = some b := ⟨_, List.getElem?_eq_getElem (by omega)⟩
  obtain ⟨a2, rfl, hab2, hc2⟩ := hs (by simp [bools]; omega)
  refine ⟨a, a2, rfl, hab, by rw [hc, hrl], hab2, ?_⟩
  rw [Nat.mul_one, hc2 j _ (bools_get hb), mget_of hri hb]
theorem law_calls (q q' qc : Option Addr) (cap cap' capc : Nat) (l : List ByteArray) (ll : List (List ByteArray)) (ch : List ByteArray) (w : World) (hlen : l.length ≤ 9223372036854775807) (hcap : l.length ≤ cap) (h : SlAt w w.heap.size q (strs l))
    (hlen' : ll.length ≤ 9223372036854775807) (h' : StrRows w w.heap.size q' ll) (hlenc : ch.length * 16 ≤ 140737488351232) (hc : SlAt w w.heap.size qc (strs ch)) :
    Calls Try.prog 3 #[.slice q l.length cap, .slice q' ll.length cap', .slice qc ch.length capc] w fun e w' => e = .returned (.bool true) ∧ Ext w w' := by
  refine enter Try.func3 rfl Try.ntmps3 rfl (Cls.start w) ?_
  (simp only [argEnv, Nat.zero_add, Nat.reduceAdd])
  apply W.seq
  apply W.reg
  apply oas; rfl; rfl
  apply OL.nil
  with_reducible apply At.next
  apply W.seq
  apply W.seq
  apply W.reg
  apply OL.buildSlice; rfl; rfl; rfl; apply Elems.cons rfl; exact CellsL.one rfl; rfl; apply Elems.nil; apply App.cons; apply App.nil; rfl; rfl; (intro bk hbk; simp only [AllLe, and_true] at hbk)
  apply OL.buildSlice; rfl; rfl; rfl; apply Elems.cons rfl; exact CellsL.one rfl; rfl; apply Elems.nil; apply App.cons; apply App.nil; rfl; rfl; (intro bk hbk; simp only [AllLe, and_true] at hbk)
  apply OL.buildSlice; rfl; rfl; rfl; apply Elems.cons rfl; exact CellsL.one rfl; rfl; apply Elems.nil; apply App.cons; apply App.nil; rfl; rfl; (intro bk hbk; simp only [AllLe, and_true] at hbk)
  rename_i b1 hb1 b2 hb2
  refine OL.callE (α := Option Addr × Nat) (fun x => .tuple #[.slice x.1 1 x.2, .int .i64 0]) (fun _ => True) (fun _ => Cls [] [w]) rfl rfl (by (repeat (first | exact Args.nil | (apply Args.cons rfl; ((first | exact fun _ => rfl | exact fun h => h | (intro h; simp_all; done))))))) (fun w2 hw2 => ?_) ?_
  · have i1 := hw2.item (i := blk b1 9 [.string sA]) (by (repeat (first | exact List.Mem.head _ | apply List.Mem.tail)))
    have i2 := hw2.item (i := blk b2 22 [.slice none 0 0]) (by (repeat (first | exact List.Mem.head _ | apply List.Mem.tail)))
    have i3 := hw2.item (i := blk bk 9 [.string sA]) (by (repeat (first | exact List.Mem.head _ | apply List.Mem.tail)))
    have hrows : StrRows w2 w2.heap.size (some ⟨b2, 0, none⟩) [[]] := ⟨fun i m hm => by
      match i, hm with
      | 0, hm =>
        cases hm
        exact ⟨_, none, 0, rfl, blk_lt i2, blk_cell i2, by decide, by decide, SlAt.nil⟩⟩
    refine (After_calls (some ⟨b1, 0, none⟩) (some ⟨b2, 0, none⟩) (some ⟨bk, 0, none⟩) 1 1 1 [sA] [[]] [sA] w2 (by decide) (by decide) (SlAt.of_blk (o := 0) i1 (fun j v hj => by rw [Nat.zero_add]; exact hj)) (by decide) hrows (by decide) (SlAt.of_blk (o := 0) i3 (fun j v hj => by rw [Nat.zero_add]; exact hj))).mono (fun e w3 ⟨x, er, he, hv, _, hx⟩ => ?_)
    obtain ⟨h1, h2⟩ := aft_one hv
    exact ⟨(x.q, x.cap), by rw [he, h1, h2], trivial, (hw2.ext hx).thin (by (repeat (first | exact Thin.nil | exact Thin.same | apply Thin.keep | (refine Thin.blk (by assumption) ?_) | (refine Thin.blk (by simp only [AllLe, and_true]; omega) ?_))))⟩
  rintro ⟨qo, co⟩ _
  simp only
  apply omv; rfl; rfl
  apply oex; rfl; rfl; rfl
  apply oex; rfl; rfl; rfl
  apply oas; rfl; rfl
  apply oas; rfl; rfl
  apply OL.nil
  with_reducible apply At.next
  apply W.seq
  apply W.reg
  apply omv; rfl; rfl
  apply obn; rfl; rfl; rfl; apply Bin.neq
  apply omv; rfl; rfl
  apply OL.op; exact Guard.no rfl rfl; rfl; rfl; apply Pev.move; rfl; exact yes
  apply OL.op; exact Guard.no rfl rfl; rfl; rfl; apply Pev.len_slice; rfl; exact yes; rfl
  apply OL.op; exact Guard.no rfl rfl; rfl; rfl; apply Pev.bin; rfl; exact yes; rfl; exact yes; intro hcond; apply Bin.neq
  apply OL.op; exact Guard.none; rfl; rfl; apply Pev.pick_or; rfl; exact yes; rfl; exact yes
  apply OL.nil
  with_reducible apply At.next
  refine W.cond rfl (fun hc => by simp at hc) (fun _ => ?_)
  apply W.skip
  with_reducible apply At.next
  apply W.seq
  apply W.reg
  apply omv; rfl; rfl
  apply omv; rfl; rfl
  apply omv; rfl; rfl
  refine OL.callE (α := (GB × Int) × World) (fun x => .tuple #[.slice x.1.1.q x.1.1.ys.length x.1.1.cap, .int .i64 x.1.2]) (fun x => AftV l ll ch x.1.1.ys x.1.2 ∧ SlAt x.2 x.2.heap.size x.1.1.q (strs x.1.1.ys) ∧ Ext w x.2) (fun x => Cls [] [w, x.2]) rfl rfl (by (repeat (first | exact Args.nil | (apply Args.cons rfl; ((first | exact fun _ => rfl | exact fun h => h | (intro h; simp_all; done))))))) (fun w2 hw2 => ?_) ?_
  · have h1 := hw2.below (s := w) (by (repeat (first | exact List.Mem.head _ | apply List.Mem.tail))) (Nat.le_refl _) (fun k hk => by (focus ((try simp only [add_block]); (repeat (first | exact NotOwned.nil | exact hno _ (by omega) | refine NotOwned.nothing ?_ | refine NotOwned.nds (hlow _ (by omega)) ?_ | refine NotOwned.mapS (by omega) ?_ | apply NotOwned.bif | refine NotOwned.blk (by omega) ?_ | refine NotOwned.row (by omega) ?_ | refine NotOwned.grid (by assumption) (by omega) ?_)); done)))
    have h2 := (hw2.kp w (by (repeat (first | exact List.Mem.head _ | apply List.Mem.tail)))).size
    refine (After_calls q q' qc cap cap' capc l ll ch w2 hlen hcap (h.keep h1 h2) hlen' (h'.keep h1 h2) hlenc (hc.keep h1 h2)).mono (fun e w3 ⟨x, er, he, hv, hs, hx⟩ => ?_)
    exact ⟨((x, er), w3), he, ⟨hv, hs, (hw2.toExt (s := w) (by (repeat (first | exact List.Mem.head _ | apply List.Mem.tail))) (fun k hk => by (focus ((try simp only [add_block]); (repeat (first | exact NotOwned.nil | exact hno _ (by omega) | refine NotOwned.nothing ?_ | refine NotOwned.nds (hlow _ (by omega)) ?_ | refine NotOwned.mapS (by omega) ?_ | apply NotOwned.bif | refine NotOwned.blk (by omega) ?_ | refine NotOwned.row (by omega) ?_ | refine NotOwned.grid (by assumption) (by omega) ?_)); done)))).trans hx⟩, ((hw2.ext hx).note).forget (by simp)⟩
  rintro ⟨⟨⟨ys, qy, cy⟩, er⟩, w2⟩ ⟨hv, hs2, hx2⟩
  simp only at hv hs2 hx2 ⊢
  have hws := hx2.size
  have hsz : ∀ w3, Cls [] [w, w2] w3 → (∀ p : Addr, p.block < w.heap.size → w3.cell? p = w.cell? p) ∧ w.heap.size ≤ w3.heap.size := fun w3 hw3 =>
    ⟨hw3.below (s := w) (by (repeat (first | exact List.Mem.head _ | apply List.Mem.tail))) (Nat.le_refl _) (fun k hk => by (focus ((try simp only [add_block]); (repeat (first | exact NotOwned.nil | exact hno _ (by omega) | refine NotOwned.nothing ?_ | refine NotOwned.nds (hlow _ (by omega)) ?_ | refine NotOwned.mapS (by omega) ?_ | apply NotOwned.bif | refine NotOwned.blk (by omega) ?_ | refine NotOwned.row (by omega) ?_ | refine NotOwned.grid (by assumption) (by omega) ?_)); done))), (hw3.kp w (by (repeat (first | exact List.Mem.head _ | apply List.Mem.tail)))).size⟩
  apply omv; rfl; rfl
  apply oex; rfl; rfl; rfl
  apply oex; rfl; rfl; rfl
  apply oas; rfl; rfl
  apply oas; rfl; rfl
  apply OL.nil
  with_reducible apply At.next
  apply W.seq
  apply W.reg
  apply omv; rfl; rfl
  apply omv; rfl; rfl
  (((first | (with_reducible apply OL.op) | (with_reducible apply QL.op)); ((first | exact Guard.none | exact Guard.yes rfl rfl | exact Guard.no rfl rfl | exact Guard.cyes rfl rfl | exact Guard.cno rfl rfl)); rfl; rfl); (refine Pev.call (v := .int .i64 (chk l ll)) rfl (by (repeat (first | exact Args.nil | (apply Args.cons rfl; ((first | exact fun _ => rfl | exact fun h => h | (intro h; simp_all; done))))))) (fun _ w3 hw3 => (Err_calls q q' cap cap' l ll w3 hlen hcap (h.keep (hsz w3 hw3).1 (hsz w3 hw3).2) hlen' (h'.keep (hsz w3 hw3).1 (hsz w3 hw3).2)).mono (fun e w4 h => ⟨by rw [chk_err]; exact h.1, hw3.ext h.2⟩))))
  apply oas; rfl; rfl
  apply OL.nil
  with_reducible apply At.next
  apply W.seq
  apply W.seq
  apply W.reg
  apply omv; rfl; rfl
  apply obn; rfl; rfl; rfl; apply Bin.neq
  apply OL.nil
  with_reducible apply At.next
  refine W.cond rfl (fun hb => ?_) (fun hb => ?_)
  · have h0 : chk l ll ≠ 0 := by simpa using hb
    unfold AftV at hv
    rw [if_pos h0] at hv
    obtain ⟨rfl, rfl⟩ := hv
    apply W.seq
    apply W.reg
    apply omv; rfl; rfl
    apply omv; rfl; rfl
    apply obn; rfl; rfl; rfl; apply Bin.eql
    apply omv; rfl; rfl
    apply OL.op; exact Guard.yes rfl rfl; rfl; rfl; apply Pev.move; rfl; exact yes
    apply OL.op; exact Guard.yes rfl rfl; rfl; rfl; apply Pev.len_slice; rfl; exact fun h => h; rfl
    apply OL.op; exact Guard.yes rfl rfl; rfl; rfl; apply Pev.bin; rfl; exact fun h => h; rfl; exact yes; intro hcond; apply Bin.eql
    apply OL.op; exact Guard.none; rfl; rfl; apply Pev.pick_and; rfl; exact yes; rfl; exact fun h => h
    apply oas; rfl; rfl
    apply OL.nil
    with_reducible apply At.next
    apply W.ret
    with_reducible apply At.then_ret
    ((with_reducible apply At.fin1); rfl; rfl; intro w' hw')
    exact ⟨by simp, by (exact hw'.toExt (by (repeat (first | exact List.Mem.head _ | apply List.Mem.tail))) (fun k hk => by (focus ((try simp only [add_block]); (repeat (first | exact NotOwned.nil | exact hno _ (by omega) | refine NotOwned.nothing ?_ | refine NotOwned.nds (hlow _ (by omega)) ?_ | refine NotOwned.mapS (by omega) ?_ | apply NotOwned.bif | refine NotOwned.blk (by omega) ?_ | refine NotOwned.row (by omega) ?_ | refine NotOwned.grid (by assumption) (by omega) ?_)); done))))⟩
  have h0 : chk l ll = 0 := by simpa using hb
  obtain ⟨hl16, hll⟩ := chk_len h0
  unfold AftV at hv
  rw [if_neg (by simpa using h0)] at hv
  apply W.skip
  with_reducible apply At.next
  apply W.seq
  apply W.seq
  apply W.reg
  apply omv; rfl; rfl
  apply OL.op; exact Guard.none; rfl; rfl; apply Pev.len_slice; rfl; exact yes; rfl
  apply omv; rfl; rfl
  apply OL.nil
  with_reducible apply At.next
  apply W.block
  refine W.loop (G := Nat) (fun j => j ≤ ch.length ∧ ∀ s ∈ ch.take j, hasB l s = true) (fun j => ch.length - j)
    (fun j => [(0, true, .slice q l.length cap), (1, true, .slice q' ll.length cap'), (2, true, .slice qc ch.length capc), (9, true, .slice qy ys.length cy), (10, true, .int .i64 er), (54, true, .slice qc ch.length capc), (55, true, .int .i64 (ch.length : Int)), (56, true, .int .i64 (j : Int))])
    (fun j => Cls [] [w, w2]) 0 ⟨by omega, by simp⟩ (by (repeat (first | exact Sub.nil | apply Sub.cons rfl | (refine Sub.cons_eq rfl (congrArg (Value.int .i64) (by first | omega | (simp only; omega))) ?_)))) (fun w' hw' => hw') ?_
  rintro j ⟨hj, hall⟩
  apply W.seq
  apply W.reg
  apply obn; rfl; rfl; rfl; apply Bin.lss
  apply OL.nil
  with_reducible apply At.next
  apply W.seq
  (refine W.cond rfl (fun hlt => ?_) (fun hlt => ?_)) <;> (try (simp only [Bool.and_eq_true, Bool.or_eq_true, Bool.not_eq_true', Bool.and_eq_false_iff, Bool.or_eq_false_iff, Bool.not_eq_false', decide_eq_true_eq, decide_eq_false_iff_not, Int.not_lt, Int.not_le] at hlt)) <;> (try (exfalso; first | omega | exact hlt trivial | contradiction))
  · have hjl : j < ch.length := by omega
    obtain ⟨a, s, rfl, hab, hs, hcell⟩ := hc.str hjl
    apply W.skip
    with_reducible apply At.next
    apply W.seq
    apply W.block
    apply W.seq
    apply W.reg
    apply OL.op; exact Guard.none; rfl; rfl; apply Pev.idx; rfl; exact yes; rfl; exact yes; rfl; rfl; intro hcond; omega
    apply OL.op; exact Guard.none; rfl; rfl; apply Pev.load_kept; rfl; exact yes; exact .head _; rfl; intro hcond; assumption; intro hcond; (rw [add_block]; assumption); intro hcond; exact NotOwned.nil
    apply oas; rfl; rfl
    apply OL.nil
    with_reducible apply At.next
    apply W.seq
    apply W.reg
    apply omv; rfl; rfl
    apply omv; rfl; rfl
    (((first | (with_reducible apply OL.op) | (with_reducible apply QL.op)); ((first | exact Guard.none | exact Guard.yes rfl rfl | exact Guard.no rfl rfl | exact Guard.cyes rfl rfl | exact Guard.cno rfl rfl)); rfl; rfl); (exact Pev.call rfl (by (repeat (first | exact Args.nil | (apply Args.cons rfl; ((first | exact fun _ => rfl | exact fun h => h | (intro h; simp_all; done))))))) (fun _ w3 hw3 => (Contains_calls q cap l s w3 hlen (h.keep (hsz w3 hw3).1 (hsz w3 hw3).2)).mono (fun e w4 h => ⟨h.1, hw3.ext h.2⟩))))
    apply OL.op; exact Guard.none; rfl; rfl; apply Pev.not; rfl; exact yes
    apply OL.nil
    with_reducible apply At.next
    refine W.cond rfl (fun hb2 => ?_) (fun hb2 => ?_)
    · rw [if_pos (take_any hs hb2)] at hv
      obtain ⟨rfl, rfl⟩ := hv
      apply W.seq
      apply W.reg
      apply omv; rfl; rfl
      apply obn; rfl; rfl; rfl; apply Bin.eql
      apply omv; rfl; rfl
      apply OL.op; exact Guard.yes rfl rfl; rfl; rfl; apply Pev.move; rfl; exact yes
      apply OL.op; exact Guard.yes rfl rfl; rfl; rfl; apply Pev.len_slice; rfl; exact yes; rfl
      apply OL.op; exact Guard.yes rfl rfl; rfl; rfl; apply Pev.bin; rfl; exact yes; rfl; exact yes; intro hcond; apply Bin.eql
      apply OL.op; exact Guard.none; rfl; rfl; apply Pev.pick_and; rfl; exact yes; rfl; exact yes
      apply oas; rfl; rfl
      apply OL.nil
      with_reducible apply At.next
      apply W.ret
      with_reducible apply At.in_ret
      with_reducible apply At.then_ret
      with_reducible apply At.then_ret
      with_reducible apply At.in_ret
      with_reducible apply At.then_ret
      ((with_reducible apply At.fin1); rfl; rfl; intro w' hw')
      exact ⟨by simp, by (exact hw'.toExt (by (repeat (first | exact List.Mem.head _ | apply List.Mem.tail))) (fun k hk => by (focus ((try simp only [add_block]); (repeat (first | exact NotOwned.nil | exact hno _ (by omega) | refine NotOwned.nothing ?_ | refine NotOwned.nds (hlow _ (by omega)) ?_ | refine NotOwned.mapS (by omega) ?_ | apply NotOwned.bif | refine NotOwned.blk (by omega) ?_ | refine NotOwned.row (by omega) ?_ | refine NotOwned.grid (by assumption) (by omega) ?_)); done))))⟩
    · apply W.skip
      with_reducible apply At.in_normal
      with_reducible apply At.next
      apply W.reg
      apply obn; rfl; rfl; rfl; apply Bin.add_in; omega
      apply omv; rfl; rfl
      apply OL.nil
      refine At.again (j + 1) ⟨by omega, fun u hu => ?_⟩ (by omega) (by (repeat (first | exact Sub.nil | apply Sub.cons rfl | (refine Sub.cons_eq rfl (congrArg (Value.int .i64) (by first | omega | (simp only; omega))) ?_)))) (fun w' hw' => hw')
      rw [List.take_add_one, hs] at hu
      rcases List.mem_append.1 hu with hu | hu
      · exact hall u hu
      · simp at hu
        rw [hu]
        simpa using hb2
  have hje : j = ch.length := by omega
  subst hje
  rw [List.take_length] at hall
  have hany : ch.any (fun s => !hasB l s) = false := by
    rw [List.any_eq_false]
    intro s hs
    rw [hall s hs]; simp
  rw [hany, if_neg (by simp)] at hv
  obtain ⟨rfl, xs, hX, hd, hys⟩ := hv
  apply W.exit
  with_reducible apply At.then_exit
  with_reducible apply At.then_exit
  with_reducible apply At.in_exit
  with_reducible apply At.next
  apply W.seq
  apply W.reg
  apply omv; rfl; rfl
  apply omv; rfl; rfl
  refine OL.callE (α := (List (List Bool) × Option Addr) × World) (fun x => .slice x.1.2 l.length l.length)
    (fun x => (GoodM l ll x.1.1 ∧ ∀ i j, i < l.length → j < l.length → (mget x.1.1 i j = true ↔ Path l ll i j)) ∧ SqAt x.2 x.2.heap.size x.1.2 x.1.1 ∧ SlAt x.2 x.2.heap.size qy (strs ys) ∧ Ext w x.2) (fun x => Cls [] [w, x.2]) rfl rfl (by (repeat (first | exact Args.nil | (apply Args.cons rfl; ((first | exact fun _ => rfl | exact fun h => h | (intro h; simp_all; done))))))) (fun w3 hw3 => ?_) ?_
  · refine (Reaches2_calls q q' cap cap' l ll w3 hl16 hll hcap (h.keep (hsz w3 hw3).1 (hsz w3 hw3).2) (h'.keep (hsz w3 hw3).1 (hsz w3 hw3).2)).mono (fun e w4 ⟨M, a, he, hM, hs, hx⟩ => ?_)
    exact ⟨((M, a), w4), he, ⟨hM, hs, hs2.ext ((hw3.toExt (s := w2) (by (repeat (first | exact List.Mem.head _ | apply List.Mem.tail))) (fun k hk => by (focus ((try simp only [add_block]); (repeat (first | exact NotOwned.nil | exact hno _ (by omega) | refine NotOwned.nothing ?_ | refine NotOwned.nds (hlow _ (by omega)) ?_ | refine NotOwned.mapS (by omega) ?_ | apply NotOwned.bif | refine NotOwned.blk (by omega) ?_ | refine NotOwned.row (by omega) ?_ | refine NotOwned.grid (by assumption) (by omega) ?_)); done)))).trans hx) (Nat.le_refl _), (hw3.toExt (s := w) (by (repeat (first | exact List.Mem.head _ | apply List.Mem.tail))) (fun k hk => by (focus ((try simp only [add_block]); (repeat (first | exact NotOwned.nil | exact hno _ (by omega) | refine NotOwned.nothing ?_ | refine NotOwned.nds (hlow _ (by omega)) ?_ | refine NotOwned.mapS (by omega) ?_ | apply NotOwned.bif | refine NotOwned.blk (by omega) ?_ | refine NotOwned.row (by omega) ?_ | refine NotOwned.grid (by assumption) (by omega) ?_)); done)))).trans hx⟩, (((hw3.ext hx).forget (S' := [w]) (by simp)).note).forget (by simp)⟩
  clear hs2 hx2 hws hsz
  rintro ⟨⟨M, qm⟩, w3⟩ ⟨⟨hM, hMp⟩, hsq, hs3, hx3⟩
  simp only at hM hMp hsq hs3 hx3 ⊢
  have hws := hx3.size
  apply oas; rfl; rfl
  apply OL.nil
  with_reducible apply At.next
  apply W.seq
  apply W.reg
  apply oas; rfl; rfl
  apply OL.nil
  with_reducible apply At.next
  apply W.seq
  apply W.seq
  apply W.reg
  apply omv; rfl; rfl
  apply OL.op; exact Guard.none; rfl; rfl; apply Pev.len_slice; rfl; exact yes; rfl
  apply omv; rfl; rfl
  apply OL.nil
  with_reducible apply At.next
  apply W.block
  refine W.loop (G := Nat × GA) (fun g => g.1 ≤ l.length ∧ g.2.xs = outR l M ch g.1) (fun g => l.length - g.1)
    (fun g => [(0, true, .slice q l.length cap), (2, true, .slice qc ch.length capc), (9, true, .slice qy ys.length cy), (10, true, .int .i64 0), (14, true, .slice qm l.length l.length), (15, true, .slice g.2.q g.2.xs.length g.2.cap), (75, true, .slice q l.length cap), (76, true, .int .i64 (l.length : Int)), (77, true, .int .i64 (g.1 : Int))])
    (fun g => Cls [row w3.heap.size g.2.O g.2.q g.2.xs.length g.2.cap 9 1 (strs g.2.xs)] [w, w3]) (0, ⟨[], fun _ => False, none, 0⟩) ⟨by simp, by simp [outR]⟩ (by (repeat (first | exact Sub.nil | apply Sub.cons rfl | (refine Sub.cons_eq rfl (congrArg (Value.int .i64) (by first | omega | (simp only; omega))) ?_)))) (fun w' hw' => hw'.row_nil _ _ _) ?_
  rintro ⟨i, ⟨os, O, qo, co⟩⟩ ⟨hi, hos⟩
  simp only at hi hos ⊢
  apply W.seq
  apply W.reg
  apply obn; rfl; rfl; rfl; apply Bin.lss
  apply OL.nil
  with_reducible apply At.next
  apply W.seq
  (refine W.cond rfl (fun hlti => ?_) (fun hlti => ?_)) <;> (try (simp only [Bool.and_eq_true, Bool.or_eq_true, Bool.not_eq_true', Bool.and_eq_false_iff, Bool.or_eq_false_iff, Bool.not_eq_false', decide_eq_true_eq, decide_eq_false_iff_not, Int.not_lt, Int.not_le] at hlti)) <;> (try (exfalso; first | omega | exact hlti trivial | contradiction))
  · have hil : i < l.length := by omega
    obtain ⟨a, u, rfl, hab, hu, hcell⟩ := h.str hil
    have hnm : nm l i = u := getD_of hu
    apply W.skip
    with_reducible apply At.next
    apply W.seq
    apply W.block
    apply W.seq
    apply W.reg
    apply omv; rfl; rfl
    apply OL.op; exact Guard.none; rfl; rfl; apply Pev.idx; rfl; exact yes; rfl; exact yes; rfl; rfl; intro hcond; omega
    apply OL.op; exact Guard.none; rfl; rfl; apply Pev.load_kept; rfl; exact yes; exact .head _; rfl; intro hcond; assumption; intro hcond; (rw [add_block]; assumption); intro hcond; simp only [add_block]; refine NotOwned.row (by omega) ?_; exact NotOwned.nil
    apply oas; rfl; rfl
    apply oas; rfl; rfl
    apply OL.nil
    with_reducible apply At.next
    apply W.seq
    apply W.reg
    apply omv; rfl; rfl
    apply omv; rfl; rfl
    have hcw : ∀ w4, Cls [row w3.heap.size O qo os.length co 9 1 (strs os)] [w, w3] w4 → SlAt w4 w4.heap.size qc (strs ch) := fun w4 hw4 => hc.keep (hw4.below (s := w) (by (repeat (first | exact List.Mem.head _ | apply List.Mem.tail))) (Nat.le_refl _) (fun k hk => by (focus ((try simp only [add_block]); (repeat (first | exact NotOwned.nil | exact hno _ (by omega) | refine NotOwned.nothing ?_ | refine NotOwned.nds (hlow _ (by omega)) ?_ | refine NotOwned.mapS (by omega) ?_ | apply NotOwned.bif | refine NotOwned.blk (by omega) ?_ | refine NotOwned.row (by omega) ?_ | refine NotOwned.grid (by assumption) (by omega) ?_)); done)))) (hw4.kp w (by (repeat (first | exact List.Mem.head _ | apply List.Mem.tail)))).size
    (((first | (with_reducible apply OL.op) | (with_reducible apply QL.op)); ((first | exact Guard.none | exact Guard.yes rfl rfl | exact Guard.no rfl rfl | exact Guard.cyes rfl rfl | exact Guard.cno rfl rfl)); rfl; rfl); (exact Pev.call rfl (by (repeat (first | exact Args.nil | (apply Args.cons rfl; ((first | exact fun _ => rfl | exact fun h => h | (intro h; simp_all; done))))))) (fun _ w4 hw4 => (Contains_calls qc capc ch u w4 (by omega) (hcw w4 hw4)).mono (fun e w5 h => ⟨h.1, hw4.ext h.2⟩))))
    apply oas; rfl; rfl
    apply OL.nil
    with_reducible apply At.next
    apply W.seq
    apply W.seq
    apply W.reg
    apply omv; rfl; rfl
    apply OL.op; exact Guard.none; rfl; rfl; apply Pev.len_slice; rfl; exact yes; rfl
    apply omv; rfl; rfl
    apply OL.nil
    with_reducible apply At.next
    apply W.block
    refine W.loop (G := Nat) (fun k => k ≤ l.length) (fun k => l.length - k)
      (fun k => [(0, true, .slice (some a) l.length cap), (2, true, .slice qc ch.length capc), (9, true, .slice qy ys.length cy), (10, true, .int .i64 0), (14, true, .slice qm l.length l.length), (15, true, .slice qo os.length co), (16, true, .int .i64 (i : Int)), (17, true, .string u), (18, true, .bool (isR l M ch i k)), (75, true, .slice (some a) l.length cap), (76, true, .int .i64 (l.length : Int)), (77, true, .int .i64 (i : Int)), (86, true, .int .i64 (l.length : Int)), (87, true, .int .i64 (k : Int))])
      (fun k => Cls [row w3.heap.size O qo os.length co 9 1 (strs os)] [w, w3]) 0 (by omega) (by rw [isR_zero, hnm]; (repeat (first | exact Sub.nil | apply Sub.cons rfl | (refine Sub.cons_eq rfl (congrArg (Value.int .i64) (by first | omega | (simp only; omega))) ?_)))) (fun w' hw' => hw') ?_
    intro k hk
    apply W.seq
    apply W.reg
    apply obn; rfl; rfl; rfl; apply Bin.lss
    apply OL.nil
    with_reducible apply At.next
    apply W.seq
    (refine W.cond rfl (fun hltk => ?_) (fun hltk => ?_)) <;> (try (simp only [Bool.and_eq_true, Bool.or_eq_true, Bool.not_eq_true', Bool.and_eq_false_iff, Bool.or_eq_false_iff, Bool.not_eq_false', decide_eq_true_eq, decide_eq_false_iff_not, Int.not_lt, Int.not_le] at hltk)) <;> (try (exfalso; first | omega | exact hltk trivial | contradiction))
    · have hkl : k < l.length := by omega
      obtain ⟨a', u2, ea, hab2, hu2, hcell2⟩ := h.str hkl
      cases ea
      have hnm2 : nm l k = u2 := getD_of hu2
      obtain ⟨am, am2, rfl, habm, hcm, habm2, hcm2⟩ := sq_row hsq hM.len hM.row hil hkl
      have hst := isR_succ l M ch i k
      rw [hnm2] at hst
      generalize isR l M ch i k = bb at hst ⊢
      generalize mget M i k = mm at hst hcm2 ⊢
      apply W.skip
      with_reducible apply At.next
      apply W.seq
      apply W.block
      apply W.seq
      apply W.reg
      apply omv; rfl; rfl
      apply oas; rfl; rfl
      apply OL.nil
      with_reducible apply At.next
      apply W.reg
      apply omv; rfl; rfl
      apply omv; rfl; rfl
      apply OL.op; exact Guard.no rfl rfl; rfl; rfl; apply Pev.move; rfl; exact yes
      apply OL.op; exact Guard.no rfl rfl; rfl; rfl; apply Pev.move; rfl; exact yes
      apply OL.op; exact Guard.no rfl rfl; rfl; rfl; apply Pev.idx; rfl; exact fun h => h; rfl; exact fun h => h; rfl; rfl; intro hcond; omega
      apply OL.op; exact Guard.no rfl rfl; rfl; rfl; apply Pev.load_kept; rfl; exact fun h => h; exact .tail _ (.head _); rfl; intro hcond; assumption; intro hcond; (rw [add_block]; assumption); intro hcond; simp only [add_block]; refine NotOwned.row (by omega) ?_; exact NotOwned.nil
      apply OL.op; exact Guard.no rfl rfl; rfl; rfl; apply Pev.move; rfl; exact yes
      apply OL.op; exact Guard.no rfl rfl; rfl; rfl; apply Pev.idx; rfl; exact fun h => h; rfl; exact fun h => h; rfl; rfl; intro hcond; omega
      apply OL.op; exact Guard.no rfl rfl; rfl; rfl; apply Pev.load_kept; rfl; exact fun h => h; exact .tail _ (.head _); rfl; intro hcond; assumption; intro hcond; (rw [add_block]; assumption); intro hcond; simp only [add_block]; refine NotOwned.row (by omega) ?_; exact NotOwned.nil
      apply OL.op; exact Guard.no rfl rfl; rfl; rfl; apply Pev.move; rfl; exact fun h => h
      apply OL.op; exact Guard.cyes rfl rfl; rfl; rfl; apply Pev.move; rfl; exact yes
      apply OL.op; exact Guard.cyes rfl rfl; rfl; rfl; apply Pev.move; rfl; exact yes
      apply OL.op; exact Guard.cyes rfl rfl; rfl; rfl; apply Pev.move; rfl; exact yes
      apply OL.op; exact Guard.cyes rfl rfl; rfl; rfl; apply Pev.idx; rfl; exact fun h => h; rfl; exact fun h => h; rfl; rfl; intro hcond; omega
      apply OL.op; exact Guard.cyes rfl rfl; rfl; rfl; apply Pev.load_kept; rfl; exact fun h => h; exact .head _; rfl; intro hcond; assumption; intro hcond; (rw [add_block]; assumption); intro hcond; simp only [add_block]; refine NotOwned.row (by omega) ?_; exact NotOwned.nil
      (((first | (with_reducible apply OL.op) | (with_reducible apply QL.op)); ((first | exact Guard.none | exact Guard.yes rfl rfl | exact Guard.no rfl rfl | exact Guard.cyes rfl rfl | exact Guard.cno rfl rfl)); rfl; rfl); (exact Pev.call rfl (by (repeat (first | exact Args.nil | (apply Args.cons rfl; ((first | exact fun _ => rfl | exact fun h => h | (intro h; simp_all; done))))))) (fun _ w4 hw4 => (Contains_calls qc capc ch u2 w4 (by omega) (hcw w4 hw4)).mono (fun e w5 h => ⟨h.1, hw4.ext h.2⟩))))
      apply OL.op; exact Guard.no rfl rfl; rfl; rfl; apply Pev.pick_and; rfl; exact fun h => h; rfl; exact fun h => h
      apply OL.op; exact Guard.none; rfl; rfl; apply Pev.pick_or; rfl; exact yes; rfl; exact fun h => h
      apply oas; rfl; rfl
      apply OL.nil
      with_reducible apply At.in_normal
      with_reducible apply At.next
      apply W.reg
      apply obn; rfl; rfl; rfl; apply Bin.add_in; omega
      apply omv; rfl; rfl
      apply OL.nil
      exact At.again (k + 1) (by omega) (by omega) (by rw [hst]; (repeat (first | exact Sub.nil | apply Sub.cons rfl | (refine Sub.cons_eq rfl (congrArg (Value.int .i64) (by first | omega | (simp only; omega))) ?_)))) (fun w' hw' => hw')
    · obtain rfl : k = l.length := by omega
      have hst := outR_succ l M ch i
      rw [hnm] at hst
      apply W.exit
      with_reducible apply At.then_exit
      with_reducible apply At.then_exit
      with_reducible apply At.in_exit
      with_reducible apply At.next
      apply W.seq
      apply W.reg
      apply omv; rfl; rfl
      apply OL.nil
      with_reducible apply At.next
      refine W.cond rfl (fun hb2 => ?_) (fun hb2 => ?_)
      · rw [hb2, if_pos rfl, ← hos] at hst
        have hsl : os.length ≤ l.length := by
          rw [hos]; unfold outR
          rw [List.length_map]
          exact Nat.le_trans (List.length_filter_le _ _) (by rw [List.length_range]; omega)
        have hst2 : strs (outR l M ch (i + 1)) = strs os ++ [.string u] := by rw [hst]; simp [strs]
        have hl1 : (outR l M ch (i + 1)).length = os.length + 1 := by rw [hst]; simp
        have hbs : ∃ s ∈ [w, w3], w3.heap.size ≤ s.heap.size := ⟨w3, by simp, Nat.le_refl _⟩
        apply W.reg
        apply omv; rfl; rfl
        apply omv; rfl; rfl
        apply OL.buildSlice; rfl; rfl; rfl; apply Elems.cons rfl; exact CellsL.one rfl; rfl; apply Elems.nil; apply App.cons; apply App.nil; rfl; rfl; (intro bk hbk; simp only [AllLe, and_true] at hbk)
        apply OL.append; rfl; rfl; rfl; rfl; apply Hole.s; apply Hole.z; exact .head _; apply Take.succ; apply Take.zero; rfl; rfl; assumption; omega; intro O1 g1 cap1
        apply oas; rfl; rfl
        apply OL.nil
        with_reducible apply At.in_normal
        with_reducible apply At.next
        apply W.reg
        apply obn; rfl; rfl; rfl; apply Bin.add_in; omega
        apply omv; rfl; rfl
        apply OL.nil
        refine At.again (i + 1, ⟨outR l M ch (i + 1), O1, some ⟨g1, 0, none⟩, cap1⟩) ⟨by simp only; omega, rfl⟩ (by simp only; omega) (by simp only [hl1]; (repeat (first | exact Sub.nil | apply Sub.cons rfl | (refine Sub.cons_eq rfl (congrArg (Value.int .i64) (by first | omega | (simp only; omega))) ?_)))) (fun w' hw' => ?_)
        simp only [hst2, hl1]
        exact hw'.thin (by (repeat (first | exact Thin.nil | exact Thin.same | apply Thin.keep | (refine Thin.blk (by assumption) ?_) | (refine Thin.blk (by simp only [AllLe, and_true]; omega) ?_))))
      · rw [hb2, if_neg (by simp), List.append_nil, ← hos] at hst
        apply W.skip
        with_reducible apply At.in_normal
        with_reducible apply At.next
        apply W.reg
        apply obn; rfl; rfl; rfl; apply Bin.add_in; omega
        apply omv; rfl; rfl
        apply OL.nil
        exact At.again (i + 1, ⟨os, O, qo, co⟩) ⟨by simp only; omega, hst.symm⟩ (by simp only; omega) (by (repeat (first | exact Sub.nil | apply Sub.cons rfl | (refine Sub.cons_eq rfl (congrArg (Value.int .i64) (by first | omega | (simp only; omega))) ?_)))) (fun w' hw' => hw')
  · have hie : i = l.length := by omega
    subst hie
    have hsl : os.length ≤ l.length := by
      rw [hos]; unfold outR
      rw [List.length_map]
      exact Nat.le_trans (List.length_filter_le _ _) (by rw [List.length_range]; exact Nat.le_refl _)
    have hye : ys = srtS os := by rw [hys, hos]; exact aft_eq (out_mem h0 hX hd hMp) (outR_nodup h0 M ch)
    have hsl2 := srtS_len os
    apply W.exit
    with_reducible apply At.then_exit
    with_reducible apply At.then_exit
    with_reducible apply At.in_exit
    with_reducible apply At.next
    apply W.seq
    apply W.reg
    apply omv; rfl; rfl
    refine OL.callE (α := Unit) (fun _ => .tuple #[]) (fun _ => True) (fun _ => Cls [row w3.heap.size O qo os.length co 9 1 (strs (srtS os))] [w, w3]) rfl rfl (by (repeat (first | exact Args.nil | (apply Args.cons rfl; ((first | exact fun _ => rfl | exact fun h => h | (intro h; simp_all; done))))))) (fun w4 hw4 => (Sort_calls .z hw4 (by omega)).mono fun e w5 h => ⟨(), h.1, trivial, h.2⟩) ?_
    rintro _ _
    apply OL.nil
    with_reducible apply At.next
    apply W.seq
    apply W.reg
    apply omv; rfl; rfl
    apply obn; rfl; rfl; rfl; apply Bin.eql
    apply omv; rfl; rfl
    apply OL.op; exact Guard.yes rfl rfl; rfl; rfl; apply Pev.move; rfl; exact yes
    apply OL.op; exact Guard.yes rfl rfl; rfl; rfl; apply Pev.move; rfl; exact yes
    (((first | (with_reducible apply OL.op) | (with_reducible apply QL.op)); ((first | exact Guard.none | exact Guard.yes rfl rfl | exact Guard.no rfl rfl | exact Guard.cyes rfl rfl | exact Guard.cno rfl rfl)); rfl; rfl); (refine Pev.call (v := .bool (decide (ys = srtS os))) rfl (by (repeat (first | exact Args.nil | (apply Args.cons rfl; ((first | exact fun _ => rfl | exact fun h => h | (intro h; simp_all; done))))))) (fun _ w4 hw4 => ?_)))
    · have hq := SlAt.of_row (hw4.item (.head _))
      have hc4 := SEqual_calls qy qo cy co ys (srtS os) w4 (by rw [hye, hsl2]; omega) (by omega) (hs3.keep (hw4.below (s := w3) (B := w3.heap.size) (by (repeat (first | exact List.Mem.head _ | apply List.Mem.tail))) (Nat.le_refl _) (fun k hk => by (focus ((try simp only [add_block]); (repeat (first | exact NotOwned.nil | exact hno _ (by omega) | refine NotOwned.nothing ?_ | refine NotOwned.nds (hlow _ (by omega)) ?_ | refine NotOwned.mapS (by omega) ?_ | apply NotOwned.bif | refine NotOwned.blk (by omega) ?_ | refine NotOwned.row (by omega) ?_ | refine NotOwned.grid (by assumption) (by omega) ?_)); done)))) (hw4.kp w3 (by (repeat (first | exact List.Mem.head _ | apply List.Mem.tail)))).size) hq
      rw [hsl2] at hc4
      exact hc4.mono (fun e w5 h => ⟨h.1, hw4.ext h.2⟩)
    apply OL.op; exact Guard.none; rfl; rfl; apply Pev.pick_and; rfl; exact yes; rfl; exact yes
    apply oas; rfl; rfl
    apply OL.nil
    with_reducible apply At.next
    apply W.ret
    ((with_reducible apply At.fin1); rfl; rfl; intro w' hw')
    exact ⟨by simp [hye], by (exact hw'.toExt (by (repeat (first | exact List.Mem.head _ | apply List.Mem.tail))) (fun k hk => by (focus ((try simp only [add_block]); (repeat (first | exact NotOwned.nil | exact hno _ (by omega) | refine NotOwned.nothing ?_ | refine NotOwned.nds (hlow _ (by omega)) ?_ | refine NotOwned.mapS (by omega) ?_ | apply NotOwned.bif | refine NotOwned.blk (by omega) ?_ | refine NotOwned.row (by omega) ?_ | refine NotOwned.grid (by assumption) (by omega) ?_)); done))))⟩
end Go.Proofs.Ytgllgllbgojhfaa.mo
