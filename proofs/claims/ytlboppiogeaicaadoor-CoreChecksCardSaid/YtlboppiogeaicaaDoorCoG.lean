/- Trees of core expressions in memory; slices.Clone at []int. Conditions: none. -/
import Derived.Test.YtlboppiogeaicaaDoorCoF
namespace Go.Eng
open Go.RowKit
set_option linter.unusedVariables false
set_option linter.unusedSimpArgs false
section
variable {n : Nat} {l : Env} {C : World → Prop} {Q : Exit → Act → World → Prop}
theorem At.againE {G : Type} {Φ : G → Prop} {μ : G → Nat} {lg : G → Env} {Cg : G → World → Prop} {g : G} (h : ∀ w, C w → ∃ g', Φ g' ∧ μ g' < μ g ∧ Sub l (lg g') ∧ Cg g' w) : At n (Exit.then (Again n Φ μ lg Cg g) Q) .normal l C :=
  ⟨fun a w s c => by
    obtain ⟨g', h1, h2, h3, h4⟩ := h w c
    exact ⟨g', h1, h2, s.sub h3, h4⟩⟩
end
theorem Cls.mv {A I H : List Item} {S : List World} {w : World} (h : Cls (A ++ (I ++ H)) S w) : Cls (I ++ (A ++ H)) S w := h.perm (by
  rw [← List.append_assoc, ← List.append_assoc]
  exact List.Perm.append_right H List.perm_append_comm)
theorem row_at {w : World} {B m cap sz : Nat} {O : Nat → Prop} {q : Option Addr} {e : TypeId} {xs : List Value} (h1 : (row B O q m cap e sz xs).holds w) (hl : 0 < xs.length) : ∃ a, q = some a ∧ (B ≤ a.block ∧ O a.block) ∧ CellsAt w a xs := by
  obtain ⟨a, h3, _, h5⟩ := SlAt.of_row h1 hl
  refine ⟨a, h3, ⟨?_, h1.1 a h3⟩, h5⟩
  rcases h1.2.2 with ⟨h7, _⟩ | ⟨g, cap', cur, h7, hb, _⟩
  · simp only [Value.slice.injEq] at h7
    rw [h7.1] at h3; cases h3
  · simp only [Value.slice.injEq] at h7
    rw [h7.1] at h3
    obtain rfl := Option.some.inj h3
    exact hb
/-- two piles are one -/
theorem Cls.pile_merge {H : List Item} {S : List World} {w : World} {B : Nat} {O O' : Nat → Prop} {L L' : List Sl} (h : Cls (pile B O L :: pile B O' L' :: H) S w) : Cls (pile B (fun k => O k ∨ O' k) (L' ++ L) :: H) S w := by
  have hr := h.item (i := pile B O L) (by simp)
  have hp := h.item (i := pile B O' L') (by simp)
  have hd := h.dj
  rw [List.pairwise_cons, List.pairwise_cons] at hd
  obtain ⟨hr1, hp1, hH⟩ := hd
  refine ⟨fun i hi => ?_, fun i hi => ?_, ?_, fun s hs => (h.kp s hs).mono fun k _ ⟨i, hi, hk⟩ => ?_⟩
  · rcases List.mem_cons.1 hi with rfl | hi
    · intro s hs hl
      rcases List.mem_append.1 hs with hs | hs
      · obtain ⟨a, h1, h2, h3⟩ := hp s hs hl
        exact ⟨a, h1, ⟨h2.1, .inr h2.2⟩, h3⟩
      · obtain ⟨a, h1, h2, h3⟩ := hr s hs hl
        exact ⟨a, h1, ⟨h2.1, .inl h2.2⟩, h3⟩
    · exact h.holds i (by simp [hi])
  · rcases List.mem_cons.1 hi with rfl | hi
    · rintro k ⟨h1, h2 | h2⟩
      · exact h.lt (pile B O L) (by simp) k ⟨h1, h2⟩
      · exact h.lt (pile B O' L') (by simp) k ⟨h1, h2⟩
    · exact h.lt i (by simp [hi])
  · refine List.pairwise_cons.2 ⟨fun j hj k hk hj2 => ?_, hH⟩
    obtain ⟨h1, h2 | h2⟩ := hk
    · exact hr1 j (by simp [hj]) k ⟨h1, h2⟩ hj2
    · exact hp1 j hj k ⟨h1, h2⟩ hj2
  · rcases List.mem_cons.1 hi with rfl | hi
    · exact ⟨_, .head _, hk.1, .inl hk.2⟩
    · rcases List.mem_cons.1 hi with rfl | hi
      · exact ⟨_, .head _, hk.1, .inr hk.2⟩
      · exact ⟨i, by simp [hi], hk⟩
/-- an array of memory that is new is a pile -/
theorem Cls.pile_new {H : List Item} {S : List World} {w w' : World} {B : Nat} {q : Option Addr} {cap : Nat} {xs : List Value} (h : Cls H S w) (hB : B ≤ w.heap.size) (he : Ext w w') (hx : 0 < xs.length → ∃ a, q = some a ∧ (w.heap.size ≤ a.block ∧ a.block < w'.heap.size) ∧ CellsAt w' a xs) :
    Cls (pile B (fun k => w.heap.size ≤ k ∧ k < w'.heap.size) [⟨q, cap, xs⟩] :: H) S w' :=
  h.add he _ (fun s hs hl => by
    obtain rfl := List.mem_singleton.1 hs
    obtain ⟨a, h1, h2, h3⟩ := hx hl
    exact ⟨a, h1, ⟨Nat.le_trans hB h2.1, h2⟩, h3⟩) (fun k hk => hk.2)
end Go.Eng
namespace Go.Co
open Go.Eng Go.RowKit
set_option linter.unusedVariables false
set_option linter.unusedSimpArgs false
mutual
def TrO (w : World) (O : Nat → Prop) : Tr → Nat → Prop
  | .mk op n binds kids alts, b => ∃ y : ExY, NodeO w O b op n binds kids.length alts y ∧ kids.length ≤ 4096 ∧ (0 < kids.length → ∃ a, y.k.1 = some a ∧ O a.block ∧ TrsO w O kids a)
def TrsO (w : World) (O : Nat → Prop) : List Tr → Addr → Prop
  | [], _ => True
  | t :: r, a => (∃ b, w.cell? a = some (.pointer (some ⟨b, 0, none⟩)) ∧ TrO w O t b) ∧ TrsO w O r (a.add 1)
end
mutual
theorem TrO.stab {w w' : World} {O : Nat → Prop} (hk : ∀ k, O k → w'.heap[k]? = w.heap[k]?) : ∀ {t : Tr} {b : Nat}, TrO w O t b → TrO w' O t b
  | .mk op n binds kids alts, b, h => by
    simp only [TrO] at h ⊢
    obtain ⟨y, h1, h2, h3⟩ := h
    refine ⟨y, h1.stab hk, h2, fun hl => ?_⟩
    obtain ⟨a, ha, hb, hall⟩ := h3 hl
    exact ⟨a, ha, hb, TrsO.stab hk hb hall⟩
theorem TrsO.stab {w w' : World} {O : Nat → Prop} (hk : ∀ k, O k → w'.heap[k]? = w.heap[k]?) : ∀ {ts : List Tr} {a : Addr}, O a.block → TrsO w O ts a → TrsO w' O ts a
  | [], _, _, _ => by simp only [TrsO]
  | t :: r, a, hb, h => by
    simp only [TrsO] at h ⊢
    obtain ⟨⟨b, h1, h2⟩, h3⟩ := h
    exact ⟨⟨b, by rw [cell_heap (hk _ hb)]; exact h1, TrO.stab hk h2⟩, TrsO.stab hk (by rw [add_block]; exact hb) h3⟩
end
mutual
theorem TrO.mono {w : World} {O O' : Nat → Prop} (hk : ∀ k, O k → O' k) : ∀ {t : Tr} {b : Nat}, TrO w O t b → TrO w O' t b
  | .mk op n binds kids alts, b, h => by
    simp only [TrO] at h ⊢
    obtain ⟨y, h1, h2, h3⟩ := h
    refine ⟨y, h1.mono hk, h2, fun hl => ?_⟩
    obtain ⟨a, ha, hb, hall⟩ := h3 hl
    exact ⟨a, ha, hk _ hb, TrsO.mono hk hall⟩
theorem TrsO.mono {w : World} {O O' : Nat → Prop} (hk : ∀ k, O k → O' k) : ∀ {ts : List Tr} {a : Addr}, TrsO w O ts a → TrsO w O' ts a
  | [], _, _ => by simp only [TrsO]
  | t :: r, a, h => by
    simp only [TrsO] at h ⊢
    obtain ⟨⟨b, h1, h2⟩, h3⟩ := h
    exact ⟨⟨b, h1, TrO.mono hk h2⟩, TrsO.mono hk h3⟩
end
theorem TrO.at {w w' : World} {t : Tr} {b : Nat} {H : List Eng.Item} {S : List World} (h : TrO w (low w) t b) (hw : Cls H S w') (hs : w ∈ S) (hno : ∀ k, k < w.heap.size → NotOwned H k) : TrO w' (low w') t b :=
  TrO.mono (hw.up hs) (TrO.stab (hw.same hs hno) h)
theorem TrO.ext {w w' : World} {t : Tr} {b : Nat} (h : TrO w (low w) t b) (hx : Ext w w') : TrO w' (low w') t b :=
  TrO.mono (fun k hk => Nat.lt_of_lt_of_le hk hx.size) (TrO.stab (fun k hk => hx.block k hk id) h)
theorem TrsO.get {w : World} {O : Nat → Prop} : ∀ {ts : List Tr} {a : Addr} {i : Nat} {t : Tr}, TrsO w O ts a → ts[i]? = some t → ∃ b, w.cell? (a.add (i * 1)) = some (.pointer (some ⟨b, 0, none⟩)) ∧ TrO w O t b
  | [], _, _, _, _, h => by simp at h
  | u :: r, a, 0, t, h, hi => by
    simp only [TrsO] at h
    simp at hi; subst hi
    obtain ⟨b, h1, h2⟩ := h.1
    exact ⟨b, by rw [Nat.zero_mul, add_zero_]; exact h1, h2⟩
  | u :: r, a, i + 1, t, h, hi => by
    simp only [TrsO] at h
    obtain ⟨b, h1, h2⟩ := TrsO.get (i := i) h.2 (by simpa using hi)
    rw [add_add] at h1
    exact ⟨b, by rwa [show 1 + i * 1 = (i + 1) * 1 by omega] at h1, h2⟩
def ptrs (l : List Nat) : List Value := l.map fun b => .pointer (some ⟨b, 0, none⟩)
theorem TrsO.of {w : World} {O : Nat → Prop} : ∀ {ts : List Tr} {bs : List Nat} {a : Addr}, bs.length = ts.length → CellsAt w a (ptrs bs) → (∀ (i : Nat) t b, ts[i]? = some t → bs[i]? = some b → TrO w O t b) → TrsO w O ts a
  | [], _, _, _, _, _ => by simp only [TrsO]
  | t :: r, [], _, h, _, _ => by simp at h
  | t :: r, b :: bs, a, h, hc, hall => by
    simp only [TrsO]
    refine ⟨⟨b, by have := hc 0 _ (show (ptrs (b :: bs))[0]? = some _ from rfl); rwa [add_zero_] at this, hall 0 t b rfl rfl⟩, TrsO.of (bs := bs) (by simpa using h) (fun j v hj => ?_) (fun i t' b' h1 h2 => hall (i + 1) t' b' (by simpa using h1) (by simpa using h2))⟩
    rw [add_add, Nat.add_comm]
    exact hc (j + 1) v (by simpa [ptrs] using hj)
end Go.Co
namespace Go.Proofs.YtlboppiogeaicaaDoor.co
open Go.RowKit Go.Eng Go.Co
set_option linter.unusedVariables false
set_option linter.unusedSimpArgs false
set_option maxRecDepth 100000
theorem Clone_calls (q : Option Addr) (cap : Nat) (l : List Int) (w : World) (h : IntsO w (low w) l q) (hl : l.length ≤ 1000000) :
    Calls Tryd.prog 79 [.slice q l.length cap].toArray w fun e w' => ∃ q' c, e = .returned (.slice q' l.length c) ∧ Ext w w' ∧ IntsO w' (fresh w w') l q' ∧ l.length ≤ c := by
  refine enter Tryd.func79 rfl Tryd.ntmps79 rfl (Cls.start w) ?_
  (simp only [argEnv, Nat.zero_add, Nat.reduceAdd])
  cases q with
  | none =>
    have hl0 : l = [] := by
      cases l with
      | nil => rfl
      | cons v r =>
        obtain ⟨a, ha, _⟩ := h (by simp)
        cases ha
    subst hl0
    apply W.seq
    apply W.reg
    apply oas; rfl; rfl
    apply OL.nil
    with_reducible apply At.next
    apply W.seq
    apply W.seq
    apply W.reg
    apply omv; rfl; rfl
    apply obn; rfl; rfl; rfl; apply Bin.slice_nil; rfl
    apply OL.nil
    with_reducible apply At.next
    refine W.cond rfl (fun _ => ?_) (fun hb => by simp at hb)
    apply W.seq
    apply W.reg
    apply oas; rfl; rfl
    apply OL.nil
    with_reducible apply At.next
    apply W.ret
    with_reducible apply At.then_ret
    ((with_reducible apply At.fin1); rfl; rfl; intro w' hw')
    exact ⟨none, 0, rfl, by (exact hw'.toExt (by (repeat (first | exact List.Mem.head _ | apply List.Mem.tail))) (fun k hk => by (focus ((try simp only [add_block]); (repeat (first | exact NotOwned.nil | exact hno _ (by omega) | refine NotOwned.nothing ?_ | refine NotOwned.nds (hlow _ (by omega)) ?_ | refine NotOwned.mapS (by omega) ?_ | apply NotOwned.bif | refine NotOwned.blk (by omega) ?_ | refine NotOwned.row (by omega) ?_ | refine NotOwned.grid (by assumption) (by omega) ?_ | refine NotOwned.pile (by omega) ?_ | refine NotOwned.pool (by omega) ?_ | refine NotOwned.mapI (by omega) ?_ | refine NotOwned.mapX (by omega) ?_ | refine NotOwned.itI (by omega) ?_)); done)))), IntsO.nil, by simp⟩
  | some a =>
    apply W.seq
    apply W.reg
    apply oas; rfl; rfl
    apply OL.nil
    with_reducible apply At.next
    apply W.seq
    apply W.seq
    apply W.reg
    apply omv; rfl; rfl
    apply obn; rfl; rfl; rfl; apply Bin.slice_nil; rfl
    apply OL.nil
    with_reducible apply At.next
    refine W.cond rfl (fun hb => by simp at hb) (fun _ => ?_)
    apply W.skip
    with_reducible apply At.next
    apply W.seq
    apply W.reg
    apply OL.buildSlice; rfl; rfl; rfl; apply Elems.nil; rfl; rfl; (intro bk hbk; simp only [AllLe, and_true] at hbk)
    apply omv; rfl; rfl
    refine OL.cls (fun w' hw' => hw'.blk_row (base := w.heap.size) (m := 0) (sz := 1) (by omega) rfl (by decide)) ?_
    (apply OL.appendK (news := ints l)); rfl; rfl; rfl; rfl; ((repeat (first | apply Hole.z | apply Hole.s))); (exact fun w2 hw2 => (h.at hw2 (.head _) (fun k hk => by (focus ((try simp only [add_block]); (repeat (first | exact NotOwned.nil | exact hno _ (by omega) | refine NotOwned.nothing ?_ | refine NotOwned.nds (hlow _ (by omega)) ?_ | refine NotOwned.mapS (by omega) ?_ | apply NotOwned.bif | refine NotOwned.blk (by omega) ?_ | refine NotOwned.row (by omega) ?_ | refine NotOwned.grid (by assumption) (by omega) ?_ | refine NotOwned.pile (by omega) ?_ | refine NotOwned.pool (by omega) ?_ | refine NotOwned.mapI (by omega) ?_ | refine NotOwned.mapX (by omega) ?_ | refine NotOwned.itI (by omega) ?_)); done)))).slAt); (rw [ints_length, Nat.mul_one]); (exact ints_oneL _); (exact ⟨w, .head _, Nat.le_refl _⟩); (omega); (intro O1 q1 c1)
    simp only [Nat.zero_add, List.nil_append]
    apply oas; rfl; rfl
    apply OL.nil
    with_reducible apply At.next
    apply W.ret
    ((with_reducible apply At.fin1); rfl; rfl; intro w' hw')
    exact ⟨q1, c1, rfl, by (exact hw'.toExt (by (repeat (first | exact List.Mem.head _ | apply List.Mem.tail))) (fun k hk => by (focus ((try simp only [add_block]); (repeat (first | exact NotOwned.nil | exact hno _ (by omega) | refine NotOwned.nothing ?_ | refine NotOwned.nds (hlow _ (by omega)) ?_ | refine NotOwned.mapS (by omega) ?_ | apply NotOwned.bif | refine NotOwned.blk (by omega) ?_ | refine NotOwned.row (by omega) ?_ | refine NotOwned.grid (by assumption) (by omega) ?_ | refine NotOwned.pile (by omega) ?_ | refine NotOwned.pool (by omega) ?_ | refine NotOwned.mapI (by omega) ?_ | refine NotOwned.mapX (by omega) ?_ | refine NotOwned.itI (by omega) ?_)); done)))), rowInts hw' (.head _) (Nat.le_refl _), row_cap (hw'.item (.head _))⟩
end Go.Proofs.YtlboppiogeaicaaDoor.co
