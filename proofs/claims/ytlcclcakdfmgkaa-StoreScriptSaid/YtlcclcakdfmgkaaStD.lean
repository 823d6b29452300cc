/- The walk of the store's Keys. Conditions: none. -/
import Derived.Test.YtlcclcakdfmgkaaStC
namespace Go.Proofs.Ytlcclcakdfmgkaa.st
open Go.RowKit Go.Eng Go.St
set_option linter.unusedVariables false
set_option linter.unusedSimpArgs false
set_option maxRecDepth 100000

structure RW where
  q : Option Addr
  c : Nat
  O : Nat → Prop
structure KG where
  k : Nat
  y : RW
def keysR (E : List En) : List BA := (kvs E).reverse.map Prod.fst
theorem keysR_len (E : List En) : (keysR E).length = E.length := by simp [keysR, kvs]
theorem keysR_cons (e : En) (E : List En) : keysR (e :: E) = keysR E ++ [e.key] := by simp [keysR, kvs]
theorem Cls.in3 {H : List Eng.Item} {S : List World} {w : World} {i a b c : Eng.Item} (h : Cls (i :: a :: b :: c :: H) S w) : Cls (a :: b :: c :: i :: H) S w := h.perm (List.Perm.append_right H (List.perm_append_comm (l₁ := [i]) (l₂ := [a, b, c])))
theorem Cls.out3 {H : List Eng.Item} {S : List World} {w : World} {i a b c : Eng.Item} (h : Cls (a :: b :: c :: i :: H) S w) : Cls (i :: a :: b :: c :: H) S w := h.perm (List.Perm.append_right H (List.perm_append_comm (l₁ := [a, b, c]) (l₂ := [i])))
theorem Keys_calls (B0 room r sb mb : Nat) (f : NdT) (m : MP) (E : List En) (u : Int) (H : List Eng.Item) (S : List World) (w : World) (hE : E.length ≤ 16777216) (hs : SOK B0 room r f m E) (hc : Cls (SI room r sb mb f m u H) S w) :
    Calls Try.prog 16 #[.pointer (some ⟨sb, 0, none⟩)] w fun e w' => ∃ y : RW, e = .returned (.slice y.q E.length E.length) ∧ Cls (SI room r sb mb f m u (row w.heap.size y.O y.q E.length y.c 9 1 (strs (keysR E)) :: H)) S w' := by
  unfold SI at hc
  obtain ⟨x0, hx0⟩ := hs.ring.last
  have hroot := hs.ring.root
  refine enter Try.func16 rfl Try.ntmps16 rfl hc.note ?_
  (simp only [argEnv, Nat.zero_add, Nat.reduceAdd])
  apply W.seq
  apply W.reg
  apply oas; rfl; rfl
  apply OL.nil
  with_reducible apply At.next
  apply W.seq
  apply W.reg
  apply oas; rfl; rfl
  apply OL.nil
  with_reducible apply At.next
  apply W.seq
  apply W.seq
  apply W.reg
  apply omv; rfl; rfl
  apply OL.op; exact Guard.none; rfl; rfl; apply Pev.nil_ptr; rfl; exact yes
  apply ofa; rfl; rfl; rfl
  apply old; rfl; rfl; exact .tail _ (.head _); rfl; rfl
  apply OL.op; exact Guard.none; rfl; rfl; apply Pev.nil_ptr; rfl; exact yes
  apply ofa; rfl; rfl; rfl
  apply OL.op; exact Guard.none; rfl; rfl; apply Pev.load_nd; rfl; exact yes; exact .head _; rfl; assumption; rfl
  apply oas; rfl; rfl
  apply OL.nil
  with_reducible apply At.next
  apply W.block
  refine W.loop (G := KG) (fun g => g.k ≤ E.length) (fun g => E.length - g.k)
    (fun g => [(0, true, .pointer (some ⟨sb, 0, none⟩)), (3, true, .slice g.y.q g.k g.y.c), (4, true, .pointer (some ⟨(r :: E.map (·.n)).getD (E.length - g.k) r, 0, none⟩))])
    (fun g => Cls (SI room r sb mb f m u (row w.heap.size g.y.O g.y.q g.k g.y.c 9 1 (strs (keysR (E.drop (E.length - g.k)))) :: H)) (w :: S)) ⟨0, none, 0, fun _ => False⟩ (Nat.zero_le _) (by (repeat (first | exact Sub.nil | apply Sub.cons rfl))) (fun w' hw' => ?_) ?_
  · have h1 := Cls.in3 (hw'.row_nil w.heap.size 9 1)
    have h2 : E.drop (E.length - 0) = [] := by simp
    show Cls (SI room r sb mb f m u (row w.heap.size _ _ _ _ _ _ (strs (keysR (E.drop (E.length - 0)))) :: H)) (w :: S) w'
    rw [h2]
    exact h1
  rintro ⟨k, q, c, O⟩ hk
  simp only at hk
  simp only [SI]
  have hptr := hs.ring.ptr (E.length - k)
  rcases Nat.lt_or_ge k E.length with hlt | hge
  · obtain ⟨j, hj⟩ : ∃ j, E.length - k = j + 1 := ⟨E.length - k - 1, by omega⟩
    have hjl : j < E.length := by omega
    have he : E[j]? = some E[j] := List.getElem?_eq_getElem hjl
    generalize E[j] = e at he
    obtain ⟨v, nx, hfe, hner⟩ := hs.ring.back he
    have hp : (r :: E.map (·.n)).getD (E.length - k) r = e.n := by
      rw [hj, List.getD_eq_getElem?_getD]; simp [he]
    rw [show j = E.length - (k + 1) by omega] at hfe
    have hdrop : E.drop (E.length - (k + 1)) = e :: E.drop (E.length - k) := by
      rw [show E.length - (k + 1) = j by omega, hj]
      rw [List.drop_eq_getElem_cons hjl]
      congr 1
      rw [List.getElem?_eq_getElem hjl] at he
      exact Option.some.inj he
    rw [hp] at hptr ⊢
    apply W.seq
    apply W.seq
    apply W.reg
    apply omv; rfl; rfl
    apply omv; rfl; rfl
    apply OL.op; exact Guard.none; rfl; rfl; apply Pev.nil_ptr; rfl; exact yes
    apply ofa; rfl; rfl; rfl
    apply old; rfl; rfl; exact .tail _ (.head _); rfl; rfl
    apply OL.op; exact Guard.none; rfl; rfl; apply Pev.nd_neq; rfl; exact yes; rfl; exact yes; rfl; exact .head _; assumption; assumption
    apply OL.nil
    with_reducible apply At.next
    refine W.cond rfl (fun h => ?_) (fun h => ?_)
    · apply W.skip
      with_reducible apply At.next
      apply W.seq
      apply W.block
      apply W.reg
      apply omv; rfl; rfl
      apply omv; rfl; rfl
      apply OL.op; exact Guard.none; rfl; rfl; apply Pev.nil_ptr; rfl; exact yes
      apply ofa; rfl; rfl; rfl
      apply OL.op; exact Guard.none; rfl; rfl; apply Pev.load_nd; rfl; exact yes; exact .head _; rfl; assumption; rfl
      apply OL.buildSlice; rfl; rfl; rfl; apply Elems.cons rfl; exact CellsL.one rfl; rfl; apply Elems.nil; apply App.cons; apply App.nil; rfl; rfl; (intro bk hbk; simp only [AllLe, and_true] at hbk)
      apply OL.append; rfl; rfl; rfl; rfl; apply Hole.s; apply Hole.s; apply Hole.s; apply Hole.s; apply Hole.z; exact .head _; apply Take.succ; apply Take.zero; rfl; rfl; exact ⟨_, .head _, Nat.le_refl _⟩; omega; intro O1 g1 cap1
      apply oas; rfl; rfl
      apply OL.nil
      with_reducible apply At.in_normal
      with_reducible apply At.next
      apply W.reg
      apply omv; rfl; rfl
      apply OL.op; exact Guard.none; rfl; rfl; apply Pev.nil_ptr; rfl; exact yes
      apply ofa; rfl; rfl; rfl
      apply OL.op; exact Guard.none; rfl; rfl; apply Pev.load_nd; rfl; exact yes; exact .tail _ (.head _); rfl; assumption; rfl
      apply oas; rfl; rfl
      apply OL.nil
      refine At.again ⟨k + 1, some ⟨g1, 0, none⟩, cap1, O1⟩ (by simp only; omega) (by simp only; omega) (by (repeat (first | exact Sub.nil | apply Sub.cons rfl))) (fun w' hw' => ?_)
      have h3 := hw'.thin (Thin.blk (by assumption) Thin.same)
      simp only [SI, hdrop, keysR_cons]
      rw [show strs (keysR (E.drop (E.length - k)) ++ [e.key]) = strs (keysR (E.drop (E.length - k))) ++ [.string e.key] by simp [strs]]
      exact h3
    · exfalso
      simp [hner] at h
  · obtain rfl : k = E.length := by omega
    have hp : (r :: E.map (·.n)).getD (E.length - E.length) r = r := by rw [Nat.sub_self]; rfl
    rw [hp] at hptr ⊢
    apply W.seq
    apply W.seq
    apply W.reg
    apply omv; rfl; rfl
    apply omv; rfl; rfl
    apply OL.op; exact Guard.none; rfl; rfl; apply Pev.nil_ptr; rfl; exact yes
    apply ofa; rfl; rfl; rfl
    apply old; rfl; rfl; exact .tail _ (.head _); rfl; rfl
    apply OL.op; exact Guard.none; rfl; rfl; apply Pev.nd_neq; rfl; exact yes; rfl; exact yes; rfl; exact .head _; assumption; assumption
    apply OL.nil
    with_reducible apply At.next
    refine W.cond rfl (fun h => ?_) (fun h => ?_)
    · exfalso; simp at h
    · apply W.exit
      with_reducible apply At.then_exit
      with_reducible apply At.then_exit
      with_reducible apply At.in_exit
      with_reducible apply At.next
      apply W.seq
      apply W.reg
      apply omv; rfl; rfl
      refine OL.fact (φ := E.length ≤ c) (fun w' hw' => row_le (hw'.holds _ (.tail _ (.tail _ (.tail _ (.head _)))))) (fun hcap => ?_)
      refine OL.callE (α := Unit) (fun _ => .slice q E.length E.length) (fun _ => True) (fun _ => Cls (SI room r sb mb f m u (row w.heap.size O q E.length c 9 1 (strs (keysR (E.drop (E.length - E.length)))) :: H)) (w :: S)) rfl rfl (by (repeat (first | exact Args.nil | (apply Args.cons rfl; ((first | exact fun _ => rfl | exact fun h => h | (intro h; simp_all; done))))))) (fun w2 hw2 => (Clip_calls q E.length c _ _ w2 hcap hw2).mono fun _ w' h => ⟨(), h.1, trivial, h.2⟩) ?_
      intro _ _
      apply oas; rfl; rfl
      apply OL.nil
      with_reducible apply At.next
      apply W.ret
      ((with_reducible apply At.fin1); rfl; rfl; intro w' hw')
      refine ⟨⟨q, c, O⟩, rfl, ?_⟩
      rw [Nat.sub_self, List.drop_zero] at hw'
      exact hw'.forget fun s hs => .tail _ hs
end Go.Proofs.Ytlcclcakdfmgkaa.st
