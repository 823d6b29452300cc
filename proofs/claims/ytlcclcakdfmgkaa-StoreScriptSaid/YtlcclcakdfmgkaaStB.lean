/- The walks of the store: Drop, Get. Conditions: none. -/
import Derived.Test.YtlcclcakdfmgkaaStA
import Derived.Test.YtlcclcakdfmgkaaStQ
namespace Go.Proofs.Ytlcclcakdfmgkaa.st
open Go.RowKit Go.Eng Go.St
set_option linter.unusedVariables false
set_option linter.unusedSimpArgs false
set_option maxRecDepth 100000

theorem Drop_calls (B0 room r sb mb : Nat) (f : NdT) (m : MP) (E : List En) (k : BA) (H : List Eng.Item) (S : List World) (w : World) (hroom : room ≤ 16777216) (hs : SOK B0 room r f m E) (hc : Cls (SI room r sb mb f m (sumL (kvs E) : Nat) H) S w) :
    Calls Try.prog 8 #[.pointer (some ⟨sb, 0, none⟩), .string k] w fun e w' => ∃ f' m' E', e = .returned (.int .i64 (dropS (kvs E) k).2) ∧ kvs E' = (dropS (kvs E) k).1 ∧ SOK B0 room r f' m' E' ∧ Cls (SI room r sb mb f' m' (sumL (kvs E') : Nat) H) S w' := by
  unfold SI at hc
  refine enter Try.func8 rfl Try.ntmps8 rfl hc ?_
  (simp only [argEnv, Nat.zero_add, Nat.reduceAdd])
  rcases find_split E k with ⟨A, e, B, rfl, rfl⟩ | hno
  · have hg := hs.get_in
    obtain ⟨h1, h2⟩ := findK_some hs.ks
    obtain ⟨a, b, hf, ha, hb, hs2⟩ := hs.drop
    have hsum := hs.sum
    have hsp := sum_split A B e
    apply W.seq
    apply W.reg
    apply oas; rfl; rfl
    apply OL.nil
    with_reducible apply At.next
    apply W.seq
    apply W.reg
    apply omv; rfl; rfl
    apply OL.op; exact Guard.none; rfl; rfl; apply Pev.nil_ptr; rfl; exact yes
    apply ofa; rfl; rfl; rfl
    apply old; rfl; rfl; exact .tail _ (.head _); rfl; rfl
    apply omv; rfl; rfl
    apply OL.op; exact Guard.none; rfl; rfl; apply Pev.lookup_in; rfl; exact yes; rfl; exact yes; rfl; rfl; exact .tail _ (.tail _ (.head _)); assumption
    apply oas; rfl; rfl
    apply OL.nil
    with_reducible apply At.next
    apply W.seq
    apply W.seq
    apply W.reg
    apply omv; rfl; rfl
    apply obn; rfl; rfl; rfl; apply Bin.ptr_nil; rfl
    apply OL.nil
    with_reducible apply At.next
    ((refine W.cond rfl (fun hif => ?_) (fun hif => ?_)) <;> (try (exfalso; simp at hif; done)))
    apply W.skip
    with_reducible apply At.next
    apply W.seq
    apply W.reg
    apply omv; rfl; rfl
    apply omv; rfl; rfl
    refine OL.callE (α := Unit) (fun _ => .tuple #[]) (fun _ => True) (fun _ => Cls (SI room r sb mb (foutF f a b) (mdel m e.key) (sumL (kvs (A ++ B)) : Nat) H) S) rfl rfl (by (repeat (first | exact Args.nil | (apply Args.cons rfl; ((first | exact fun _ => rfl | exact fun h => h | (intro h; simp_all; done))))))) (fun w2 hw2 => (drop_calls room r sb mb e.n a b e.key e.val f m _ H S w2 hf ha hb (by rw [hg]; rfl) (by omega) hw2).mono fun _ w' h => ⟨(), h.1, trivial, ?_⟩) ?_
    · have h2 := h.2
      rw [show ((sumL (kvs (A ++ e :: B)) : Nat) : Int) - ((e.key.size : Int) + e.val.size) = (sumL (kvs (A ++ B)) : Nat) by omega] at h2
      exact h2
    intro _ _
    apply OL.nil
    with_reducible apply At.next
    apply W.seq
    apply W.reg
    apply oas; rfl; rfl
    apply OL.nil
    with_reducible apply At.next
    apply W.ret
    ((with_reducible apply At.fin1); rfl; rfl; intro w' hw')
    exact ⟨_, _, A ++ B, by rw [dropS, h1], by rw [dropS, h1]; exact h2.symm, hs2, hw'⟩
  · have hg := hs.get_no hno
    have h1 := (findK_none E k hno).1
    apply W.seq
    apply W.reg
    apply oas; rfl; rfl
    apply OL.nil
    with_reducible apply At.next
    apply W.seq
    apply W.reg
    apply omv; rfl; rfl
    apply OL.op; exact Guard.none; rfl; rfl; apply Pev.nil_ptr; rfl; exact yes
    apply ofa; rfl; rfl; rfl
    apply old; rfl; rfl; exact .tail _ (.head _); rfl; rfl
    apply omv; rfl; rfl
    apply OL.op; exact Guard.none; rfl; rfl; apply Pev.lookup_no; rfl; exact yes; rfl; exact yes; rfl; rfl; exact .tail _ (.tail _ (.head _)); assumption
    apply oas; rfl; rfl
    apply OL.nil
    with_reducible apply At.next
    apply W.seq
    apply W.seq
    apply W.reg
    apply omv; rfl; rfl
    apply obn; rfl; rfl; rfl; apply Bin.ptr_nil; rfl
    apply OL.nil
    with_reducible apply At.next
    ((refine W.cond rfl (fun hif => ?_) (fun hif => ?_)) <;> (try (exfalso; simp at hif; done)))
    apply W.seq
    apply W.reg
    apply oas; rfl; rfl
    apply OL.nil
    with_reducible apply At.next
    apply W.ret
    with_reducible apply At.then_ret
    ((with_reducible apply At.fin1); rfl; rfl; intro w' hw')
    exact ⟨f, m, E, by rw [dropS, h1], by rw [dropS, h1], hs, hw'⟩
theorem Get_calls (B0 room r sb mb : Nat) (f : NdT) (m : MP) (E : List En) (k : BA) (H : List Eng.Item) (S : List World) (w : World) (hroom : room ≤ 16777216) (hs : SOK B0 room r f m E) (hc : Cls (SI room r sb mb f m (sumL (kvs E) : Nat) H) S w) :
    Calls Try.prog 9 #[.pointer (some ⟨sb, 0, none⟩), .string k] w fun e w' => ∃ f' E', e = .returned (.tuple #[.string (getS (kvs E) k).2.1, .int .i64 (getS (kvs E) k).2.2]) ∧ kvs E' = (getS (kvs E) k).1 ∧ SOK B0 room r f' m E' ∧ Cls (SI room r sb mb f' m (sumL (kvs E') : Nat) H) S w' := by
  unfold SI at hc
  refine enter Try.func9 rfl Try.ntmps9 rfl hc ?_
  (simp only [argEnv, Nat.zero_add, Nat.reduceAdd])
  rcases find_split E k with ⟨A, e, B, rfl, rfl⟩ | hno
  · have hg := hs.get_in
    obtain ⟨h1, h2⟩ := findK_some hs.ks
    obtain ⟨a, b, hf, ha, hb, c, x, hx, hcs, hes, hs2⟩ := hs.get
    have hsp := sum_split A B e
    have hsp2 : sumL (kvs (A ++ e :: B)) = sumL (kvs (A ++ B ++ [e])) := by
      rw [hsp, kvs_append _ [e], sumL_append]; show _ = _ + (e.key.size + e.val.size + 0); omega
    have hkv := hs2.ring.kv e (by simp)
    obtain ⟨y, hy⟩ := Option.isSome_iff_exists.1 (kvO_some hkv)
    obtain ⟨yk, yv, yn, yp⟩ := y
    rw [kvO, hy] at hkv
    simp only [Option.map_some, Option.some.injEq, Prod.mk.injEq] at hkv
    obtain ⟨rfl, rfl⟩ := hkv
    apply W.seq
    apply W.reg
    apply oas; rfl; rfl
    apply oas; rfl; rfl
    apply OL.nil
    with_reducible apply At.next
    apply W.seq
    apply W.reg
    apply omv; rfl; rfl
    apply OL.op; exact Guard.none; rfl; rfl; apply Pev.nil_ptr; rfl; exact yes
    apply ofa; rfl; rfl; rfl
    apply old; rfl; rfl; exact .tail _ (.head _); rfl; rfl
    apply omv; rfl; rfl
    apply OL.op; exact Guard.none; rfl; rfl; apply Pev.lookup_in; rfl; exact yes; rfl; exact yes; rfl; rfl; exact .tail _ (.tail _ (.head _)); assumption
    apply oas; rfl; rfl
    apply OL.nil
    with_reducible apply At.next
    apply W.seq
    apply W.seq
    apply W.reg
    apply omv; rfl; rfl
    apply obn; rfl; rfl; rfl; apply Bin.ptr_nil; rfl
    apply OL.nil
    with_reducible apply At.next
    ((refine W.cond rfl (fun hif => ?_) (fun hif => ?_)) <;> (try (exfalso; simp at hif; done)))
    apply W.skip
    with_reducible apply At.next
    apply W.seq
    apply W.reg
    apply omv; rfl; rfl
    refine OL.callE (α := Unit) (fun _ => .tuple #[]) (fun _ => True) (fun _ => Cls (SI room r sb mb (foutF f a b) m (sumL (kvs (A ++ e :: B)) : Nat) H) S) rfl rfl (by (repeat (first | exact Args.nil | (apply Args.cons rfl; ((first | exact fun _ => rfl | exact fun h => h | (intro h; simp_all; done))))))) (fun w2 hw2 => (out_calls e.n a b e.key e.val f _ S w2 hf ha hb hw2).mono fun _ w' h => ⟨(), h.1, trivial, h.2⟩) ?_
    intro _ _
    apply OL.nil
    with_reducible apply At.next
    apply W.seq
    apply W.reg
    apply omv; rfl; rfl
    apply omv; rfl; rfl
    refine OL.callE (α := Unit) (fun _ => .tuple #[]) (fun _ => True) (fun _ => Cls (SI room r sb mb (ffrontF (foutF f a b) r c e.n) m (sumL (kvs (A ++ e :: B)) : Nat) H) S) rfl rfl (by (repeat (first | exact Args.nil | (apply Args.cons rfl; ((first | exact fun _ => rfl | exact fun h => h | (intro h; simp_all; done))))))) (fun w2 hw2 => (front_calls room r sb mb e.n c x (foutF f a b) m _ H S w2 hx hcs hes hw2).mono fun _ w' h => ⟨(), h.1, trivial, h.2⟩) ?_
    intro _ _
    unfold SI
    apply OL.nil
    with_reducible apply At.next
    apply W.seq
    apply W.reg
    apply omv; rfl; rfl
    apply OL.op; exact Guard.none; rfl; rfl; apply Pev.nil_ptr; rfl; exact yes
    apply ofa; rfl; rfl; rfl
    apply OL.op; exact Guard.none; rfl; rfl; apply Pev.load_nd; rfl; exact yes; exact .head _; rfl; assumption; rfl
    apply oas; rfl; rfl
    apply oas; rfl; rfl
    apply OL.nil
    with_reducible apply At.next
    apply W.ret
    ((with_reducible apply At.fin2); rfl; rfl; rfl; intro w' hw')
    refine ⟨_, A ++ B ++ [e], by rw [getS, h1], ?_, hs2, by rw [← hsp2]; exact hw'⟩
    rw [getS, h1, h2, kvs_append]; rfl
  · have hg := hs.get_no hno
    have h1 := (findK_none E k hno).1
    apply W.seq
    apply W.reg
    apply oas; rfl; rfl
    apply oas; rfl; rfl
    apply OL.nil
    with_reducible apply At.next
    apply W.seq
    apply W.reg
    apply omv; rfl; rfl
    apply OL.op; exact Guard.none; rfl; rfl; apply Pev.nil_ptr; rfl; exact yes
    apply ofa; rfl; rfl; rfl
    apply old; rfl; rfl; exact .tail _ (.head _); rfl; rfl
    apply omv; rfl; rfl
    apply OL.op; exact Guard.none; rfl; rfl; apply Pev.lookup_no; rfl; exact yes; rfl; exact yes; rfl; rfl; exact .tail _ (.tail _ (.head _)); assumption
    apply oas; rfl; rfl
    apply OL.nil
    with_reducible apply At.next
    apply W.seq
    apply W.seq
    apply W.reg
    apply omv; rfl; rfl
    apply obn; rfl; rfl; rfl; apply Bin.ptr_nil; rfl
    apply OL.nil
    with_reducible apply At.next
    ((refine W.cond rfl (fun hif => ?_) (fun hif => ?_)) <;> (try (exfalso; simp at hif; done)))
    apply W.seq
    apply W.reg
    apply oas; rfl; rfl
    apply oas; rfl; rfl
    apply OL.nil
    with_reducible apply At.next
    apply W.ret
    with_reducible apply At.then_ret
    ((with_reducible apply At.fin2); rfl; rfl; rfl; intro w' hw')
    exact ⟨f, E, by rw [getS, h1], by rw [getS, h1], hs, hw'⟩
end Go.Proofs.Ytlcclcakdfmgkaa.st
