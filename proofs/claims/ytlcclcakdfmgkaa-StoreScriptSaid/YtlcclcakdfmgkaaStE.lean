/- The walk of the store's Put. Conditions: none. -/
import Derived.Test.YtlcclcakdfmgkaaStD
namespace Go.Proofs.Ytlcclcakdfmgkaa.st
open Go.RowKit Go.Eng Go.St
set_option linter.unusedVariables false
set_option linter.unusedSimpArgs false
set_option maxRecDepth 100000

structure PG where
  f : NdT
  m : MP
  E : List En
  evs : List BA
  y : RW
theorem ev_le {room need : Nat} : ∀ {L : PR}, ¬ room < sumL L + need → ev room need L = ([], L)
  | [], _ => rfl
  | p :: r, h => by rw [ev, if_neg h]
theorem Put_calls (B0 room r sb mb : Nat) (f : NdT) (m : MP) (E : List En) (k v : BA) (H : List Eng.Item) (S : List World) (w : World) (hroom : room ≤ 16777216) (hE : E.length ≤ 16777216) (hB : B0 ≤ w.heap.size) (hkv : (k.size : Int) + v.size ≤ 9223372036854775807)
    (hs : SOK B0 room r f m E) (hc : Cls (SI room r sb mb f m (sumL (kvs E) : Nat) H) S w) :
    Calls Try.prog 12 #[.pointer (some ⟨sb, 0, none⟩), .string k, .string v] w fun e w' => ∃ f' m' E' y, e = .returned (.tuple #[.slice (RW.q y) (putS room (kvs E) k v).2.1.length y.c, .int .i64 (putS room (kvs E) k v).2.2]) ∧ kvs E' = (putS room (kvs E) k v).1 ∧ SOK B0 room r f' m' E' ∧
      Cls (SI room r sb mb f' m' (sumL (kvs E') : Nat) (row w.heap.size y.O y.q (putS room (kvs E) k v).2.1.length y.c 9 1 (strs (putS room (kvs E) k v).2.1) :: H)) S w' := by
  unfold SI at hc
  refine enter Try.func12 rfl Try.ntmps12 rfl hc.note ?_
  (simp only [argEnv, Nat.zero_add, Nat.reduceAdd])
  apply W.seq
  apply W.reg
  apply oas; rfl; rfl
  apply oas; rfl; rfl
  apply OL.nil
  with_reducible apply At.next
  apply W.seq
  apply W.seq
  apply W.reg
  apply omv; rfl; rfl
  apply OL.op; exact Guard.none; rfl; rfl; apply Pev.len_str; rfl; exact yes; rfl
  apply omv; rfl; rfl
  apply OL.op; exact Guard.none; rfl; rfl; apply Pev.len_str; rfl; exact yes; rfl
  apply obn; rfl; rfl; rfl; apply Bin.add_in; omega
  apply omv; rfl; rfl
  apply OL.op; exact Guard.none; rfl; rfl; apply Pev.nil_ptr; rfl; exact yes
  apply ofa; rfl; rfl; rfl
  apply old; rfl; rfl; exact .tail _ (.head _); rfl; rfl
  apply obn; rfl; rfl; rfl; apply Bin.gtr
  apply OL.nil
  with_reducible apply At.next
  refine W.cond rfl (fun h => ?_) (fun h => ?_)
  · simp only [Bool.and_eq_true, Bool.or_eq_true, Bool.not_eq_true', Bool.and_eq_false_iff, Bool.or_eq_false_iff, Bool.not_eq_false', decide_eq_true_eq, decide_eq_false_iff_not, Int.not_lt, Int.not_le] at h
    have hput : putS room (kvs E) k v = (kvs E, [], 16) := by rw [putS, if_pos (by omega)]
    rw [hput]
    apply W.seq
    apply W.reg
    apply oas; rfl; rfl
    apply oas; rfl; rfl
    apply OL.nil
    with_reducible apply At.next
    apply W.ret
    with_reducible apply At.then_ret
    ((with_reducible apply At.fin2); rfl; rfl; rfl; intro w' hw')
    exact ⟨f, m, E, ⟨none, 0, fun _ => False⟩, rfl, rfl, hs, (Cls.in3 (hw'.row_nil w.heap.size 9 1)).forget fun s hs => .tail _ hs⟩
  simp only [Bool.and_eq_true, Bool.or_eq_true, Bool.not_eq_true', Bool.and_eq_false_iff, Bool.or_eq_false_iff, Bool.not_eq_false', decide_eq_true_eq, decide_eq_false_iff_not, Int.not_lt, Int.not_le] at h
  have hput : putS room (kvs E) k v = ((ev room (k.size + v.size) (delK (kvs E) k)).2 ++ [(k, v)], (ev room (k.size + v.size) (delK (kvs E) k)).1, 0) := by rw [putS, if_neg (by omega)]
  rw [hput]
  clear hput
  obtain ⟨o, hg, ho⟩ : ∃ o : Option Nat, (mget m k = o.map fun j => .pointer (some ⟨j, 0, none⟩)) ∧ ((o = none ∧ ∀ e ∈ E, e.key ≠ k) ∨ ∃ A e B, E = A ++ e :: B ∧ e.key = k ∧ o = some e.n) := by
    rcases find_split E k with ⟨A, e, B, rfl, rfl⟩ | hno
    · exact ⟨some e.n, hs.get_in, .inr ⟨A, e, B, rfl, rfl, rfl⟩⟩
    · exact ⟨none, hs.get_no hno, .inl ⟨rfl, hno⟩⟩
  apply W.skip
  with_reducible apply At.next
  apply W.seq
  apply W.seq
  apply W.reg
  apply omv; rfl; rfl
  apply OL.op; exact Guard.none; rfl; rfl; apply Pev.nil_ptr; rfl; exact yes
  apply ofa; rfl; rfl; rfl
  apply old; rfl; rfl; exact .tail _ (.head _); rfl; rfl
  apply omv; rfl; rfl
  apply OL.op; exact Guard.none; rfl; rfl; apply Pev.lookup_o; rfl; exact yes; rfl; exact yes; rfl; rfl; exact .tail _ (.tail _ (.head _)); assumption
  apply oas; rfl; rfl
  apply OL.nil
  with_reducible apply At.next
  apply W.seq
  apply W.reg
  apply omv; rfl; rfl
  apply obn; rfl; rfl; rfl; apply Bin.ptr_nnil; rfl
  apply OL.nil
  with_reducible apply At.next
  refine W.joinc [(0, true, .pointer (some ⟨sb, 0, none⟩)), (1, true, .string k), (2, true, .string v)] (fun w' => ∃ x : NdT × MP × List En, (SOK B0 room r x.1 x.2.1 x.2.2 ∧ kvs x.2.2 = delK (kvs E) k ∧ (∀ e ∈ x.2.2, e.key ≠ k) ∧ x.2.2.length ≤ E.length) ∧ Cls (SI room r sb mb x.1 x.2.1 (sumL (kvs x.2.2) : Nat) H) (w :: S) w') ?_ ?_
  · refine W.cond rfl (fun h2 => ?_) (fun h2 => ?_)
    · rcases ho with ⟨rfl, _⟩ | ⟨A, e, B, rfl, rfl, rfl⟩
      · exfalso; simp at h2
      obtain ⟨h3, h4⟩ := findK_some hs.ks
      obtain ⟨a, b, hf, ha, hb, hs2⟩ := hs.drop
      have hsum := hs.sum
      have hsp := sum_split A B e
      apply W.reg
      apply omv; rfl; rfl
      apply omv; rfl; rfl
      refine OL.callE (α := Unit) (fun _ => .tuple #[]) (fun _ => True) (fun _ => Cls (SI room r sb mb (foutF f a b) (mdel m e.key) (sumL (kvs (A ++ B)) : Nat) H) (w :: S)) rfl rfl (by (repeat (first | exact Args.nil | (apply Args.cons rfl; ((first | exact fun _ => rfl | exact fun h => h | (intro h; simp_all; done))))))) (fun w2 hw2 => (drop_calls room r sb mb e.n a b e.key e.val f m _ H _ w2 hf ha hb (by rw [hg]; rfl) (by omega) hw2).mono fun _ w' h => ⟨(), h.1, trivial, ?_⟩) ?_
      · have h2 := h.2
        rw [show ((sumL (kvs (A ++ e :: B)) : Nat) : Int) - ((e.key.size : Int) + e.val.size) = (sumL (kvs (A ++ B)) : Nat) by omega] at h2
        exact h2
      intro _ _
      apply OL.nil
      exact At.joined (by (repeat (first | exact Sub.nil | apply Sub.cons rfl))) fun w' hw' => ⟨⟨foutF f a b, mdel m e.key, A ++ B⟩, ⟨hs2, h4.symm, fun x hx => key_inj hs.ks hx, by simp⟩, hw'⟩
    · rcases ho with ⟨rfl, hno⟩ | ⟨A, e, B, rfl, rfl, rfl⟩
      · apply W.skip
        exact At.joined (by (repeat (first | exact Sub.nil | apply Sub.cons rfl))) fun w' hw' => ⟨⟨f, m, E⟩, ⟨hs, (findK_none E k hno).2.symm, hno, Nat.le_refl _⟩, hw'⟩
      · exfalso; simp at h2
  refine W.ex fun x => ?_
  obtain ⟨f1, m1, E1⟩ := x
  refine W.fact (φ := SOK B0 room r f1 m1 E1 ∧ kvs E1 = delK (kvs E) k ∧ (∀ e ∈ E1, e.key ≠ k) ∧ E1.length ≤ E.length) (fun w' hw' => hw'.1) (fun hx => ?_)
  refine W.cls (C' := Cls (SI room r sb mb f1 m1 (sumL (kvs E1) : Nat) H) (w :: S)) (fun w' hw' => hw'.2) ?_
  obtain ⟨hs1, hdel, hno1, hlen1⟩ := hx
  rw [← hdel]
  clear hdel hg ho hs
  simp only [SI]
  apply W.seq
  apply W.reg
  apply oas; rfl; rfl
  apply OL.nil
  with_reducible apply At.next
  apply W.seq
  apply W.block
  refine W.loop (G := PG) (fun g => SOK B0 room r g.f g.m g.E ∧ (∀ e ∈ g.E, e.key ≠ k) ∧ g.E.length + g.evs.length ≤ E1.length ∧ ev room (k.size + v.size) (kvs E1) = (g.evs ++ (ev room (k.size + v.size) (kvs g.E)).1, (ev room (k.size + v.size) (kvs g.E)).2)) (fun g => g.E.length)
    (fun g => [(0, true, .pointer (some ⟨sb, 0, none⟩)), (1, true, .string k), (2, true, .string v), (9, true, .slice g.y.q g.evs.length g.y.c)])
    (fun g => Cls (SI room r sb mb g.f g.m (sumL (kvs g.E) : Nat) (row w.heap.size g.y.O g.y.q g.evs.length g.y.c 9 1 (strs g.evs) :: H)) (w :: S)) ⟨f1, m1, E1, [], none, 0, fun _ => False⟩ ⟨hs1, hno1, by simp, by simp⟩ (by (repeat (first | exact Sub.nil | apply Sub.cons rfl))) (fun w' hw' => Cls.in3 (hw'.row_nil w.heap.size 9 1)) ?_
  rintro ⟨f2, m2, E2, evs, q, c, O⟩ ⟨hs2, hno2, hlen2, hev⟩
  simp only at hs2 hno2 hlen2 hev
  simp only [SI]
  have hsum2 := hs2.sum
  apply W.seq
  apply W.seq
  apply W.regd0; decide +kernel; kernel_rfl; decide +kernel; exact fun w hw => hw.drew
  apply qmv; rfl; rfl
  apply QL.op; exact Guard.none; rfl; rfl; apply Pev.nil_ptr; rfl; exact yes
  apply qfa; rfl; rfl; rfl
  apply qld; rfl; rfl; exact .tail _ (.head _); rfl; rfl
  apply qmv; rfl; rfl
  apply QL.op; exact Guard.none; rfl; rfl; apply Pev.len_str; rfl; exact yes; rfl
  apply qbn; rfl; rfl; rfl; apply Bin.add_in; omega
  apply qmv; rfl; rfl
  apply QL.op; exact Guard.none; rfl; rfl; apply Pev.len_str; rfl; exact yes; rfl
  apply qbn; rfl; rfl; rfl; apply Bin.add_in; omega
  apply qmv; rfl; rfl
  apply QL.op; exact Guard.none; rfl; rfl; apply Pev.nil_ptr; rfl; exact yes
  apply qfa; rfl; rfl; rfl
  apply qld; rfl; rfl; exact .tail _ (.head _); rfl; rfl
  apply qbn; rfl; rfl; rfl; apply Bin.gtr
  apply QL.nil
  with_reducible apply At.next
  refine W.cond rfl (fun h2 => ?_) (fun h2 => ?_)
  · simp only [Bool.and_eq_true, Bool.or_eq_true, Bool.not_eq_true', Bool.and_eq_false_iff, Bool.or_eq_false_iff, Bool.not_eq_false', decide_eq_true_eq, decide_eq_false_iff_not, Int.not_lt, Int.not_le] at h2
    cases E2 with
    | nil => have : sumL (kvs ([] : List En)) = 0 := rfl; exfalso; omega
    | cons e E3 =>
      obtain ⟨x0, hx0⟩ := hs2.ring.head
      obtain ⟨a, b, hf, ha, hb, hs3⟩ := SOK.drop (A := []) hs2
      have hg2 := SOK.get_in (A := []) hs2
      have hsp : sumL (kvs (e :: E3)) = e.key.size + e.val.size + sumL (kvs E3) := rfl
      simp only [List.length_cons] at hlen2
      apply W.skip
      with_reducible apply At.next
      apply W.block
      apply W.seq
      apply W.reg
      apply omv; rfl; rfl
      apply OL.op; exact Guard.none; rfl; rfl; apply Pev.nil_ptr; rfl; exact yes
      apply ofa; rfl; rfl; rfl
      apply old; rfl; rfl; exact .tail _ (.head _); rfl; rfl
      apply OL.op; exact Guard.none; rfl; rfl; apply Pev.nil_ptr; rfl; exact yes
      apply ofa; rfl; rfl; rfl
      apply OL.op; exact Guard.none; rfl; rfl; apply Pev.load_nd; rfl; exact yes; exact .head _; rfl; assumption; rfl
      apply oas; rfl; rfl
      apply OL.nil
      with_reducible apply At.next
      apply W.seq
      apply W.reg
      apply omv; rfl; rfl
      apply omv; rfl; rfl
      apply OL.op; exact Guard.none; rfl; rfl; apply Pev.nil_ptr; rfl; exact yes
      apply ofa; rfl; rfl; rfl
      apply OL.op; exact Guard.none; rfl; rfl; apply Pev.load_nd; rfl; exact yes; exact .head _; rfl; assumption; rfl
      apply OL.buildSlice; rfl; rfl; rfl; apply Elems.cons rfl; exact CellsL.one rfl; rfl; apply Elems.nil; apply App.cons; apply App.nil; rfl; rfl; (intro bk hbk; simp only [AllLe, and_true] at hbk)
      apply OL.append; rfl; rfl; rfl; rfl; apply Hole.s; apply Hole.s; apply Hole.s; apply Hole.s; apply Hole.z; exact .head _; apply Take.succ; apply Take.zero; rfl; rfl; exact ⟨_, .head _, Nat.le_refl _⟩; omega; intro O1 g1 cap1
      apply oas; rfl; rfl
      apply OL.nil
      with_reducible apply At.next
      apply W.reg
      apply omv; rfl; rfl
      apply omv; rfl; rfl
      refine OL.callE (α := Unit) (fun _ => .tuple #[]) (fun _ => True) (fun _ => Cls (SI room r sb mb (foutF f2 a b) (mdel m2 e.key) (sumL (kvs E3) : Nat) (row w.heap.size O1 (some ⟨g1, 0, none⟩) (evs.length + 1) cap1 9 1 (strs evs ++ [.string e.key]) :: H)) (w :: S)) rfl rfl (by (repeat (first | exact Args.nil | (apply Args.cons rfl; ((first | exact fun _ => rfl | exact fun h => h | (intro h; simp_all; done))))))) (fun w2 hw2 => (drop_calls room r sb mb e.n a b e.key e.val f2 m2 _ _ _ w2 hf ha hb (by rw [hg2]; rfl) (by omega) (Cls.in3 hw2)).mono fun _ w' h => ⟨(), h.1, trivial, ?_⟩) ?_
      · have h2 := h.2
        rw [show ((sumL (kvs (e :: E3)) : Nat) : Int) - ((e.key.size : Int) + e.val.size) = (sumL (kvs E3) : Nat) by omega] at h2
        exact h2.thin (.keep (.keep (.keep (Thin.blk (by assumption) Thin.same))))
      intro _ _
      rw [show evs.length + 1 = (evs ++ [e.key]).length by simp, show strs evs ++ [.string e.key] = strs (evs ++ [e.key]) by simp [strs]]
      apply OL.nil
      with_reducible apply At.in_normal
      refine At.again ⟨foutF f2 a b, mdel m2 e.key, E3, evs ++ [e.key], some ⟨g1, 0, none⟩, cap1, O1⟩ ⟨hs3, fun x hx => hno2 x (.tail _ hx), by simp only [List.length_append, List.length_cons, List.length_nil]; omega, ?_⟩ (by simp) (by (repeat (first | exact Sub.nil | apply Sub.cons rfl))) (fun w' hw' => hw')
      rw [hev]
      show (evs ++ (ev room (k.size + v.size) ((e.key, e.val) :: kvs E3)).1, (ev room (k.size + v.size) ((e.key, e.val) :: kvs E3)).2) = _
      rw [ev, if_pos (show room < sumL ((e.key, e.val) :: kvs E3) + (k.size + v.size) by
        have : sumL ((e.key, e.val) :: kvs E3) = sumL (kvs (e :: E3)) := rfl
        omega)]
      simp
  · simp only [Bool.and_eq_true, Bool.or_eq_true, Bool.not_eq_true', Bool.and_eq_false_iff, Bool.or_eq_false_iff, Bool.not_eq_false', decide_eq_true_eq, decide_eq_false_iff_not, Int.not_lt, Int.not_le] at h2
    have hevs := ev_le (room := room) (need := k.size + v.size) (L := kvs E2) (by omega)
    rw [hevs] at hev
    rw [hev]
    have hnok := hs2.get_no hno2
    apply W.exit
    with_reducible apply At.then_exit
    with_reducible apply At.then_exit
    with_reducible apply At.in_exit
    with_reducible apply At.next
    apply W.seq
    apply W.reg
    apply omv; rfl; rfl
    refine OL.callE (α := Unit) (fun _ => .string k) (fun _ => True) (fun _ => Cls (SI room r sb mb f2 m2 (sumL (kvs E2) : Nat) (row w.heap.size O q evs.length c 9 1 (strs evs) :: H)) (w :: S)) rfl rfl (by (repeat (first | exact Args.nil | (apply Args.cons rfl; ((first | exact fun _ => rfl | exact fun h => h | (intro h; simp_all; done))))))) (fun w2 hw2 => (Clone_calls k _ _ w2 (by omega) hw2).mono fun _ w' h => ⟨(), h.1, trivial, h.2⟩) ?_
    intro _ _
    apply omv; rfl; rfl
    refine OL.callE (α := Unit) (fun _ => .string v) (fun _ => True) (fun _ => Cls (SI room r sb mb f2 m2 (sumL (kvs E2) : Nat) (row w.heap.size O q evs.length c 9 1 (strs evs) :: H)) (w :: S)) rfl rfl (by (repeat (first | exact Args.nil | (apply Args.cons rfl; ((first | exact fun _ => rfl | exact fun h => h | (intro h; simp_all; done))))))) (fun w2 hw2 => (Clone_calls v _ _ w2 (by omega) hw2).mono fun _ w' h => ⟨(), h.1, trivial, h.2⟩) ?_
    intro _ _
    simp only [SI]
    apply OL.op; exact Guard.none; rfl; rfl; apply Pev.build; rfl; exact CellsL.agg; rfl; apply Fill.cons rfl; exact CellsL.one rfl; rfl; rfl; apply Put.here; apply Over.cons; apply Over.nil; apply Fill.cons rfl; exact CellsL.one rfl; rfl; rfl; apply Put.skip; apply Put.here; apply Over.cons; apply Over.nil; apply Fill.nil; rfl
    apply OL.box; rfl; rfl; exact CellsL.agg; (intro bk hbk; simp only [AllLe, and_true] at hbk)
    apply oas; rfl; rfl
    apply OL.nil
    with_reducible apply At.next
    apply W.seq
    apply W.regq; apply Split.s rfl; apply Split.s rfl; apply Split.s rfl; apply Split.s rfl; apply Split.s rfl; apply Split.s rfl; apply Split.s rfl; apply Split.s rfl; apply Split.s rfl; exact Split.z rfl; kernel_rfl; decide +kernel; exact fun w hw => hw.drew
    apply qmv; rfl; rfl
    apply QL.op; exact Guard.none; rfl; rfl; apply Pev.nil_ptr; rfl; exact yes
    apply qfa; rfl; rfl; rfl
    apply qld; rfl; rfl; exact .tail _ (.tail _ (.head _)); rfl; rfl
    apply qmv; rfl; rfl
    apply QL.op; exact Guard.none; rfl; rfl; apply Pev.nil_ptr; rfl; exact yes
    apply qfa; rfl; rfl; rfl
    apply qld; rfl; rfl; exact .head _; rfl; rfl
    apply qmv; rfl; rfl
    with_reducible apply QL.tail
    apply OL.mapPut; rfl; rfl; rfl; rfl; apply Hole.s; apply Hole.s; apply Hole.s; apply Hole.z; assumption
    apply OL.nil
    with_reducible apply At.next
    apply W.seq
    apply W.reg
    apply omv; rfl; rfl
    apply omv; rfl; rfl
    have hbk1 := hbk.1
    refine OL.fact (φ := f2 bk = none) (fun w' hw' => hw'.nd_fresh) (fun hfr => ?_)
    obtain ⟨_, c3, x3, hx3, hc3, hb3, hs3⟩ := hs2.put (k := k) (v := v) hno2 hfr (by omega) (by omega)
    refine OL.cls (C' := Cls (SI room r sb mb (fset f2 bk ⟨k, v, none, none⟩) (m2 ++ [(k, Value.pointer (some ⟨bk, 0, none⟩))]) (sumL (kvs E2) : Nat) (row w.heap.size O q evs.length c 9 1 (strs evs) :: H)) (w :: S)) (fun w' hw' => Cls.nd_new (nd := ⟨k, v, none, none⟩) hw') ?_
    refine OL.callE (α := Unit) (fun _ => .tuple #[]) (fun _ => True) (fun _ => Cls (SI room r sb mb (ffrontF (fset f2 bk ⟨k, v, none, none⟩) r c3 bk) (m2 ++ [(k, Value.pointer (some ⟨bk, 0, none⟩))]) (sumL (kvs E2) : Nat) (row w.heap.size O q evs.length c 9 1 (strs evs) :: H)) (w :: S)) rfl rfl (by (repeat (first | exact Args.nil | (apply Args.cons rfl; ((first | exact fun _ => rfl | exact fun h => h | (intro h; simp_all; done))))))) (fun w2 hw2 => (front_calls room r sb mb bk c3 x3 _ _ _ _ _ w2 hx3 hc3 hb3 hw2).mono fun _ w' h => ⟨(), h.1, trivial, h.2⟩) ?_
    intro _ _
    simp only [SI]
    apply OL.nil
    with_reducible apply At.next
    apply W.seq
    apply W.reg
    apply omv; rfl; rfl
    apply OL.op; exact Guard.none; rfl; rfl; apply Pev.nil_ptr; rfl; exact yes
    apply ofa; rfl; rfl; rfl
    apply old; rfl; rfl; exact .tail _ (.head _); rfl; rfl
    apply omv; rfl; rfl
    apply OL.op; exact Guard.none; rfl; rfl; apply Pev.len_str; rfl; exact yes; rfl
    apply omv; rfl; rfl
    apply OL.op; exact Guard.none; rfl; rfl; apply Pev.len_str; rfl; exact yes; rfl
    apply obn; rfl; rfl; rfl; apply Bin.add_in; omega
    apply obn; rfl; rfl; rfl; apply Bin.add_in; omega
    apply OL.op; exact Guard.none; rfl; rfl; apply Pev.nil_ptr; rfl; exact yes
    apply ofa; rfl; rfl; rfl
    apply OL.storeB; rfl; rfl; exact CellsL.one rfl; rfl; rfl; rfl; apply Swap.s; apply Swap.z; apply Put.skip; apply Put.here; apply Over.cons; apply Over.nil
    apply OL.nil
    with_reducible apply At.next
    apply W.seq
    apply W.reg
    apply omv; rfl; rfl
    apply oas; rfl; rfl
    apply oas; rfl; rfl
    apply OL.nil
    with_reducible apply At.next
    apply W.ret
    ((with_reducible apply At.fin2); rfl; rfl; rfl; intro w' hw')
    refine ⟨_, _, E2 ++ [⟨bk, k, v⟩], ⟨q, c, O⟩, by simp, by simp [kvs_append]; rfl, hs3, ?_⟩
    have h4 : ((sumL (kvs (E2 ++ [⟨bk, k, v⟩])) : Nat) : Int) = (sumL (kvs E2) : Nat) + ((k.size : Int) + v.size) := by
      rw [kvs_append, sumL_append]
      show ((_ + (k.size + v.size + 0) : Nat) : Int) = _
      omega
    rw [h4]
    simp only [List.append_nil]
    exact hw'.forget fun s hs => .tail _ hs
end Go.Proofs.Ytlcclcakdfmgkaa.st
