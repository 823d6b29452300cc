/- The walk of the law StoreScript. Conditions: none. -/
import Derived.Test.YtlcclcakdfmgkaaStU
namespace Go.Proofs.Ytlcclcakdfmgkaa.st
open Go.RowKit Go.Eng Go.St
set_option linter.unusedVariables false
set_option linter.unusedSimpArgs false
set_option maxRecDepth 100000

theorem AllLe.up {B : Nat} : ∀ {S : List World} {k : Nat}, AllLe S B → B ≤ k → AllLe S k
  | [], _, _, _ => trivial
  | s :: S, k, h, hk => ⟨Nat.le_trans h.1 hk, AllLe.up h.2 hk⟩
theorem Cls.noStore {B room r sb mb : Nat} {f : NdT} {m : MP} {E : List En} {u : Int} {H : List Eng.Item} {S : List World} {w : World} (h : Cls (SI room r sb mb f m u H) S w) (hs : SOK B room r f m E) (hS : AllLe S B) (h1 : B ≤ sb) (h2 : B ≤ mb) : Cls H S w :=
  h.thin (Thin.any (fun k hk => by
    have hk' : (f k).isSome = true := hk
    rcases Nat.lt_or_ge k B with hlt | hge
    · rw [hs.low k hlt] at hk'; cases hk'
    · exact AllLe.up hS hge) (Thin.blk (AllLe.up hS h1) (Thin.any (fun k hk => by
      have hk' : k = mb := hk
      subst hk'; exact AllLe.up hS h2) Thin.same)))
theorem NotOwned.of : ∀ {L : List Eng.Item} {k : Nat}, (∀ i ∈ L, ¬ i.own k) → NotOwned L k
  | [], _, _ => .nil
  | i :: L, k, h => .any (h i (.head _)) (NotOwned.of fun j hj => h j (.tail _ hj))
theorem Cls.plusL {H L : List Eng.Item} {S : List World} {w2 w3 : World} (h : Cls H S w2) (hc : Cls L [w2] w3) (ho : ∀ i ∈ L, ∀ k, i.own k → w2.heap.size ≤ k) : Cls (L ++ H) S w3 := by
  have he : Ext w2 w3 := hc.toExt (.head _) (fun k hk => NotOwned.of fun i hi hm => by have := ho i hi k hm; omega)
  have h' := h.ext he
  refine ⟨fun i hi => ?_, fun i hi => ?_, List.pairwise_append.2 ⟨hc.dj, h'.dj, fun i hi j hj k hk hk' => ?_⟩, fun s hs => (h'.kp s hs).mono fun k _ ⟨j, hj, x⟩ => ⟨j, List.mem_append.2 (.inr hj), x⟩⟩
  · rcases List.mem_append.1 hi with hi | hi
    · exact hc.holds i hi
    · exact h'.holds i hi
  · rcases List.mem_append.1 hi with hi | hi
    · exact hc.lt i hi
    · exact h'.lt i hi
  · have := ho i hi k hk
    have := h.lt j hj k hk'
    omega
/-- the reference's list behind a call that gives it anew, or as it was -/
theorem ref_step {B c : Nat} {room r sb mb : Nat} {f : NdT} {m : MP} {u : Int} {q : Option Addr} {R R' : PR} {O : Nat → Prop} {H : List Eng.Item} {S : List World} {w2 w3 : World} {y : RQ}
    (hw2 : Cls (SI room r sb mb f m u (row B O q R.length c 45 2 (cat pc R) :: H)) S w2) (hB : B ≤ w2.heap.size) (hS : AllLe S B)
    (hp : (y.q = q ∧ y.c = c ∧ R' = R ∧ Ext w2 w3) ∨ Cls [row w2.heap.size y.O y.q R'.length y.c 45 2 (cat pc R')] [w2] w3) :
    ∃ O', Cls (SI room r sb mb f m u (row B O' y.q R'.length y.c 45 2 (cat pc R') :: H)) S w3 := by
  rcases hp with ⟨h1, h2, rfl, hx⟩ | hc
  · rw [h1, h2]
    exact ⟨O, hw2.ext hx⟩
  · have h1 := Cls.row_base (B' := B) (Cls.plusL hw2 hc (fun i hi k hk => by rw [List.mem_singleton] at hi; subst hi; exact hk.1)) hB
    exact ⟨_, (Cls.in3 h1).thin (.keep (.keep (.keep (.keep (Thin.row hS Thin.same)))))⟩
def Jn {G : Type} (n : Nat) (Q : Exit → Act → World → Prop) (Φ : G → Prop) (lg : G → Env) (Cg : G → World → Prop) : Exit → Act → World → Prop := fun e a w => match e with
  | .normal => ∃ g, Φ g ∧ Sees n (lg g) a ∧ Cg g w
  | e => Q e a w
theorem W.joing {P : Program} {n : Nat} {l : Env} {C : World → Prop} {Q : Exit → Act → World → Prop} {G : Type} {code : Code} (Φ : G → Prop) (lg : G → Env) (Cg : G → World → Prop) (h1 : W P n code (Jn n Q Φ lg Cg) l C) (h2 : ∀ g, Φ g → At n Q .normal (lg g) (Cg g)) : W P n code Q l C :=
  ⟨fun a w hs hc => wp_mono (h1.run a w hs hc) fun e a' w' hq => by
    cases e with
    | normal =>
      obtain ⟨g, hg, hs', hc'⟩ := hq
      exact (h2 g hg).run a' w' hs' hc'
    | _ => exact hq⟩
theorem At.joing {n : Nat} {l : Env} {C : World → Prop} {Q : Exit → Act → World → Prop} {G : Type} {Φ : G → Prop} {lg : G → Env} {Cg : G → World → Prop} (g : G) (hg : Φ g) (hs : Sub l (lg g)) (hc : ∀ w, C w → Cg g w) : At n (Jn n Q Φ lg Cg) .normal l C := ⟨fun a w s c => ⟨g, hg, s.sub hs, hc w c⟩⟩
theorem ev_len (room need : Nat) : ∀ (L : PR), (ev room need L).1.length ≤ L.length
  | [] => Nat.le_refl _
  | p :: L => by
    have ih := ev_len room need L
    rw [ev]
    split
    · simp only [List.length_cons]; omega
    · exact Nat.zero_le _
structure XL where
  y23 : RQ
  old : Nat → Value
theorem Cls.in3n {H : List Eng.Item} {S : List World} {w : World} {a b c : Eng.Item} (h : Cls (a :: b :: c :: H) S w) : Cls (a :: b :: c :: nothing :: H) S w := Cls.in3 h.nothing_cons
structure JG where
  f : NdT
  m : MP
  E : List En
  y : RQ
  err : Int
  s : BA
  evs : List BA
  y1 : RQ
  y2 : RQ
structure SX where
  r : Nat
  sb : Nat
  mb : Nat
  f : NdT
  B : Nat
structure LG where
  i : Nat
  f : NdT
  m : MP
  E : List En
  y : RQ
theorem law_calls (room : Int) (q : Option Addr) (cap : Nat) (l : List BA) (w : World) (hlen : l.length ≤ 9223372036854775807) (hsz : ∀ u ∈ l, u.size ≤ 9223372036854775807) (h : SlAt w w.heap.size q (strs l)) :
    Calls Try.prog 3 #[.int .i64 room, .slice q l.length cap] w fun e w' => e = .returned (.bool true) ∧ Ext w w' := by
  refine enter Try.func3 rfl Try.ntmps3 rfl (Cls.start w) ?_
  (simp only [argEnv, Nat.zero_add, Nat.reduceAdd])
  apply W.seq
  apply W.reg
  apply oas; rfl; rfl
  apply OL.nil
  with_reducible apply At.next
  apply W.seq
  apply W.seq
  apply W.reg
  refine OL.callE (α := SX) (fun x => .tuple #[.pointer (some ⟨x.sb, 0, none⟩), .int .i64 0]) (fun x => w.heap.size ≤ x.B ∧ x.B ≤ x.sb ∧ x.B ≤ x.mb ∧ SOK x.B 4 x.r x.f [] []) (fun x => Cls (SI 4 x.r x.sb x.mb x.f [] 0 []) [w]) rfl rfl (by (repeat (first | exact Args.nil | (apply Args.cons rfl; ((first | exact fun _ => rfl | exact fun h => h | (intro h; simp_all; done)))))))
    (fun w2 hw2 => (New_calls 4 [w] [] w2 (by decide) hw2).mono fun e w3 ⟨r, sb, mb, f, h1, h2, he, hs, hc⟩ => ⟨⟨r, sb, mb, f, w2.heap.size⟩, he, ⟨(hw2.kp w (by (repeat (first | exact List.Mem.head _ | apply List.Mem.tail)))).size, h1, h2, hs⟩, hc⟩) ?_
  rintro ⟨r0, sb0, mb0, f0, B0⟩ ⟨hB, hsb, hmb, hs0⟩
  simp only at hB hsb hmb hs0 ⊢
  apply omv; rfl; rfl
  apply oex; rfl; rfl; rfl
  apply oex; rfl; rfl; rfl
  apply oas; rfl; rfl
  apply oas; rfl; rfl
  apply OL.nil
  with_reducible apply At.next
  apply W.seq
  apply W.reg
  apply omv; rfl; rfl
  apply obn; rfl; rfl; rfl; apply Bin.neq
  apply omv; rfl; rfl
  apply OL.op; exact Guard.no rfl rfl; rfl; rfl; apply Pev.move; rfl; exact yes
  refine OL.ungate (Guard.no rfl rfl) rfl ?_
  refine OL.callE (α := Unit) (fun _ => .int .i64 0) (fun _ => True) (fun _ => Cls (SI 4 r0 sb0 mb0 f0 [] 0 []) [w]) rfl rfl (by (repeat (first | exact Args.nil | (apply Args.cons rfl; ((first | exact fun _ => rfl | exact fun h => h | (intro h; simp_all; done))))))) (fun w2 hw2 => (Used_calls 4 r0 sb0 mb0 f0 [] 0 [] [w] w2 hw2).mono fun e w3 h => ⟨(), h.1, trivial, h.2⟩) ?_
  intro _ _
  apply OL.op; exact Guard.no rfl rfl; rfl; rfl; apply Pev.bin; rfl; exact yes; rfl; exact yes; intro hcond; apply Bin.neq
  apply OL.op; exact Guard.none; rfl; rfl; apply Pev.pick_or; rfl; exact yes; rfl; exact yes
  apply omv; rfl; rfl
  apply OL.op; exact Guard.no rfl rfl; rfl; rfl; apply Pev.move; rfl; exact yes
  refine OL.ungate (Guard.no rfl rfl) rfl ?_
  refine OL.callE (α := Unit) (fun _ => .int .i64 12) (fun _ => True) (fun _ => Cls [] [w]) rfl rfl (by (repeat (first | exact Args.nil | (apply Args.cons rfl; ((first | exact fun _ => rfl | exact fun h => h | (intro h; simp_all; done))))))) (fun w2 hw2 => (Drop_calls B0 4 r0 sb0 mb0 f0 [] [] ⟨#[97]⟩ [] [w] w2 (by decide) hs0 hw2).mono fun e w3 ⟨f', m', E', he, hk, hs', hc'⟩ => ⟨(), he, trivial, Cls.noStore hc' hs' ⟨hB, trivial⟩ hsb hmb⟩) ?_
  intro _ _
  apply OL.op; exact Guard.no rfl rfl; rfl; rfl; apply Pev.bin; rfl; exact yes; rfl; exact yes; intro hcond; apply Bin.neq
  apply OL.op; exact Guard.none; rfl; rfl; apply Pev.pick_or; rfl; exact yes; rfl; exact yes
  apply OL.nil
  with_reducible apply At.next
  refine W.cond rfl (fun h2 => ?_) (fun _ => ?_)
  · exfalso; simp at h2
  apply W.skip
  with_reducible apply At.next
  apply W.seq
  apply W.seq
  apply W.reg
  apply omv; rfl; rfl
  apply obn; rfl; rfl; rfl; apply Bin.lss
  apply omv; rfl; rfl
  apply OL.op; exact Guard.no rfl rfl; rfl; rfl; apply Pev.move; rfl; exact yes
  apply OL.op; exact Guard.no rfl rfl; rfl; rfl; apply Pev.bin; rfl; exact fun h => h; rfl; exact yes; intro hcond; apply Bin.gtr
  apply OL.op; exact Guard.none; rfl; rfl; apply Pev.pick_or; rfl; exact yes; rfl; exact fun h => h
  apply OL.nil
  with_reducible apply At.next
  refine W.cond rfl (fun h2 => ?_) (fun h2 => ?_)
  · have hbad : room < 0 ∨ 16777216 < room := by simpa using h2
    apply W.seq
    apply W.reg
    apply omv; rfl; rfl
    refine OL.callE (α := Unit) (fun _ => .tuple #[.pointer none, .int .i64 4]) (fun _ => True) (fun _ => Cls [] [w]) rfl rfl (by (repeat (first | exact Args.nil | (apply Args.cons rfl; ((first | exact fun _ => rfl | exact fun h => h | (intro h; simp_all; done))))))) (fun w2 hw2 => (New_bad room [w] [] w2 hbad hw2).mono fun e w3 h => ⟨(), h.1, trivial, h.2⟩) ?_
    intro _ _
    apply omv; rfl; rfl
    apply oex; rfl; rfl; rfl
    apply oex; rfl; rfl; rfl
    apply oas; rfl; rfl
    apply oas; rfl; rfl
    apply OL.nil
    with_reducible apply At.next
    apply W.seq
    apply W.reg
    apply omv; rfl; rfl
    apply obn; rfl; rfl; rfl; apply Bin.ptr_nil; rfl
    apply omv; rfl; rfl
    apply OL.op; exact Guard.yes rfl rfl; rfl; rfl; apply Pev.move; rfl; exact yes
    apply OL.op; exact Guard.yes rfl rfl; rfl; rfl; apply Pev.bin; rfl; exact yes; rfl; exact yes; intro hcond; apply Bin.eql
    apply OL.op; exact Guard.none; rfl; rfl; apply Pev.pick_and; rfl; exact yes; rfl; exact yes
    apply oas; rfl; rfl
    apply OL.nil
    with_reducible apply At.next
    apply W.ret
    with_reducible apply At.then_ret
    ((with_reducible apply At.fin1); rfl; rfl; intro w' hw')
    exact ⟨rfl, by (exact hw'.toExt (by (repeat (first | exact List.Mem.head _ | apply List.Mem.tail))) (fun k hk => by (focus ((try simp only [add_block]); (repeat (first | exact NotOwned.nil | exact hno _ (by omega) | refine NotOwned.nothing ?_ | refine NotOwned.nds (hlow _ (by omega)) ?_ | refine NotOwned.mapS (by omega) ?_ | apply NotOwned.bif | refine NotOwned.blk (by omega) ?_ | refine NotOwned.row (by omega) ?_ | refine NotOwned.grid (by assumption) (by omega) ?_)); done))))⟩
  have hgood : 0 ≤ room ∧ room ≤ 16777216 := by
    simp only [Bool.or_eq_false_iff, decide_eq_false_iff_not, Bool.or_eq_true, decide_eq_true_eq] at h2
    omega
  clear h2
  obtain ⟨rm, rfl⟩ : ∃ n : Nat, room = (n : Int) := ⟨room.toNat, (Int.toNat_of_nonneg hgood.1).symm⟩
  have hrm : rm ≤ 16777216 := by omega
  clear hs0 hB hsb hmb hgood
  apply W.skip
  with_reducible apply At.next
  apply W.seq
  apply W.reg
  apply omv; rfl; rfl
  refine OL.callE (α := SX) (fun x => .tuple #[.pointer (some ⟨x.sb, 0, none⟩), .int .i64 0]) (fun x => w.heap.size ≤ x.B ∧ x.B ≤ x.sb ∧ x.B ≤ x.mb ∧ SOK x.B rm x.r x.f [] []) (fun x => Cls (SI rm x.r x.sb x.mb x.f [] 0 []) [w]) rfl rfl (by (repeat (first | exact Args.nil | (apply Args.cons rfl; ((first | exact fun _ => rfl | exact fun h => h | (intro h; simp_all; done)))))))
    (fun w2 hw2 => (New_calls rm [w] [] w2 hrm hw2).mono fun e w3 ⟨r, sb, mb, f, h1, h2, he, hs, hc⟩ => ⟨⟨r, sb, mb, f, w2.heap.size⟩, he, ⟨(hw2.kp w (by (repeat (first | exact List.Mem.head _ | apply List.Mem.tail)))).size, h1, h2, hs⟩, hc⟩) ?_
  rintro ⟨r, sb, mb, f1, B⟩ ⟨hB, hsb, hmb, hs1⟩
  simp only at hB hsb hmb hs1 ⊢
  apply omv; rfl; rfl
  apply oex; rfl; rfl; rfl
  apply oex; rfl; rfl; rfl
  apply oas; rfl; rfl
  apply oas; rfl; rfl
  apply OL.nil
  with_reducible apply At.next
  apply W.seq
  apply W.reg
  apply omv; rfl; rfl
  apply OL.op; exact Guard.none; rfl; rfl; apply Pev.build; rfl; exact CellsL.agg; rfl; apply Fill.cons rfl; exact CellsL.one rfl; rfl; rfl; apply Put.here; apply Over.cons; apply Over.nil; apply Fill.nil; rfl
  apply OL.alloc; rfl; rfl; exact CellsL.agg; (intro bk hbk; simp only [AllLe, and_true] at hbk)
  apply OL.storeB; rfl; rfl; exact CellsL.agg; rfl; rfl; rfl; apply Swap.z; apply Put.here; apply Over.cons; apply Over.cons; apply Over.nil
  apply OL.nil
  with_reducible apply At.next
  apply W.seq
  apply W.seq
  apply W.reg
  apply omv; rfl; rfl
  apply OL.op; exact Guard.none; rfl; rfl; apply Pev.len_slice; rfl; exact yes; rfl
  apply omv; rfl; rfl
  apply OL.nil
  with_reducible apply At.next
  apply W.block
  revert bk
  intro b11 hb11
  refine W.loop (G := LG) (fun g => g.i ≤ l.length ∧ SOK B rm r g.f g.m g.E ∧ One (kvs g.E)) (fun g => l.length - g.i)
    (fun g => [(9, true, .pointer (some ⟨sb, 0, none⟩)), (11, true, .pointer (some ⟨b11, 0, none⟩)), (64, true, .slice q l.length cap), (65, true, .int .i64 (l.length : Int)), (66, true, .int .i64 (g.i : Int))])
    (fun g => Cls (SI rm r sb mb g.f g.m (sumL (kvs g.E) : Nat) [row w.heap.size g.y.O g.y.q (kvs g.E).reverse.length g.y.c 45 2 (cat pc (kvs g.E).reverse), blk b11 31 [.int .i64 (rm : Int), .slice g.y.q (kvs g.E).reverse.length g.y.c]]) [w]) ⟨0, f1, [], [], none, 0, fun _ => False⟩ ⟨Nat.zero_le _, hs1, fun p hp => (by cases hp)⟩ (by (repeat (first | exact Sub.nil | apply Sub.cons rfl))) (fun w' hw' => ?_) ?_
  · have h1 := hw'.row_nil w.heap.size 45 2
    exact h1.perm (List.perm_append_comm (l₁ := [_, _]) (l₂ := [_, _, _]))
  rintro ⟨i, f, m, E, y⟩ ⟨hi, hs, hone⟩
  simp only at hi hs hone
  simp only [SI]
  have hlow : ∀ k, k < w.heap.size → f k = none := fun k hk => hs.low k (by omega)
  apply W.seq
  apply W.reg
  apply obn; rfl; rfl; rfl; apply Bin.lss
  apply OL.nil
  with_reducible apply At.next
  apply W.seq
  (refine W.cond rfl (fun hlt => ?_) (fun hlt => ?_)) <;> (try (simp only [Bool.and_eq_true, Bool.or_eq_true, Bool.not_eq_true', Bool.and_eq_false_iff, Bool.or_eq_false_iff, Bool.not_eq_false', decide_eq_true_eq, decide_eq_false_iff_not, Int.not_lt, Int.not_le] at hlt)) <;> (try (exfalso; first | omega | exact hlt trivial | contradiction))
  · obtain ⟨a, u, rfl, hab, hu, hcell⟩ := str_at h (show i < l.length by omega)
    have husz := hsz u (List.mem_of_getElem? hu)
    apply W.skip
    with_reducible apply At.next
    apply W.seq
    apply W.block
    apply W.seq
    apply W.reg
    apply OL.op; exact Guard.none; rfl; rfl; apply Pev.idx; rfl; exact yes; rfl; exact yes; rfl; rfl; intro hcond; omega
    apply OL.op; exact Guard.none; rfl; rfl; apply Pev.load_kept; rfl; exact yes; exact .head _; rfl; intro hcond; assumption; intro hcond; (rw [add_block]; assumption); intro hcond; simp only [add_block]; refine NotOwned.nds (hlow _ (by omega)) ?_; refine NotOwned.blk (by omega) ?_; refine NotOwned.mapS (by omega) ?_; refine NotOwned.row (by omega) ?_; refine NotOwned.blk (by omega) ?_; exact NotOwned.nil
    apply oas; rfl; rfl
    apply OL.nil
    with_reducible apply At.next
    apply W.seq
    apply W.seq
    apply W.reg
    apply omv; rfl; rfl
    apply OL.op; exact Guard.none; rfl; rfl; apply Pev.len_str; rfl; exact yes; rfl
    apply obn; rfl; rfl; rfl; apply Bin.lss
    apply OL.nil
    with_reducible apply At.next
    (refine W.cond rfl (fun hlen2 => ?_) (fun hlen2 => ?_)) <;> (try (simp only [Bool.and_eq_true, Bool.or_eq_true, Bool.not_eq_true', Bool.and_eq_false_iff, Bool.or_eq_false_iff, Bool.not_eq_false', decide_eq_true_eq, decide_eq_false_iff_not, Int.not_lt, Int.not_le] at hlen2)) <;> (try (exfalso; first | omega | exact hlen2 trivial | contradiction))
    · apply W.exit
      with_reducible apply At.then_exit
      with_reducible apply At.in_exit
      with_reducible apply At.next
      apply W.reg
      apply obn; rfl; rfl; rfl; apply Bin.add_in; omega
      apply omv; rfl; rfl
      apply OL.nil
      exact At.again ⟨i + 1, f, m, E, y⟩ ⟨by simp only; omega, hs, hone⟩ (by simp only; omega) (by (repeat (first | exact Sub.nil | apply Sub.cons rfl))) (fun w' hw' => hw')
    · apply W.skip
      with_reducible apply At.next
      apply W.seq
      apply W.regd0; decide +kernel; kernel_rfl; decide +kernel; exact fun w hw => hw.drew
      apply qmv; rfl; rfl
      (((first | (with_reducible apply OL.op) | (with_reducible apply QL.op)); ((first | exact Guard.none | exact Guard.yes rfl rfl | exact Guard.no rfl rfl | exact Guard.cyes rfl rfl | exact Guard.cno rfl rfl)); rfl; rfl); (apply Pev.slice_str (s := u) 1 2); rfl; ((first | exact fun _ => rfl | exact fun h => h | (intro h; simp_all; done))); rfl; ((first | exact fun _ => rfl | exact fun h => h | (intro h; simp_all; done))); rfl; ((first | exact fun _ => rfl | exact fun h => h | (intro h; simp_all; done))); rfl; (intro _; exact ⟨rfl, rfl, by decide, by omega⟩))
      apply qmv; rfl; rfl
      (((first | (with_reducible apply OL.op) | (with_reducible apply QL.op)); ((first | exact Guard.none | exact Guard.yes rfl rfl | exact Guard.no rfl rfl | exact Guard.cyes rfl rfl | exact Guard.cno rfl rfl)); rfl; rfl); (apply Pev.slice_str_lo (s := u) 2); rfl; ((first | exact fun _ => rfl | exact fun h => h | (intro h; simp_all; done))); rfl; ((first | exact fun _ => rfl | exact fun h => h | (intro h; simp_all; done))); rfl; (intro _; exact ⟨rfl, by omega⟩))
      obtain ⟨k, hk⟩ : ∃ k, k = u.extract 1 2 := ⟨_, rfl⟩
      obtain ⟨v, hv⟩ : ∃ v, v = u.extract 2 u.size := ⟨_, rfl⟩
      have hk1 : k.size = 1 := by rw [hk, ByteArray.size_extract]; omega
      have hv1 : (v.size : Int) + 2 ≤ 9223372036854775807 := by rw [hv, ByteArray.size_extract]; omega
      rw [← hk, ← hv]
      clear hk hv
      have hEl : (kvs E).length = E.length := by simp [kvs]
      have hEs := hone.len
      have hsum := hs.sum
      have hrev : sumL (kvs E).reverse = sumL (kvs E) := sumL_reverse _
      have hrl : (kvs E).reverse.length = (kvs E).length := List.length_reverse
      have hnd : ((kvs E).map Prod.fst).Nodup := by
        have := hs.ks
        rw [kvs, List.map_map]; exact this
      apply qas; rfl; rfl
      apply qas; rfl; rfl
      apply QL.nil
      with_reducible apply At.next
      apply W.seq
      apply W.reg
      apply oas; rfl; rfl
      apply oas; rfl; rfl
      apply OL.nil
      with_reducible apply At.next
      apply W.seq
      apply W.reg
      apply oas; rfl; rfl
      apply oas; rfl; rfl
      apply OL.nil
      with_reducible apply At.next
      apply W.seq
      apply W.reg
      apply oas; rfl; rfl
      apply oas; rfl; rfl
      apply OL.nil
      with_reducible apply At.next
      apply W.seq
      apply W.seq
      apply W.reg
      apply omv; rfl; rfl
      apply OL.op; exact Guard.none; rfl; rfl; apply Pev.index_str; rfl; exact yes; rfl; exact yes; rfl; (intro hcond; refine ⟨rfl, ?_⟩); (simp only [Bool.and_eq_true, Bool.or_eq_true, Bool.not_eq_true', decide_eq_true_eq, decide_eq_false_iff_not] at *; omega)
      apply obn; rfl; rfl; rfl; apply Bin.rem; omega
      apply OL.nil
      with_reducible apply At.next
      apply W.block
      apply W.seq
      apply W.reg
      apply obn; rfl; rfl; rfl; apply Bin.eql
      apply oas; rfl; rfl
      apply OL.nil
      with_reducible apply At.next
      refine W.joing (G := JG) (fun g => SOK B rm r g.f g.m g.E ∧ One (kvs g.E) ∧ g.evs.length ≤ 16777216)
        (fun g => [(9, true, .pointer (some ⟨sb, 0, none⟩)), (11, true, .pointer (some ⟨b11, 0, none⟩)), (64, true, .slice (some a) l.length cap), (65, true, .int .i64 (l.length : Int)), (66, true, .int .i64 (i : Int)), (16, true, .int .i64 g.err), (17, true, .int .i64 g.err), (20, true, .string g.s), (21, true, .string g.s), (18, true, .slice g.y1.q g.evs.length g.y1.c), (19, true, .slice g.y2.q g.evs.length g.y2.c)])
        (fun g => Cls (SI rm r sb mb g.f g.m (sumL (kvs g.E) : Nat) [row w.heap.size g.y.O g.y.q (kvs g.E).reverse.length g.y.c 45 2 (cat pc (kvs g.E).reverse), blk b11 31 [.int .i64 (rm : Int), .slice g.y.q (kvs g.E).reverse.length g.y.c], row w.heap.size g.y1.O g.y1.q g.evs.length g.y1.c 9 1 (strs g.evs), row w.heap.size g.y2.O g.y2.q g.evs.length g.y2.c 9 1 (strs g.evs)]) [w]) ?_ ?_
      · refine W.cond rfl (fun _ => ?_) (fun _ => ?_)
        · -- Get
          apply W.seq
          apply W.reg
          apply omv; rfl; rfl
          apply omv; rfl; rfl
          refine OL.callE (α := NdT × List En) (fun _ => .tuple #[.string (getS (kvs E) k).2.1, .int .i64 (getS (kvs E) k).2.2]) (fun x => kvs x.2 = (getS (kvs E) k).1 ∧ SOK B rm r x.1 m x.2) (fun x => Cls (SI rm r sb mb x.1 m (sumL (kvs x.2) : Nat) [row w.heap.size y.O y.q (kvs E).reverse.length y.c 45 2 (cat pc (kvs E).reverse), blk b11 31 [.int .i64 (rm : Int), .slice y.q (kvs E).reverse.length y.c]]) [w]) rfl rfl (by (repeat (first | exact Args.nil | (apply Args.cons rfl; ((first | exact fun _ => rfl | exact fun h => h | (intro h; simp_all; done)))))))
            (fun w2 hw2 => (Get_calls B rm r sb mb f m E k _ _ w2 hrm hs hw2).mono fun e w3 ⟨f', E', he, hk', hs', hc'⟩ => ⟨(f', E'), he, ⟨hk', hs'⟩, hc'⟩) ?_
          rintro ⟨f2, E2⟩ ⟨hk2, hs2⟩
          simp only at hk2 hs2
          simp only [SI]
          apply omv; rfl; rfl
          apply oex; rfl; rfl; rfl
          apply oex; rfl; rfl; rfl
          apply oas; rfl; rfl
          apply oas; rfl; rfl
          apply OL.nil
          with_reducible apply At.next
          apply W.reg
          apply OL.op; exact Guard.none; rfl; rfl; apply Pev.load_blkA; rfl; exact yes; apply List.Mem.tail; apply List.Mem.tail; exact .tail _ (.tail _ (.head _)); rfl; apply Take.succ; apply Take.succ; apply Take.zero
          apply omv; rfl; rfl
          have hrg := rget_rev (kvs E) k hnd
          refine OL.callE (α := RQ) (fun z => .tuple #[.agg #[.int .i64 (rm : Int), .slice z.q (rget (kvs E).reverse k).1.length z.c], .string (rget (kvs E).reverse k).2.1, .int .i64 (rget (kvs E).reverse k).2.2]) (fun _ => True) (fun z => Cls (SI rm r sb mb f2 m (sumL (kvs E2) : Nat) [row w.heap.size z.O z.q ((rget (kvs E).reverse k).1).length z.c 45 2 (cat pc ((rget (kvs E).reverse k).1)), blk b11 31 [.int .i64 (rm : Int), .slice y.q (kvs E).reverse.length y.c]]) [w]) rfl rfl (by (repeat (first | exact Args.nil | (apply Args.cons rfl; ((first | exact fun _ => rfl | exact fun h => h | (intro h; simp_all; done)))))))
            (fun w2 hw2 => (RGet_calls (rm : Int) y.q y.c (kvs E).reverse k w2 (by omega) (SlAt.of_row (hw2.item (.tail _ (.tail _ (.tail _ (.head _))))))).mono fun e w3 ⟨z, he, hp⟩ => ?_) ?_
          · obtain ⟨O', hc'⟩ := ref_step hw2 (hw2.kp w (by (repeat (first | exact List.Mem.head _ | apply List.Mem.tail)))).size ⟨Nat.le_refl _, trivial⟩ hp
            exact ⟨⟨z.q, z.c, O'⟩, he, trivial, hc'⟩
          intro z _
          rw [hrg]
          simp only [SI]
          rw [← hk2]
          apply omv; rfl; rfl
          apply oex; rfl; rfl; rfl
          apply oex; rfl; rfl; rfl
          apply oex; rfl; rfl; rfl
          apply OL.storeB; rfl; rfl; exact CellsL.agg; rfl; rfl; rfl; apply Swap.s; apply Swap.s; apply Swap.s; apply Swap.s; apply Swap.z; apply Put.here; apply Over.cons; apply Over.cons; apply Over.nil
          apply oas; rfl; rfl
          apply oas; rfl; rfl
          apply OL.nil
          refine At.joing ⟨f2, m, E2, z, (getS (kvs E) k).2.2, (getS (kvs E) k).2.1, [], ⟨none, 0, fun _ => False⟩, ⟨none, 0, fun _ => False⟩⟩ ⟨hs2, by simp only; rw [hk2]; exact hone.get hk1, Nat.zero_le _⟩ (by (repeat (first | exact Sub.nil | apply Sub.cons rfl))) (fun w' hw' => ?_)
          exact ((hw'.row_nil w.heap.size 9 1).row_nil w.heap.size 9 1).perm (List.perm_append_comm (l₁ := [_, _]) (l₂ := [_, _, _, _, _]))
        · apply W.seq
          apply W.reg
          apply obn; rfl; rfl; rfl; apply Bin.eql
          apply oas; rfl; rfl
          apply OL.nil
          with_reducible apply At.next
          refine W.cond rfl (fun _ => ?_) (fun _ => ?_)
          · -- Drop
            apply W.seq
            apply W.reg
            apply omv; rfl; rfl
            apply omv; rfl; rfl
            refine OL.callE (α := NdT × MP × List En) (fun _ => .int .i64 (dropS (kvs E) k).2) (fun x => kvs x.2.2 = (dropS (kvs E) k).1 ∧ SOK B rm r x.1 x.2.1 x.2.2) (fun x => Cls (SI rm r sb mb x.1 x.2.1 (sumL (kvs x.2.2) : Nat) [row w.heap.size y.O y.q (kvs E).reverse.length y.c 45 2 (cat pc (kvs E).reverse), blk b11 31 [.int .i64 (rm : Int), .slice y.q (kvs E).reverse.length y.c]]) [w]) rfl rfl (by (repeat (first | exact Args.nil | (apply Args.cons rfl; ((first | exact fun _ => rfl | exact fun h => h | (intro h; simp_all; done)))))))
              (fun w2 hw2 => (Drop_calls B rm r sb mb f m E k _ _ w2 hrm hs hw2).mono fun e w3 ⟨f', m', E', he, hk', hs', hc'⟩ => ⟨(f', m', E'), he, ⟨hk', hs'⟩, hc'⟩) ?_
            rintro ⟨f2, m2, E2⟩ ⟨hk2, hs2⟩
            simp only at hk2 hs2
            simp only [SI]
            apply oas; rfl; rfl
            apply OL.nil
            with_reducible apply At.next
            apply W.reg
            apply OL.op; exact Guard.none; rfl; rfl; apply Pev.load_blkA; rfl; exact yes; apply List.Mem.tail; apply List.Mem.tail; exact .tail _ (.tail _ (.head _)); rfl; apply Take.succ; apply Take.succ; apply Take.zero
            apply omv; rfl; rfl
            have hrg := rdrop_rev (kvs E) k
            refine OL.callE (α := RQ) (fun z => .tuple #[.agg #[.int .i64 (rm : Int), .slice z.q (rdrop (kvs E).reverse k).1.length z.c], .int .i64 (rdrop (kvs E).reverse k).2]) (fun _ => True) (fun z => Cls (SI rm r sb mb f2 m2 (sumL (kvs E2) : Nat) [row w.heap.size z.O z.q ((rdrop (kvs E).reverse k).1).length z.c 45 2 (cat pc ((rdrop (kvs E).reverse k).1)), blk b11 31 [.int .i64 (rm : Int), .slice y.q (kvs E).reverse.length y.c]]) [w]) rfl rfl (by (repeat (first | exact Args.nil | (apply Args.cons rfl; ((first | exact fun _ => rfl | exact fun h => h | (intro h; simp_all; done)))))))
              (fun w2 hw2 => (RDrop_calls (rm : Int) y.q y.c (kvs E).reverse k w2 (by omega) (SlAt.of_row (hw2.item (.tail _ (.tail _ (.tail _ (.head _))))))).mono fun e w3 ⟨z, he, hp⟩ => ?_) ?_
            · obtain ⟨O', hc'⟩ := ref_step hw2 (hw2.kp w (by (repeat (first | exact List.Mem.head _ | apply List.Mem.tail)))).size ⟨Nat.le_refl _, trivial⟩ hp
              exact ⟨⟨z.q, z.c, O'⟩, he, trivial, hc'⟩
            intro z _
            rw [hrg]
            simp only [SI]
            rw [← hk2]
            apply omv; rfl; rfl
            apply oex; rfl; rfl; rfl
            apply oex; rfl; rfl; rfl
            apply OL.storeB; rfl; rfl; exact CellsL.agg; rfl; rfl; rfl; apply Swap.s; apply Swap.s; apply Swap.s; apply Swap.s; apply Swap.z; apply Put.here; apply Over.cons; apply Over.cons; apply Over.nil
            apply oas; rfl; rfl
            apply OL.nil
            refine At.joing ⟨f2, m2, E2, z, (dropS (kvs E) k).2, ⟨#[]⟩, [], ⟨none, 0, fun _ => False⟩, ⟨none, 0, fun _ => False⟩⟩ ⟨hs2, by simp only; rw [hk2]; exact hone.drop, Nat.zero_le _⟩ (by (repeat (first | exact Sub.nil | apply Sub.cons rfl))) (fun w' hw' => ?_)
            exact ((hw'.row_nil w.heap.size 9 1).row_nil w.heap.size 9 1).perm (List.perm_append_comm (l₁ := [_, _]) (l₂ := [_, _, _, _, _]))
          · -- Put
            apply W.seq
            apply W.reg
            apply omv; rfl; rfl
            apply omv; rfl; rfl
            apply omv; rfl; rfl
            refine OL.callE (α := NdT × MP × List En × RQ) (fun x => .tuple #[.slice x.2.2.2.q (putS rm (kvs E) k v).2.1.length x.2.2.2.c, .int .i64 (putS rm (kvs E) k v).2.2]) (fun x => kvs x.2.2.1 = (putS rm (kvs E) k v).1 ∧ SOK B rm r x.1 x.2.1 x.2.2.1) (fun x => Cls (SI rm r sb mb x.1 x.2.1 (sumL (kvs x.2.2.1) : Nat) [row w.heap.size x.2.2.2.O x.2.2.2.q ((putS rm (kvs E) k v).2.1).length x.2.2.2.c 9 1 (strs ((putS rm (kvs E) k v).2.1)), row w.heap.size y.O y.q (kvs E).reverse.length y.c 45 2 (cat pc (kvs E).reverse), blk b11 31 [.int .i64 (rm : Int), .slice y.q (kvs E).reverse.length y.c]]) [w]) rfl rfl (by (repeat (first | exact Args.nil | (apply Args.cons rfl; ((first | exact fun _ => rfl | exact fun h => h | (intro h; simp_all; done)))))))
              (fun w2 hw2 => (Put_calls B rm r sb mb f m E k v _ _ w2 hrm (by omega) (Nat.le_trans hsb (Nat.le_of_lt (blk_lt (hw2.holds _ (.tail _ (.head _)))))) (by omega) hs hw2).mono fun e w3 ⟨f', m', E', z, he, hk', hs', hc'⟩ => ⟨(f', m', E', ⟨z.q, z.c, fun k => w2.heap.size ≤ k ∧ z.O k⟩), he, ⟨hk', hs'⟩, Cls.in3 (Cls.row_base (Cls.out3 hc') (hw2.kp w (by (repeat (first | exact List.Mem.head _ | apply List.Mem.tail)))).size)⟩) ?_
            rintro ⟨f2, m2, E2, z1⟩ ⟨hk2, hs2⟩
            simp only at hk2 hs2
            simp only [SI]
            have hrg := rput_rev rm (kvs E) k v
            have hevl : (putS rm (kvs E) k v).2.1.length ≤ 16777216 := by
              have h1 := ev_len rm (k.size + v.size) (delK (kvs E) k)
              have h2 := delK_le (kvs E) k
              unfold putS
              split
              · exact Nat.zero_le _
              · show (ev rm (k.size + v.size) (delK (kvs E) k)).1.length ≤ _
                omega
            apply omv; rfl; rfl
            apply oex; rfl; rfl; rfl
            apply oex; rfl; rfl; rfl
            apply oas; rfl; rfl
            apply oas; rfl; rfl
            apply OL.nil
            with_reducible apply At.next
            apply W.reg
            apply OL.op; exact Guard.none; rfl; rfl; apply Pev.load_blkA; rfl; exact yes; apply List.Mem.tail; apply List.Mem.tail; apply List.Mem.tail; exact .tail _ (.tail _ (.head _)); rfl; apply Take.succ; apply Take.succ; apply Take.zero
            apply omv; rfl; rfl
            apply omv; rfl; rfl
            refine OL.callE (α := RQ × RQ) (fun z => .tuple #[.agg #[.int .i64 (rm : Int), .slice z.1.q (rput rm (kvs E).reverse k v).1.length z.1.c], .slice z.2.q (rput rm (kvs E).reverse k v).2.1.length z.2.c, .int .i64 (rput rm (kvs E).reverse k v).2.2]) (fun _ => True) (fun z => Cls (SI rm r sb mb f2 m2 (sumL (kvs E2) : Nat) [row w.heap.size z.1.O z.1.q ((rput rm (kvs E).reverse k v).1).length z.1.c 45 2 (cat pc ((rput rm (kvs E).reverse k v).1)), blk b11 31 [.int .i64 (rm : Int), .slice y.q (kvs E).reverse.length y.c], row w.heap.size z1.O z1.q ((putS rm (kvs E) k v).2.1).length z1.c 9 1 (strs ((putS rm (kvs E) k v).2.1)), row w.heap.size z.2.O z.2.q ((rput rm (kvs E).reverse k v).2.1).length z.2.c 9 1 (strs ((rput rm (kvs E).reverse k v).2.1))]) [w]) rfl rfl (by (repeat (first | exact Args.nil | (apply Args.cons rfl; ((first | exact fun _ => rfl | exact fun h => h | (intro h; simp_all; done)))))))
              (fun w2 hw2 => ?_) ?_
            · have hsz2 := (hw2.kp w (by (repeat (first | exact List.Mem.head _ | apply List.Mem.tail)))).size
              by_cases hbig : rm < k.size + v.size
              · have h1 : rput rm (kvs E).reverse k v = ((kvs E).reverse, [], 16) := by rw [rput, if_pos hbig]
                have h2 : putS rm (kvs E) k v = (kvs E, [], 16) := by rw [putS, if_pos hbig]
                rw [h1]
                refine (RPut_bad rm y.q y.c (kvs E).reverse k v w2 (by omega) hbig).mono fun e w3 ⟨he, hx⟩ => ⟨(y, ⟨none, 0, fun _ => False⟩), he, trivial, ?_⟩
                have h3 := (hw2.ext hx).row_nil w.heap.size 9 1
                refine h3.perm ?_
                refine (List.perm_append_comm (l₁ := [_]) (l₂ := [_, _, _, _, _, _])).trans ?_
                exact .cons _ (.cons _ (.cons _ (List.perm_append_comm (l₁ := [_]) (l₂ := [_, _]) |>.append_right [_])))
              · have h1 : (rput rm (kvs E).reverse k v).2.2 = 0 := by rw [rput, if_neg hbig]
                rw [h1]
                refine (RPut_calls rm y.q y.c (kvs E).reverse k v w2 hrm (by omega) (by omega) (by omega) (SlAt.of_row (hw2.item (.tail _ (.tail _ (.tail _ (.tail _ (.head _)))))))).mono fun e w3 ⟨z, ze, he, hp⟩ => ⟨(⟨z.q, z.c, fun k => w2.heap.size ≤ k ∧ z.O k⟩, ⟨ze.q, ze.c, fun k => w2.heap.size ≤ k ∧ ze.O k⟩), he, trivial, ?_⟩
                have h3 := Cls.plusL hw2 hp (fun i hi k hk => by
                  rcases List.mem_cons.1 hi with rfl | hi
                  · exact hk.1
                  · rw [List.mem_singleton] at hi; subst hi; exact hk.1)
                have h4 := Cls.row_base (Cls.flip (Cls.row_base h3 hsz2)) hsz2
                -- [ze, z, nds, sb, map, z1, y, b11]
                have h5 := Cls.perm h4 (List.perm_append_comm (l₁ := [_, _]) (l₂ := [_, _, _]) |>.append_right [_, _, _])
                -- [nds, sb, map, ze, z, z1, y, b11]
                have h6 := h5.thin (.keep (.keep (.keep (.keep (.keep (.keep (Thin.row ⟨Nat.le_refl _, trivial⟩ Thin.same)))))))
                -- [nds, sb, map, ze, z, z1, b11]
                refine h6.perm (.cons _ (.cons _ (.cons _ ?_)))
                exact (List.perm_append_comm (l₁ := [_]) (l₂ := [_, _, _])).trans (.cons _ (List.perm_append_comm (l₁ := [_]) (l₂ := [_]) |>.append_right [_]))
            rintro ⟨z2, z3⟩ -
            simp only
            rw [hrg]
            simp only [SI]
            rw [← hk2]
            apply omv; rfl; rfl
            apply oex; rfl; rfl; rfl
            apply oex; rfl; rfl; rfl
            apply oex; rfl; rfl; rfl
            apply OL.storeB; rfl; rfl; exact CellsL.agg; rfl; rfl; rfl; apply Swap.s; apply Swap.s; apply Swap.s; apply Swap.s; apply Swap.z; apply Put.here; apply Over.cons; apply Over.cons; apply Over.nil
            apply oas; rfl; rfl
            apply oas; rfl; rfl
            apply OL.nil
            refine At.joing ⟨f2, m2, E2, z2, (putS rm (kvs E) k v).2.2, ⟨#[]⟩, (putS rm (kvs E) k v).2.1, z1, z3⟩ ⟨hs2, by simp only; rw [hk2]; exact hone.put hk1, hevl⟩ (by (repeat (first | exact Sub.nil | apply Sub.cons rfl))) (fun w' hw' => hw')
      · rintro ⟨f2, m2, E2, y2, err, s2, evs, y3, y4⟩ ⟨hs2, hone2, hevl⟩
        simp only at hs2 hone2 hevl
        simp only [SI]
        have hrev2 : sumL (kvs E2).reverse = sumL (kvs E2) := sumL_reverse _
        have hsum2 := hs2.sum
        have hlen3 : (kvs E2).reverse.length = E2.length := by simp [kvs]
        have hlen4 : (kvs E2).length = E2.length := by simp [kvs]
        have hone3 := hone2.len
        with_reducible apply At.in_normal
        with_reducible apply At.next
        apply W.seq
        apply W.seq
        refine W.regany (X := XL) (fun x e => [(150, true, bif e 29 then .bool false else x.old 150), (149, true, bif e 28 then .bool false else x.old 149), (148, true, bif e 27 then .int .i64 ((kvs E2).reverse.length : Int) else x.old 148), (147, true, bif e 26 then .slice y2.q (kvs E2).reverse.length y2.c else x.old 147), (146, true, bif e 25 then .pointer (some ⟨b11, 0 + 1, none⟩) else x.old 146), (145, true, bif e 24 then .int .i64 (E2.length : Int) else x.old 145), (144, true, bif e 23 then .slice x.y23.q E2.length E2.length else x.old 144), (143, true, bif e 22 then .pointer (some ⟨sb, 0, none⟩) else x.old 143), (142, true, bif e 21 then .bool false else x.old 142), (141, true, bif e 20 then .bool false else x.old 141), (140, true, bif e 19 then .bool false else x.old 140), (139, true, bif e 18 then .int .i64 (sumL (kvs E2) : Nat) else x.old 139), (138, true, bif e 17 then .agg #[.int .i64 (rm : Int), .slice y2.q (kvs E2).reverse.length y2.c] else x.old 138), (137, true, bif e 16 then .int .i64 (sumL (kvs E2) : Nat) else x.old 137), (136, true, bif e 15 then .pointer (some ⟨sb, 0, none⟩) else x.old 136), (135, true, bif e 14 then .bool false else x.old 135), (134, true, bif e 13 then .bool false else x.old 134), (133, true, bif e 12 then .bool false else x.old 133), (132, true, bif e 11 then .bool true else x.old 132), (131, true, bif e 10 then .slice y4.q evs.length y4.c else x.old 131), (130, true, bif e 9 then .slice y3.q evs.length y3.c else x.old 130), (129, true, bif e 8 then .bool false else x.old 129), (128, true, bif e 7 then .bool false else x.old 128), (127, true, bif e 6 then .bool false else x.old 127), (126, true, bif e 5 then .string s2 else x.old 126), (125, true, bif e 4 then .string s2 else x.old 125), (124, true, bif e 3 then .bool false else x.old 124), (123, true, bif e 2 then .bool false else x.old 123), (122, true, bif e 1 then .int .i64 err else x.old 122), (121, true, bif e 0 then .int .i64 err else x.old 121), (9, true, .pointer (some ⟨sb, 0, none⟩)), (11, true, .pointer (some ⟨b11, 0, none⟩)), (64, true, .slice (some a) l.length cap), (65, true, .int .i64 (l.length : Int)), (66, true, .int .i64 (i : Int)), (16, true, .int .i64 err), (17, true, .int .i64 err), (20, true, .string s2), (21, true, .string s2), (18, true, .slice y3.q evs.length y3.c), (19, true, .slice y4.q evs.length y4.c)])
          (fun x e => (nds 64 f2) :: (blk sb 67 [.int .i64 (rm : Int), .int .i64 (sumL (kvs E2) : Nat), .pointer (some ⟨r, 0, none⟩), .map (some mb)]) :: (mapS mb m2) :: (bif e 23 then row w.heap.size x.y23.O x.y23.q E2.length x.y23.c 9 1 (strs (keysR E2)) else nothing) :: (row w.heap.size y2.O y2.q (kvs E2).reverse.length y2.c 45 2 (cat pc (kvs E2).reverse)) :: (blk b11 31 [.int .i64 (rm : Int), .slice y2.q (kvs E2).reverse.length y2.c]) :: (row w.heap.size y3.O y3.q evs.length y3.c 9 1 (strs evs)) :: (row w.heap.size y4.O y4.q evs.length y4.c 9 1 (strs evs)) :: [])
          (fun old => ⟨⟨none, 0, fun _ => False⟩, old⟩) (by kernel_rfl) (by kernel_rfl) (fun w hw => hw.drew) (fun old => by repeat (first | exact SubO.nil | apply SubO.cons rfl | refine SubO.old rfl ?_)) (fun old w' hw' => Cls.in3n hw') ?_ ?_
        · intro x e i o ho hei hd hcl
          have hi : i < 30 := (List.getElem?_eq_some_iff.1 ho).1
          obtain rfl | rfl | rfl | rfl | rfl | rfl | rfl | rfl | rfl | rfl | rfl | rfl | rfl | rfl | rfl | rfl | rfl | rfl | rfl | rfl | rfl | rfl | rfl | rfl | rfl | rfl | rfl | rfl | rfl | rfl : i = 0 ∨ i = 1 ∨ i = 2 ∨ i = 3 ∨ i = 4 ∨ i = 5 ∨ i = 6 ∨ i = 7 ∨ i = 8 ∨ i = 9 ∨ i = 10 ∨ i = 11 ∨ i = 12 ∨ i = 13 ∨ i = 14 ∨ i = 15 ∨ i = 16 ∨ i = 17 ∨ i = 18 ∨ i = 19 ∨ i = 20 ∨ i = 21 ∨ i = 22 ∨ i = 23 ∨ i = 24 ∨ i = 25 ∨ i = 26 ∨ i = 27 ∨ i = 28 ∨ i = 29 := by omega
          · cases ho
            have v0 : Eng.upd e 0 0 = true := upd_eq
            simp only [hei, cond_true, cond_false]
            apply omv; rfl; rfl
            apply OL.nil
            exact At.beside x (by repeat (first | exact Sub.nil | apply Sub.cons rfl | refine Sub.cons_eq rfl (by first | (simp only [v0, cond_true, cond_false]; done) | (simp only [v0, cond_true, cond_false]; simp [kvs])) ?_)) (fun w' hw' => by first | exact hw' | (simp only [v0, cond_true, cond_false]; exact hw'))
          · cases ho
            have v1 : Eng.upd e 1 1 = true := upd_eq
            simp only [hei, cond_true, cond_false]
            apply omv; rfl; rfl
            apply OL.nil
            exact At.beside x (by repeat (first | exact Sub.nil | apply Sub.cons rfl | refine Sub.cons_eq rfl (by first | (simp only [v1, cond_true, cond_false]; done) | (simp only [v1, cond_true, cond_false]; simp [kvs])) ?_)) (fun w' hw' => by first | exact hw' | (simp only [v1, cond_true, cond_false]; exact hw'))
          · cases ho
            have h0 : e 0 = true := hd ⟨0, .data⟩ (by simp) rfl
            have h1 : e 1 = true := hd ⟨1, .data⟩ (by simp) rfl
            have v2 : Eng.upd e 2 2 = true := upd_eq
            have v0 : Eng.upd e 2 0 = true := upd_mono h0
            have v1 : Eng.upd e 2 1 = true := upd_mono h1
            simp only [hei, h0, h1, cond_true, cond_false]
            apply obn; rfl; rfl; rfl; apply Bin.neq
            apply OL.nil
            exact At.beside x (by repeat (first | exact Sub.nil | apply Sub.cons rfl | refine Sub.cons_eq rfl (by first | (simp only [v2, v0, v1, cond_true, cond_false]; done) | (simp only [v2, v0, v1, cond_true, cond_false]; simp [kvs])) ?_)) (fun w' hw' => by first | exact hw' | (simp only [v2, v0, v1, cond_true, cond_false]; exact hw'))
          · cases ho
            have h2 : e 2 = true := hd ⟨2, .data⟩ (by simp) rfl
            have v3 : Eng.upd e 3 3 = true := upd_eq
            have v2 : Eng.upd e 3 2 = true := upd_mono h2
            simp only [hei, h2, cond_true, cond_false]
            apply omv; rfl; rfl
            apply OL.nil
            exact At.beside x (by repeat (first | exact Sub.nil | apply Sub.cons rfl | refine Sub.cons_eq rfl (by first | (simp only [v3, v2, cond_true, cond_false]; done) | (simp only [v3, v2, cond_true, cond_false]; simp [kvs])) ?_)) (fun w' hw' => by first | exact hw' | (simp only [v3, v2, cond_true, cond_false]; exact hw'))
          · cases ho
            have h3 : e 3 = true := hd ⟨3, .guard⟩ (by simp) rfl
            have v4 : Eng.upd e 4 4 = true := upd_eq
            have v3 : Eng.upd e 4 3 = true := upd_mono h3
            simp only [hei, h3, cond_true, cond_false]
            apply OL.op; exact Guard.no rfl rfl; rfl; rfl; apply Pev.move; rfl; exact yes
            apply OL.nil
            exact At.beside x (by repeat (first | exact Sub.nil | apply Sub.cons rfl | refine Sub.cons_eq rfl (by first | (simp only [v4, v3, cond_true, cond_false]; done) | (simp only [v4, v3, cond_true, cond_false]; simp [kvs])) ?_)) (fun w' hw' => by first | exact hw' | (simp only [v4, v3, cond_true, cond_false]; exact hw'))
          · cases ho
            have h3 : e 3 = true := hd ⟨3, .guard⟩ (by simp) rfl
            have v5 : Eng.upd e 5 5 = true := upd_eq
            have v3 : Eng.upd e 5 3 = true := upd_mono h3
            simp only [hei, h3, cond_true, cond_false]
            apply OL.op; exact Guard.no rfl rfl; rfl; rfl; apply Pev.move; rfl; exact yes
            apply OL.nil
            exact At.beside x (by repeat (first | exact Sub.nil | apply Sub.cons rfl | refine Sub.cons_eq rfl (by first | (simp only [v5, v3, cond_true, cond_false]; done) | (simp only [v5, v3, cond_true, cond_false]; simp [kvs])) ?_)) (fun w' hw' => by first | exact hw' | (simp only [v5, v3, cond_true, cond_false]; exact hw'))
          · cases ho
            have h4 : e 4 = true := hd ⟨4, .data⟩ (by simp) rfl
            have h5 : e 5 = true := hd ⟨5, .data⟩ (by simp) rfl
            have h3 : e 3 = true := hd ⟨3, .guard⟩ (by simp) rfl
            have v6 : Eng.upd e 6 6 = true := upd_eq
            have v4 : Eng.upd e 6 4 = true := upd_mono h4
            have v5 : Eng.upd e 6 5 = true := upd_mono h5
            have v3 : Eng.upd e 6 3 = true := upd_mono h3
            simp only [hei, h4, h5, h3, cond_true, cond_false]
            apply OL.op; exact Guard.no rfl rfl; rfl; rfl; apply Pev.bin; rfl; exact yes; rfl; exact yes; intro hcond; apply Bin.str_neq
            apply OL.nil
            exact At.beside x (by repeat (first | exact Sub.nil | apply Sub.cons rfl | refine Sub.cons_eq rfl (by first | (simp only [v6, v4, v5, v3, cond_true, cond_false]; done) | (simp only [v6, v4, v5, v3, cond_true, cond_false]; simp [kvs])) ?_)) (fun w' hw' => by first | exact hw' | (simp only [v6, v4, v5, v3, cond_true, cond_false]; exact hw'))
          · cases ho
            have h3 : e 3 = true := hd ⟨3, .data⟩ (by simp) rfl
            have h6 : e 6 = true := hd ⟨6, .data⟩ (by simp) rfl
            have v7 : Eng.upd e 7 7 = true := upd_eq
            have v3 : Eng.upd e 7 3 = true := upd_mono h3
            have v6 : Eng.upd e 7 6 = true := upd_mono h6
            simp only [hei, h3, h6, cond_true, cond_false]
            apply OL.op; exact Guard.none; rfl; rfl; apply Pev.pick_or; rfl; exact yes; rfl; exact yes
            apply OL.nil
            exact At.beside x (by repeat (first | exact Sub.nil | apply Sub.cons rfl | refine Sub.cons_eq rfl (by first | (simp only [v7, v3, v6, cond_true, cond_false]; done) | (simp only [v7, v3, v6, cond_true, cond_false]; simp [kvs])) ?_)) (fun w' hw' => by first | exact hw' | (simp only [v7, v3, v6, cond_true, cond_false]; exact hw'))
          · cases ho
            have h7 : e 7 = true := hd ⟨7, .data⟩ (by simp) rfl
            have v8 : Eng.upd e 8 8 = true := upd_eq
            have v7 : Eng.upd e 8 7 = true := upd_mono h7
            simp only [hei, h7, cond_true, cond_false]
            apply omv; rfl; rfl
            apply OL.nil
            exact At.beside x (by repeat (first | exact Sub.nil | apply Sub.cons rfl | refine Sub.cons_eq rfl (by first | (simp only [v8, v7, cond_true, cond_false]; done) | (simp only [v8, v7, cond_true, cond_false]; simp [kvs])) ?_)) (fun w' hw' => by first | exact hw' | (simp only [v8, v7, cond_true, cond_false]; exact hw'))
          · cases ho
            have h8 : e 8 = true := hd ⟨8, .guard⟩ (by simp) rfl
            have v9 : Eng.upd e 9 9 = true := upd_eq
            have v8 : Eng.upd e 9 8 = true := upd_mono h8
            simp only [hei, h8, cond_true, cond_false]
            apply OL.op; exact Guard.no rfl rfl; rfl; rfl; apply Pev.move; rfl; exact yes
            apply OL.nil
            exact At.beside x (by repeat (first | exact Sub.nil | apply Sub.cons rfl | refine Sub.cons_eq rfl (by first | (simp only [v9, v8, cond_true, cond_false]; done) | (simp only [v9, v8, cond_true, cond_false]; simp [kvs])) ?_)) (fun w' hw' => by first | exact hw' | (simp only [v9, v8, cond_true, cond_false]; exact hw'))
          · cases ho
            have h8 : e 8 = true := hd ⟨8, .guard⟩ (by simp) rfl
            have v10 : Eng.upd e 10 10 = true := upd_eq
            have v8 : Eng.upd e 10 8 = true := upd_mono h8
            simp only [hei, h8, cond_true, cond_false]
            apply OL.op; exact Guard.no rfl rfl; rfl; rfl; apply Pev.move; rfl; exact yes
            apply OL.nil
            exact At.beside x (by repeat (first | exact Sub.nil | apply Sub.cons rfl | refine Sub.cons_eq rfl (by first | (simp only [v10, v8, cond_true, cond_false]; done) | (simp only [v10, v8, cond_true, cond_false]; simp [kvs])) ?_)) (fun w' hw' => by first | exact hw' | (simp only [v10, v8, cond_true, cond_false]; exact hw'))
          · cases ho
            have h9 : e 9 = true := hd ⟨9, .data⟩ (by simp) rfl
            have h10 : e 10 = true := hd ⟨10, .data⟩ (by simp) rfl
            have h8 : e 8 = true := hd ⟨8, .guard⟩ (by simp) rfl
            have v11 : Eng.upd e 11 11 = true := upd_eq
            have v9 : Eng.upd e 11 9 = true := upd_mono h9
            have v10 : Eng.upd e 11 10 = true := upd_mono h10
            have v8 : Eng.upd e 11 8 = true := upd_mono h8
            simp only [hei, h9, h10, h8, cond_true, cond_false]
            skip
            (((first | (with_reducible apply OL.op) | (with_reducible apply QL.op)); ((first | exact Guard.none | exact Guard.yes rfl rfl | exact Guard.no rfl rfl | exact Guard.cyes rfl rfl | exact Guard.cno rfl rfl)); rfl; rfl); (refine Pev.call (v := .bool true) rfl (by (repeat (first | exact Args.nil | (apply Args.cons rfl; ((first | exact fun _ => rfl | exact fun h => h | (intro h; simp_all; done))))))) (fun _ w2 hw2 => ?_)))
            · exact (SEqual_calls y3.q y4.q y3.c y4.c evs evs w2 (by omega) (by omega) (SlAt.of_row (hw2.item (i := row w.heap.size y3.O y3.q evs.length y3.c 9 1 (strs evs)) (by (repeat (first | exact List.Mem.head _ | apply List.Mem.tail))))) (SlAt.of_row (hw2.item (i := row w.heap.size y4.O y4.q evs.length y4.c 9 1 (strs evs)) (by (repeat (first | exact List.Mem.head _ | apply List.Mem.tail)))))).mono (fun e w3 h => ⟨h.1.trans (by simp), hw2.ext h.2⟩)
            apply OL.nil
            exact At.beside x (by repeat (first | exact Sub.nil | apply Sub.cons rfl | refine Sub.cons_eq rfl (by first | (simp only [v11, v9, v10, v8, cond_true, cond_false]; done) | (simp only [v11, v9, v10, v8, cond_true, cond_false]; simp [kvs])) ?_)) (fun w' hw' => by first | exact hw' | (simp only [v11, v9, v10, v8, cond_true, cond_false]; exact hw'))
          · cases ho
            have h11 : e 11 = true := hd ⟨11, .data⟩ (by simp) rfl
            have h8 : e 8 = true := hd ⟨8, .guard⟩ (by simp) rfl
            have v12 : Eng.upd e 12 12 = true := upd_eq
            have v11 : Eng.upd e 12 11 = true := upd_mono h11
            have v8 : Eng.upd e 12 8 = true := upd_mono h8
            simp only [hei, h11, h8, cond_true, cond_false]
            apply OL.op; exact Guard.no rfl rfl; rfl; rfl; apply Pev.not; rfl; exact yes
            apply OL.nil
            exact At.beside x (by repeat (first | exact Sub.nil | apply Sub.cons rfl | refine Sub.cons_eq rfl (by first | (simp only [v12, v11, v8, cond_true, cond_false]; done) | (simp only [v12, v11, v8, cond_true, cond_false]; simp [kvs])) ?_)) (fun w' hw' => by first | exact hw' | (simp only [v12, v11, v8, cond_true, cond_false]; exact hw'))
          · cases ho
            have h8 : e 8 = true := hd ⟨8, .data⟩ (by simp) rfl
            have h12 : e 12 = true := hd ⟨12, .data⟩ (by simp) rfl
            have v13 : Eng.upd e 13 13 = true := upd_eq
            have v8 : Eng.upd e 13 8 = true := upd_mono h8
            have v12 : Eng.upd e 13 12 = true := upd_mono h12
            simp only [hei, h8, h12, cond_true, cond_false]
            apply OL.op; exact Guard.none; rfl; rfl; apply Pev.pick_or; rfl; exact yes; rfl; exact yes
            apply OL.nil
            exact At.beside x (by repeat (first | exact Sub.nil | apply Sub.cons rfl | refine Sub.cons_eq rfl (by first | (simp only [v13, v8, v12, cond_true, cond_false]; done) | (simp only [v13, v8, v12, cond_true, cond_false]; simp [kvs])) ?_)) (fun w' hw' => by first | exact hw' | (simp only [v13, v8, v12, cond_true, cond_false]; exact hw'))
          · cases ho
            have h13 : e 13 = true := hd ⟨13, .data⟩ (by simp) rfl
            have v14 : Eng.upd e 14 14 = true := upd_eq
            have v13 : Eng.upd e 14 13 = true := upd_mono h13
            simp only [hei, h13, cond_true, cond_false]
            apply omv; rfl; rfl
            apply OL.nil
            exact At.beside x (by repeat (first | exact Sub.nil | apply Sub.cons rfl | refine Sub.cons_eq rfl (by first | (simp only [v14, v13, cond_true, cond_false]; done) | (simp only [v14, v13, cond_true, cond_false]; simp [kvs])) ?_)) (fun w' hw' => by first | exact hw' | (simp only [v14, v13, cond_true, cond_false]; exact hw'))
          · cases ho
            have h14 : e 14 = true := hd ⟨14, .guard⟩ (by simp) rfl
            have v15 : Eng.upd e 15 15 = true := upd_eq
            have v14 : Eng.upd e 15 14 = true := upd_mono h14
            simp only [hei, h14, cond_true, cond_false]
            apply OL.op; exact Guard.no rfl rfl; rfl; rfl; apply Pev.move; rfl; exact yes
            apply OL.nil
            exact At.beside x (by repeat (first | exact Sub.nil | apply Sub.cons rfl | refine Sub.cons_eq rfl (by first | (simp only [v15, v14, cond_true, cond_false]; done) | (simp only [v15, v14, cond_true, cond_false]; simp [kvs])) ?_)) (fun w' hw' => by first | exact hw' | (simp only [v15, v14, cond_true, cond_false]; exact hw'))
          · cases ho
            have h15 : e 15 = true := hd ⟨15, .data⟩ (by simp) rfl
            have h14 : e 14 = true := hd ⟨14, .guard⟩ (by simp) rfl
            have v16 : Eng.upd e 16 16 = true := upd_eq
            have v15 : Eng.upd e 16 15 = true := upd_mono h15
            have v14 : Eng.upd e 16 14 = true := upd_mono h14
            simp only [hei, h15, h14, cond_true, cond_false]
            skip
            (((first | (with_reducible apply OL.op) | (with_reducible apply QL.op)); ((first | exact Guard.none | exact Guard.yes rfl rfl | exact Guard.no rfl rfl | exact Guard.cyes rfl rfl | exact Guard.cno rfl rfl)); rfl; rfl); (refine Pev.call (v := .int .i64 (sumL (kvs E2) : Nat)) rfl (by (repeat (first | exact Args.nil | (apply Args.cons rfl; ((first | exact fun _ => rfl | exact fun h => h | (intro h; simp_all; done))))))) (fun _ w2 hw2 => ?_)))
            · exact (Used_calls rm r sb mb f2 m2 _ _ [w] w2 hw2).mono (fun e w3 h => ⟨h.1, h.2⟩)
            apply OL.nil
            exact At.beside x (by repeat (first | exact Sub.nil | apply Sub.cons rfl | refine Sub.cons_eq rfl (by first | (simp only [v16, v15, v14, cond_true, cond_false]; done) | (simp only [v16, v15, v14, cond_true, cond_false]; simp [kvs])) ?_)) (fun w' hw' => by first | exact hw' | (simp only [v16, v15, v14, cond_true, cond_false]; exact hw'))
          · cases ho
            have h14 : e 14 = true := hd ⟨14, .guard⟩ (by simp) rfl
            have v17 : Eng.upd e 17 17 = true := upd_eq
            have v14 : Eng.upd e 17 14 = true := upd_mono h14
            simp only [hei, h14, cond_true, cond_false]
            apply OL.op; exact Guard.no rfl rfl; rfl; rfl; apply Pev.load_blkA; rfl; exact yes; apply List.Mem.tail; apply List.Mem.tail; apply List.Mem.tail; exact .tail _ (.tail _ (.head _)); rfl; apply Take.succ; apply Take.succ; apply Take.zero
            apply OL.nil
            exact At.beside x (by repeat (first | exact Sub.nil | apply Sub.cons rfl | refine Sub.cons_eq rfl (by first | (simp only [v17, v14, cond_true, cond_false]; done) | (simp only [v17, v14, cond_true, cond_false]; simp [kvs])) ?_)) (fun w' hw' => by first | exact hw' | (simp only [v17, v14, cond_true, cond_false]; exact hw'))
          · cases ho
            have h17 : e 17 = true := hd ⟨17, .data⟩ (by simp) rfl
            have h14 : e 14 = true := hd ⟨14, .guard⟩ (by simp) rfl
            have v18 : Eng.upd e 18 18 = true := upd_eq
            have v17 : Eng.upd e 18 17 = true := upd_mono h17
            have v14 : Eng.upd e 18 14 = true := upd_mono h14
            simp only [hei, h17, h14, cond_true, cond_false]
            skip
            (((first | (with_reducible apply OL.op) | (with_reducible apply QL.op)); ((first | exact Guard.none | exact Guard.yes rfl rfl | exact Guard.no rfl rfl | exact Guard.cyes rfl rfl | exact Guard.cno rfl rfl)); rfl; rfl); (refine Pev.call (v := .int .i64 (sumL (kvs E2) : Nat)) rfl (by (repeat (first | exact Args.nil | (apply Args.cons rfl; ((first | exact fun _ => rfl | exact fun h => h | (intro h; simp_all; done))))))) (fun _ w2 hw2 => ?_)))
            · exact (Bytes_calls (rm : Int) y2.q y2.c (kvs E2).reverse w2 (by omega) (by omega) (SlAt.of_row (hw2.item (i := row w.heap.size y2.O y2.q (kvs E2).reverse.length y2.c 45 2 (cat pc (kvs E2).reverse)) (by (repeat (first | exact List.Mem.head _ | apply List.Mem.tail)))))).mono (fun e w3 h => ⟨h.1.trans (by rw [hrev2]), hw2.ext h.2⟩)
            apply OL.nil
            exact At.beside x (by repeat (first | exact Sub.nil | apply Sub.cons rfl | refine Sub.cons_eq rfl (by first | (simp only [v18, v17, v14, cond_true, cond_false]; done) | (simp only [v18, v17, v14, cond_true, cond_false]; simp [kvs])) ?_)) (fun w' hw' => by first | exact hw' | (simp only [v18, v17, v14, cond_true, cond_false]; exact hw'))
          · cases ho
            have h16 : e 16 = true := hd ⟨16, .data⟩ (by simp) rfl
            have h18 : e 18 = true := hd ⟨18, .data⟩ (by simp) rfl
            have h14 : e 14 = true := hd ⟨14, .guard⟩ (by simp) rfl
            have v19 : Eng.upd e 19 19 = true := upd_eq
            have v16 : Eng.upd e 19 16 = true := upd_mono h16
            have v18 : Eng.upd e 19 18 = true := upd_mono h18
            have v14 : Eng.upd e 19 14 = true := upd_mono h14
            simp only [hei, h16, h18, h14, cond_true, cond_false]
            apply OL.op; exact Guard.no rfl rfl; rfl; rfl; apply Pev.bin; rfl; exact yes; rfl; exact yes; intro hcond; apply Bin.neq
            apply OL.nil
            exact At.beside x (by repeat (first | exact Sub.nil | apply Sub.cons rfl | refine Sub.cons_eq rfl (by first | (simp only [v19, v16, v18, v14, cond_true, cond_false]; done) | (simp only [v19, v16, v18, v14, cond_true, cond_false]; simp [kvs])) ?_)) (fun w' hw' => by first | exact hw' | (simp only [v19, v16, v18, v14, cond_true, cond_false]; exact hw'))
          · cases ho
            have h14 : e 14 = true := hd ⟨14, .data⟩ (by simp) rfl
            have h19 : e 19 = true := hd ⟨19, .data⟩ (by simp) rfl
            have v20 : Eng.upd e 20 20 = true := upd_eq
            have v14 : Eng.upd e 20 14 = true := upd_mono h14
            have v19 : Eng.upd e 20 19 = true := upd_mono h19
            simp only [hei, h14, h19, cond_true, cond_false]
            apply OL.op; exact Guard.none; rfl; rfl; apply Pev.pick_or; rfl; exact yes; rfl; exact yes
            apply OL.nil
            exact At.beside x (by repeat (first | exact Sub.nil | apply Sub.cons rfl | refine Sub.cons_eq rfl (by first | (simp only [v20, v14, v19, cond_true, cond_false]; done) | (simp only [v20, v14, v19, cond_true, cond_false]; simp [kvs])) ?_)) (fun w' hw' => by first | exact hw' | (simp only [v20, v14, v19, cond_true, cond_false]; exact hw'))
          · cases ho
            have h20 : e 20 = true := hd ⟨20, .data⟩ (by simp) rfl
            have v21 : Eng.upd e 21 21 = true := upd_eq
            have v20 : Eng.upd e 21 20 = true := upd_mono h20
            simp only [hei, h20, cond_true, cond_false]
            apply omv; rfl; rfl
            apply OL.nil
            exact At.beside x (by repeat (first | exact Sub.nil | apply Sub.cons rfl | refine Sub.cons_eq rfl (by first | (simp only [v21, v20, cond_true, cond_false]; done) | (simp only [v21, v20, cond_true, cond_false]; simp [kvs])) ?_)) (fun w' hw' => by first | exact hw' | (simp only [v21, v20, cond_true, cond_false]; exact hw'))
          · cases ho
            have h21 : e 21 = true := hd ⟨21, .guard⟩ (by simp) rfl
            have v22 : Eng.upd e 22 22 = true := upd_eq
            have v21 : Eng.upd e 22 21 = true := upd_mono h21
            simp only [hei, h21, cond_true, cond_false]
            apply OL.op; exact Guard.no rfl rfl; rfl; rfl; apply Pev.move; rfl; exact yes
            apply OL.nil
            exact At.beside x (by repeat (first | exact Sub.nil | apply Sub.cons rfl | refine Sub.cons_eq rfl (by first | (simp only [v22, v21, cond_true, cond_false]; done) | (simp only [v22, v21, cond_true, cond_false]; simp [kvs])) ?_)) (fun w' hw' => by first | exact hw' | (simp only [v22, v21, cond_true, cond_false]; exact hw'))
          · cases ho
            have h22 : e 22 = true := hd ⟨22, .data⟩ (by simp) rfl
            have h21 : e 21 = true := hd ⟨21, .guard⟩ (by simp) rfl
            have h24 : e 24 = false := hcl.not (i := 23) (j := 24) rfl hei (by kernel_rfl)
            have v23 : Eng.upd e 23 23 = true := upd_eq
            have v22 : Eng.upd e 23 22 = true := upd_mono h22
            have v21 : Eng.upd e 23 21 = true := upd_mono h21
            have v24 : Eng.upd e 23 24 = false := h24
            simp only [hei, h22, h21, h24, cond_true, cond_false]
            skip
            refine OL.ungate (Guard.no rfl rfl) rfl ?_
            refine OL.callE (α := RQ) (fun y => .slice y.q E2.length E2.length) (fun _ => True) (fun y => Cls ((nds 64 f2) :: (blk sb 67 [.int .i64 (rm : Int), .int .i64 (sumL (kvs E2) : Nat), .pointer (some ⟨r, 0, none⟩), .map (some mb)]) :: (mapS mb m2) :: (row w.heap.size y.O y.q E2.length y.c 9 1 (strs (keysR E2))) :: (row w.heap.size y2.O y2.q (kvs E2).reverse.length y2.c 45 2 (cat pc (kvs E2).reverse)) :: (blk b11 31 [.int .i64 (rm : Int), .slice y2.q (kvs E2).reverse.length y2.c]) :: (row w.heap.size y3.O y3.q evs.length y3.c 9 1 (strs evs)) :: (row w.heap.size y4.O y4.q evs.length y4.c 9 1 (strs evs)) :: []) [w]) rfl rfl (by (repeat (first | exact Args.nil | (apply Args.cons rfl; ((first | exact fun _ => rfl | exact fun h => h | (intro h; simp_all; done))))))) (fun w2 hw2 => ?_) ?_
            · refine (Keys_calls B rm r sb mb f2 m2 E2 _ _ [w] w2 (by omega) hs2 hw2).mono fun e w3 ⟨z, he, hc'⟩ => ⟨⟨z.q, z.c, fun k => w2.heap.size ≤ k ∧ z.O k⟩, he, trivial, ?_⟩
              exact (Cls.in3 (Cls.row_base (Cls.out3 hc') (hw2.kp w (by (repeat (first | exact List.Mem.head _ | apply List.Mem.tail)))).size)).thin (.keep (.keep (.keep (.keep (Thin.any (fun k hk => hk.elim) Thin.same)))))
            rintro y -
            apply OL.nil
            exact At.beside { x with y23 := y } (by repeat (first | exact Sub.nil | apply Sub.cons rfl | refine Sub.cons_eq rfl (by first | (simp only [v23, v22, v21, v24, cond_true, cond_false]; done) | (simp only [v23, v22, v21, v24, cond_true, cond_false]; simp [kvs])) ?_)) (fun w' hw' => by first | exact hw' | (simp only [v23, v22, v21, v24, cond_true, cond_false]; exact hw'))
          · cases ho
            have h23 : e 23 = true := hd ⟨23, .data⟩ (by simp) rfl
            have h21 : e 21 = true := hd ⟨21, .guard⟩ (by simp) rfl
            have v24 : Eng.upd e 24 24 = true := upd_eq
            have v23 : Eng.upd e 24 23 = true := upd_mono h23
            have v21 : Eng.upd e 24 21 = true := upd_mono h21
            simp only [hei, h23, h21, cond_true, cond_false]
            apply OL.op; exact Guard.no rfl rfl; rfl; rfl; apply Pev.len_slice; rfl; exact yes; rfl
            apply OL.nil
            exact At.beside x (by repeat (first | exact Sub.nil | apply Sub.cons rfl | refine Sub.cons_eq rfl (by first | (simp only [v24, v23, v21, cond_true, cond_false]; done) | (simp only [v24, v23, v21, cond_true, cond_false]; simp [kvs])) ?_)) (fun w' hw' => by first | exact hw' | (simp only [v24, v23, v21, cond_true, cond_false]; exact hw'))
          · cases ho
            have h21 : e 21 = true := hd ⟨21, .guard⟩ (by simp) rfl
            have v25 : Eng.upd e 25 25 = true := upd_eq
            have v21 : Eng.upd e 25 21 = true := upd_mono h21
            simp only [hei, h21, cond_true, cond_false]
            apply OL.op; exact Guard.no rfl rfl; rfl; rfl; apply Pev.fld; rfl; exact yes; rfl
            apply OL.nil
            exact At.beside x (by repeat (first | exact Sub.nil | apply Sub.cons rfl | refine Sub.cons_eq rfl (by first | (simp only [v25, v21, cond_true, cond_false]; done) | (simp only [v25, v21, cond_true, cond_false]; simp [kvs])) ?_)) (fun w' hw' => by first | exact hw' | (simp only [v25, v21, cond_true, cond_false]; exact hw'))
          · cases ho
            have h25 : e 25 = true := hd ⟨25, .data⟩ (by simp) rfl
            have h21 : e 21 = true := hd ⟨21, .guard⟩ (by simp) rfl
            have v26 : Eng.upd e 26 26 = true := upd_eq
            have v25 : Eng.upd e 26 25 = true := upd_mono h25
            have v21 : Eng.upd e 26 21 = true := upd_mono h21
            simp only [hei, h25, h21, cond_true, cond_false]
            apply OL.op; exact Guard.no rfl rfl; rfl; rfl; apply Pev.load_blk; rfl; exact yes; apply List.Mem.tail; apply List.Mem.tail; apply List.Mem.tail; exact .tail _ (.tail _ (.head _)); rfl; rfl
            apply OL.nil
            exact At.beside x (by repeat (first | exact Sub.nil | apply Sub.cons rfl | refine Sub.cons_eq rfl (by first | (simp only [v26, v25, v21, cond_true, cond_false]; done) | (simp only [v26, v25, v21, cond_true, cond_false]; simp [kvs])) ?_)) (fun w' hw' => by first | exact hw' | (simp only [v26, v25, v21, cond_true, cond_false]; exact hw'))
          · cases ho
            have h26 : e 26 = true := hd ⟨26, .data⟩ (by simp) rfl
            have h21 : e 21 = true := hd ⟨21, .guard⟩ (by simp) rfl
            have v27 : Eng.upd e 27 27 = true := upd_eq
            have v26 : Eng.upd e 27 26 = true := upd_mono h26
            have v21 : Eng.upd e 27 21 = true := upd_mono h21
            simp only [hei, h26, h21, cond_true, cond_false]
            apply OL.op; exact Guard.no rfl rfl; rfl; rfl; apply Pev.len_slice; rfl; exact yes; rfl
            apply OL.nil
            exact At.beside x (by repeat (first | exact Sub.nil | apply Sub.cons rfl | refine Sub.cons_eq rfl (by first | (simp only [v27, v26, v21, cond_true, cond_false]; done) | (simp only [v27, v26, v21, cond_true, cond_false]; simp [kvs])) ?_)) (fun w' hw' => by first | exact hw' | (simp only [v27, v26, v21, cond_true, cond_false]; exact hw'))
          · cases ho
            have h24 : e 24 = true := hd ⟨24, .data⟩ (by simp) rfl
            have h27 : e 27 = true := hd ⟨27, .data⟩ (by simp) rfl
            have h21 : e 21 = true := hd ⟨21, .guard⟩ (by simp) rfl
            have v28 : Eng.upd e 28 28 = true := upd_eq
            have v24 : Eng.upd e 28 24 = true := upd_mono h24
            have v27 : Eng.upd e 28 27 = true := upd_mono h27
            have v21 : Eng.upd e 28 21 = true := upd_mono h21
            simp only [hei, h24, h27, h21, cond_true, cond_false]
            apply OL.op; exact Guard.no rfl rfl; rfl; rfl; apply Pev.bin; rfl; exact yes; rfl; exact yes; intro hcond; apply Bin.neq
            apply OL.nil
            exact At.beside x (by repeat (first | exact Sub.nil | apply Sub.cons rfl | refine Sub.cons_eq rfl (by first | (simp only [v28, v24, v27, v21, cond_true, cond_false]; done) | (simp only [v28, v24, v27, v21, cond_true, cond_false]; simp [kvs])) ?_)) (fun w' hw' => by first | exact hw' | (simp only [v28, v24, v27, v21, cond_true, cond_false]; exact hw'))
          · cases ho
            have h21 : e 21 = true := hd ⟨21, .data⟩ (by simp) rfl
            have h28 : e 28 = true := hd ⟨28, .data⟩ (by simp) rfl
            have v29 : Eng.upd e 29 29 = true := upd_eq
            have v21 : Eng.upd e 29 21 = true := upd_mono h21
            have v28 : Eng.upd e 29 28 = true := upd_mono h28
            simp only [hei, h21, h28, cond_true, cond_false]
            apply OL.op; exact Guard.none; rfl; rfl; apply Pev.pick_or; rfl; exact yes; rfl; exact yes
            apply OL.nil
            exact At.beside x (by repeat (first | exact Sub.nil | apply Sub.cons rfl | refine Sub.cons_eq rfl (by first | (simp only [v29, v21, v28, cond_true, cond_false]; done) | (simp only [v29, v21, v28, cond_true, cond_false]; simp [kvs])) ?_)) (fun w' hw' => by first | exact hw' | (simp only [v29, v21, v28, cond_true, cond_false]; exact hw'))
        · intro x e hall
          simp only [hall 0 (by decide), hall 1 (by decide), hall 2 (by decide), hall 3 (by decide), hall 4 (by decide), hall 5 (by decide), hall 6 (by decide), hall 7 (by decide), hall 8 (by decide), hall 9 (by decide), hall 10 (by decide), hall 11 (by decide), hall 12 (by decide), hall 13 (by decide), hall 14 (by decide), hall 15 (by decide), hall 16 (by decide), hall 17 (by decide), hall 18 (by decide), hall 19 (by decide), hall 20 (by decide), hall 21 (by decide), hall 22 (by decide), hall 23 (by decide), hall 24 (by decide), hall 25 (by decide), hall 26 (by decide), hall 27 (by decide), hall 28 (by decide), hall 29 (by decide), cond_true, cond_false]
          with_reducible apply At.next
          refine W.cond rfl (fun h9 => (by cases h9)) (fun _ => ?_)
          refine W.cls (C' := Cls (SI rm r sb mb f2 m2 (sumL (kvs E2) : Nat) [row w.heap.size y2.O y2.q (kvs E2).reverse.length y2.c 45 2 (cat pc (kvs E2).reverse), blk b11 31 [.int .i64 (rm : Int), .slice y2.q (kvs E2).reverse.length y2.c]]) [w]) (fun w' hw' => hw'.thin (.keep (.keep (.keep (Thin.row ⟨Nat.le_refl _, trivial⟩ (.keep (.keep (Thin.row ⟨Nat.le_refl _, trivial⟩ (Thin.row ⟨Nat.le_refl _, trivial⟩ Thin.nil))))))))) ?_
          simp only [SI]
          apply W.skip
          with_reducible apply At.next
          apply W.seq
          apply W.reg
          apply omv; rfl; rfl
          refine OL.callE (α := RQ) (fun z => .slice z.q E2.length E2.length) (fun _ => True) (fun z => Cls (SI rm r sb mb f2 m2 (sumL (kvs E2) : Nat) [row w.heap.size z.O z.q E2.length z.c 9 1 (strs (keysR E2)), row w.heap.size y2.O y2.q (kvs E2).reverse.length y2.c 45 2 (cat pc (kvs E2).reverse), blk b11 31 [.int .i64 (rm : Int), .slice y2.q (kvs E2).reverse.length y2.c]]) [w]) rfl rfl (by (repeat (first | exact Args.nil | (apply Args.cons rfl; ((first | exact fun _ => rfl | exact fun h => h | (intro h; simp_all; done))))))) (fun w2 hw2 => ?_) ?_
          · refine (Keys_calls B rm r sb mb f2 m2 E2 _ _ [w] w2 (by omega) hs2 hw2).mono fun e w3 ⟨z, he, hc'⟩ => ⟨⟨z.q, z.c, fun k => w2.heap.size ≤ k ∧ z.O k⟩, he, trivial, ?_⟩
            exact Cls.in3 (Cls.row_base (Cls.out3 hc') (hw2.kp w (by (repeat (first | exact List.Mem.head _ | apply List.Mem.tail)))).size)
          rintro ⟨zq, zc, zO⟩ -
          simp only [SI]
          apply OL.op; exact Guard.none; rfl; rfl; apply Pev.len_slice; rfl; exact yes; rfl
          apply omv; rfl; rfl
          apply OL.nil
          with_reducible apply At.next
          apply W.block
          clear hall
          refine W.loop (G := Nat) (fun j => j ≤ E2.length) (fun j => E2.length - j)
            (fun j => [(9, true, .pointer (some ⟨sb, 0, none⟩)), (11, true, .pointer (some ⟨b11, 0, none⟩)), (64, true, .slice (some a) l.length cap), (65, true, .int .i64 (l.length : Int)), (66, true, .int .i64 (i : Int)), (152, true, .slice zq E2.length E2.length), (153, true, .int .i64 (E2.length : Int)), (154, true, .int .i64 (j : Int))])
            (fun _ => Cls (SI rm r sb mb f2 m2 (sumL (kvs E2) : Nat) [row w.heap.size zO zq E2.length zc 9 1 (strs (keysR E2)), row w.heap.size y2.O y2.q (kvs E2).reverse.length y2.c 45 2 (cat pc (kvs E2).reverse), blk b11 31 [.int .i64 (rm : Int), .slice y2.q (kvs E2).reverse.length y2.c]]) [w]) 0 (Nat.zero_le _) (by (repeat (first | exact Sub.nil | apply Sub.cons rfl))) (fun w' hw' => hw') ?_
          intro j hj
          simp only [SI]
          apply W.seq
          apply W.reg
          apply obn; rfl; rfl; rfl; apply Bin.lss
          apply OL.nil
          with_reducible apply At.next
          apply W.seq
          refine W.cond rfl (fun hjl => ?_) (fun hjl => ?_)
          · simp only [decide_eq_true_eq] at hjl
            refine W.fact (φ := (∃ g, zq = some ⟨g, 0, none⟩) ∧ ∃ g, y2.q = some ⟨g, 0, none⟩) (fun w' hw' => ⟨row_some (hw'.holds _ (.tail _ (.tail _ (.tail _ (.head _))))) (by omega), row_some (hw'.holds _ (.tail _ (.tail _ (.tail _ (.tail _ (.head _)))))) (by omega)⟩) ?_
            rintro ⟨⟨g1, rfl⟩, g2, hg2⟩
            rw [hg2]
            have hjr : j < (kvs E2).reverse.length := by omega
            have hx : (kvs E2).reverse[j]? = some (kvs E2).reverse[j] := List.getElem?_eq_getElem hjr
            generalize (kvs E2).reverse[j] = p at hx
            have hky : (keysR E2)[j]? = some p.1 := by simp only [keysR, List.getElem?_map, hx, Option.map_some]
            apply W.skip
            with_reducible apply At.next
            apply W.seq
            apply W.block
            apply W.seq
            apply W.reg
            apply omv; rfl; rfl
            apply OL.op; exact Guard.none; rfl; rfl; apply Pev.idxB; rfl; exact yes; rfl; exact yes; rfl; intro hcond; omega; rfl
            (((first | (with_reducible apply OL.op) | (with_reducible apply QL.op)); ((first | exact Guard.none | exact Guard.yes rfl rfl | exact Guard.no rfl rfl | exact Guard.cyes rfl rfl | exact Guard.cno rfl rfl)); rfl; rfl); (refine Pev.load_row (v := .string p.1) rfl (by (first | exact fun _ => rfl | exact fun h => h | (intro h; simp_all; done))) (.tail _ (.tail _ (.tail _ (.head _)))) rfl (by rw [show 0 + (j : Int).toNat * 1 = j by omega]; simp [strs, hky])))
            apply oas; rfl; rfl
            apply oas; rfl; rfl
            apply OL.nil
            with_reducible apply At.next
            apply W.seq
            apply W.reg
            apply omv; rfl; rfl
            apply ofa; rfl; rfl; rfl
            apply old; rfl; rfl; apply List.Mem.tail; apply List.Mem.tail; apply List.Mem.tail; exact .tail _ (.tail _ (.head _)); rfl; rfl
            apply omv; rfl; rfl
            apply OL.op; exact Guard.none; rfl; rfl; apply Pev.idxB; rfl; exact yes; rfl; exact yes; rfl; intro hcond; omega; rfl
            apply ofa; rfl; rfl; rfl
            (((first | (with_reducible apply OL.op) | (with_reducible apply QL.op)); ((first | exact Guard.none | exact Guard.yes rfl rfl | exact Guard.no rfl rfl | exact Guard.cyes rfl rfl | exact Guard.cno rfl rfl)); rfl; rfl); (refine Pev.load_row (v := .string p.1) rfl (by (first | exact fun _ => rfl | exact fun h => h | (intro h; simp_all; done))) (.tail _ (.tail _ (.tail _ (.tail _ (.head _))))) rfl (by
              have h8 := cat_get plen hx 0 (.string p.1) rfl
              rw [show 0 + (j : Int).toNat * 2 + 0 = j * 2 + 0 by omega]
              exact h8)))
            apply obn; rfl; rfl; rfl; apply Bin.str_neq
            apply OL.nil
            with_reducible apply At.next
            refine W.cond rfl (fun h9 => ?_) (fun _ => ?_)
            · exfalso; simp at h9
            apply W.skip
            with_reducible apply At.in_normal
            with_reducible apply At.next
            apply W.reg
            apply obn; rfl; rfl; rfl; apply Bin.add_in; omega
            apply omv; rfl; rfl
            apply OL.nil
            exact At.again (j + 1) (by omega) (by omega) (by (repeat (first | exact Sub.nil | apply Sub.cons rfl))) (fun w' hw' => hw')
          · simp only [decide_eq_false_iff_not] at hjl
            apply W.exit
            with_reducible apply At.then_exit
            with_reducible apply At.then_exit
            with_reducible apply At.in_exit
            with_reducible apply At.in_normal
            with_reducible apply At.next
            apply W.reg
            apply obn; rfl; rfl; rfl; apply Bin.add_in; omega
            apply omv; rfl; rfl
            apply OL.nil
            exact At.again ⟨i + 1, f2, m2, E2, y2⟩ ⟨by simp only; omega, hs2, hone2⟩ (by simp only; omega) (by (repeat (first | exact Sub.nil | apply Sub.cons rfl))) (fun w' hw' => hw'.thin (.keep (.keep (.keep (Thin.row ⟨Nat.le_refl _, trivial⟩ Thin.same)))))
  · apply W.exit
    with_reducible apply At.then_exit
    with_reducible apply At.then_exit
    with_reducible apply At.in_exit
    with_reducible apply At.next
    apply W.seq
    apply W.reg
    apply oas; rfl; rfl
    apply OL.nil
    with_reducible apply At.next
    apply W.ret
    ((with_reducible apply At.fin1); rfl; rfl; intro w' hw')
    exact ⟨rfl, by (exact hw'.toExt (by (repeat (first | exact List.Mem.head _ | apply List.Mem.tail))) (fun k hk => by (focus ((try simp only [add_block]); (repeat (first | exact NotOwned.nil | exact hno _ (by omega) | refine NotOwned.nothing ?_ | refine NotOwned.nds (hlow _ (by omega)) ?_ | refine NotOwned.mapS (by omega) ?_ | apply NotOwned.bif | refine NotOwned.blk (by omega) ?_ | refine NotOwned.row (by omega) ?_ | refine NotOwned.grid (by assumption) (by omega) ?_)); done))))⟩
end Go.Proofs.Ytlcclcakdfmgkaa.st
