/- The walk of climb. Conditions: none. -/
import Derived.Test.YtmmjkpbpmhaooaaFxB
namespace Go.Proofs.Ytmmjkpbpmhaooaa.fx
open Go.RowKit Go.Eng Go.Fx
set_option linter.unusedVariables false
set_option maxRecDepth 100000

structure GC where
  i : Nat
  ps : List P
  g : Nat
  last : Sig
  t : T
  left : Int
  out : List Nod
  e : Int
  y : RW
structure CR where
  i : Nat
  out : List Nod
  e : Int
  y : RW
  idx : Int
structure X5 (w0 : World) where
  b9 : Nat
  hb9 : w0.heap.size ≤ b9
  old : Nat → Value
structure X14 where
  y : RW
  old : Nat → Value
/-- what climb leaves -/
def CPost (table : List Sig) (its : List Itm) (out : List Nod) (i : Nat) (R : Option (T × List P)) (r : CR) : Prop :=
  i + 1 ≤ r.i ∧ r.i ≤ its.length ∧ r.out.length + i ≤ r.i + out.length ∧ match R with
    | none => r.e = 5
    | some (t, ps') => r.e = 0 ∧ ps' = pairs table (its.drop r.i) ∧ its.length = r.i + 2 * ps'.length ∧ r.out = out ++ flat out.length t ∧ r.idx = ((out.length + t.size - 1 : Nat) : Int)

theorem climb_calls (table : List Sig) (its : List Itm) (tq iq : Option Addr) (tc icp bb : Nat) (w0 : World) (htl : table.length ≤ 100000) (hil : its.length ≤ 1000) (ht : SlAt w0 w0.heap.size tq (cat sc table)) (hi : SlAt w0 w0.heap.size iq (cat ic its)) (hbb : w0.heap.size ≤ bb)
    (hlv : ∀ op, 0 ≤ (find table op).lev ∧ (find table op).lev ≤ 9) : ∀ (f g : Nat) (least : Int) (outer : Sig) (i : Nat) (a0 : Itm) (out : List Nod) (x : RW) (H : List Eng.Item) (w : World), its[i]? = some a0 → (pairs table (its.drop (i + 1))).length ≤ f → (pairs table (its.drop (i + 1))).length ≤ g → its.length = i + 1 + 2 * (pairs table (its.drop (i + 1))).length →
      out.length ≤ i → (∀ k, k < w0.heap.size → NotOwned H k) → Cls (bI w0.heap.size bb (.slice tq table.length tc) (.slice iq its.length icp) (i : Int) out 0 x H) [w0] w →
    Calls Try.prog 25 #[.pointer (some ⟨bb, 0, none⟩), .int .i64 least, sv outer] w fun e w' => ∃ r : CR, e = .returned (.int .i64 r.idx) ∧ CPost table its out i (loopP g least outer outer (.leaf a0.n) (pairs table (its.drop (i + 1)))) r ∧ Cls (bI w0.heap.size bb (.slice tq table.length tc) (.slice iq its.length icp) (r.i : Int) r.out r.e r.y H) [w0] w' := by
  have main : ∀ (f : Nat), (∀ (f' : Nat), f' < f → ∀ (g : Nat) (least : Int) (outer : Sig) (i : Nat) (a0 : Itm) (out : List Nod) (x : RW) (H : List Eng.Item) (w : World), its[i]? = some a0 → (pairs table (its.drop (i + 1))).length ≤ f' → (pairs table (its.drop (i + 1))).length ≤ g → its.length = i + 1 + 2 * (pairs table (its.drop (i + 1))).length →
      out.length ≤ i → (∀ k, k < w0.heap.size → NotOwned H k) → Cls (bI w0.heap.size bb (.slice tq table.length tc) (.slice iq its.length icp) (i : Int) out 0 x H) [w0] w →
    Calls Try.prog 25 #[.pointer (some ⟨bb, 0, none⟩), .int .i64 least, sv outer] w fun e w' => ∃ r : CR, e = .returned (.int .i64 r.idx) ∧ CPost table its out i (loopP g least outer outer (.leaf a0.n) (pairs table (its.drop (i + 1)))) r ∧ Cls (bI w0.heap.size bb (.slice tq table.length tc) (.slice iq its.length icp) (r.i : Int) r.out r.e r.y H) [w0] w') →
    ∀ (g : Nat) (least : Int) (outer : Sig) (i : Nat) (a0 : Itm) (out : List Nod) (x : RW) (H : List Eng.Item) (w : World), its[i]? = some a0 → (pairs table (its.drop (i + 1))).length ≤ f → (pairs table (its.drop (i + 1))).length ≤ g → its.length = i + 1 + 2 * (pairs table (its.drop (i + 1))).length →
      out.length ≤ i → (∀ k, k < w0.heap.size → NotOwned H k) → Cls (bI w0.heap.size bb (.slice tq table.length tc) (.slice iq its.length icp) (i : Int) out 0 x H) [w0] w →
    Calls Try.prog 25 #[.pointer (some ⟨bb, 0, none⟩), .int .i64 least, sv outer] w fun e w' => ∃ r : CR, e = .returned (.int .i64 r.idx) ∧ CPost table its out i (loopP g least outer outer (.leaf a0.n) (pairs table (its.drop (i + 1)))) r ∧ Cls (bI w0.heap.size bb (.slice tq table.length tc) (.slice iq its.length icp) (r.i : Int) r.out r.e r.y H) [w0] w' := by
    intro f ih g least outer i a0 out x H w ha0 hpf hpg hlen hoi hno hc
    obtain ⟨q, c, O⟩ := x
    have hil2 := (List.getElem?_eq_some_iff.1 ha0).1
    obtain ⟨ai, a0', rfl, hab, ha0', hcell0⟩ := hi.elem ilen (by decide) hil2
    rw [ha0] at ha0'
    obtain rfl := Option.some.inj ha0'
    unfold ic at hcell0
    refine enter Try.func25 rfl Try.ntmps25 rfl hc ?_
    (simp only [argEnv, Nat.zero_add, Nat.reduceAdd])
    unfold sv sc
    apply W.seq
    apply W.reg
    apply OL.box; rfl; rfl; exact CellsL.agg; (intro bk hbk; simp only [AllLe, and_true] at hbk)
    apply oas; rfl; rfl
    apply OL.nil
    with_reducible apply At.next
    apply W.seq
    revert bk
    intro b5 hb5
    refine W.cls (C' := Cls (bI w0.heap.size bb (.slice tq table.length tc) (.slice (some ai) its.length icp) (i : Int) out 0 ⟨q, c, O⟩ (blk b5 59 [.string outer.op, .int .i64 outer.side, .int .i64 outer.lev] :: H)) [w0]) (fun w' hw' => hw'.back2) ?_
    refine W.regn 13 (by (repeat (first | exact SplitN.z | apply SplitN.s))) (by kernel_rfl) (by decide +kernel) (fun w hw => hw.drew) ?_
    apply qmv; rfl; rfl
    apply qmv; rfl; rfl
    apply QL.op; exact Guard.none; rfl; rfl; apply Pev.nil_ptr; rfl; exact yes
    apply qfa; rfl; rfl; rfl
    apply qld; rfl; rfl; exact .tail _ (.head _); rfl; rfl
    apply qmv; rfl; rfl
    apply QL.op; exact Guard.none; rfl; rfl; apply Pev.nil_ptr; rfl; exact yes
    apply qfa; rfl; rfl; rfl
    apply qld; rfl; rfl; exact .tail _ (.head _); rfl; rfl
    apply QL.op; exact Guard.none; rfl; rfl; apply Pev.idx; rfl; exact yes; rfl; exact yes; rfl; rfl; intro hcond; omega
    apply QL.op; exact Guard.none; rfl; rfl; apply Pev.fldA; rfl; exact yes; rfl
    apply QL.op; exact Guard.none; rfl; rfl; apply Pev.load_kept; rfl; exact yes; exact .head _; rfl; intro hcond; apply CellsAt.at_ (by assumption) rfl; intro hcond; (simp only [add_block]; assumption); intro hcond; simp only [add_block]; refine NotOwned.row (by omega) ?_; refine NotOwned.blk (by omega) ?_; refine NotOwned.blk (by omega) ?_; exact hno _ (by omega)
    apply QL.op; exact Guard.none; rfl; rfl; apply Pev.build; rfl; exact CellsL.agg; rfl; apply Fill.cons rfl; exact CellsL.one rfl; rfl; rfl; apply Put.skip; apply Put.here; apply Over.cons; apply Over.nil; apply Fill.nil; rfl
    with_reducible apply QL.tail
    refine OL.callE (α := RW) (fun _ => .int .i64 (out.length : Int)) (fun _ => True) (fun y => Cls (bI w0.heap.size bb (.slice tq table.length tc) (.slice (some ai) its.length icp) (i : Int) (out ++ [⟨⟨#[]⟩, a0.n, 0, 0⟩]) 0 y (blk b5 59 [.string outer.op, .int .i64 outer.side, .int .i64 outer.lev] :: H)) [w0]) rfl rfl (by (repeat (first | exact Args.nil | (apply Args.cons rfl; ((first | exact fun _ => rfl | exact fun h => h | (intro h; simp_all; done))))))) (fun w3 hw3 => put_calls ⟨⟨#[]⟩, a0.n, 0, 0⟩ _ bb _ _ _ out 0 ⟨q, c, O⟩ _ w0 w3 hw3 rfl (by omega)) ?_
    rintro ⟨q1, c1, O1⟩ -
    have e1 : (out ++ [(⟨⟨#[]⟩, a0.n, 0, 0⟩ : Nod)]).length = out.length + 1 := by simp
    have e2 : out ++ [(⟨⟨#[]⟩, a0.n, 0, 0⟩ : Nod)] = out ++ flat out.length (.leaf a0.n) := rfl
    rw [e2]
    rw [e2] at e1
    simp only [bI]
    apply oas; rfl; rfl
    apply OL.nil
    with_reducible apply At.next
    apply W.seq
    apply W.reg
    apply omv; rfl; rfl
    apply OL.op; exact Guard.none; rfl; rfl; apply Pev.nil_ptr; rfl; exact yes
    apply ofa; rfl; rfl; rfl
    apply old; rfl; rfl; exact .tail _ (.head _); rfl; rfl
    apply obn; rfl; rfl; rfl; apply Bin.add_in; omega
    apply OL.op; exact Guard.none; rfl; rfl; apply Pev.nil_ptr; rfl; exact yes
    apply ofa; rfl; rfl; rfl
    apply OL.storeB; rfl; rfl; exact CellsL.one rfl; rfl; rfl; rfl; apply Swap.s; apply Swap.z; apply Put.skip; apply Put.skip; apply Put.here; apply Over.cons; apply Over.nil
    apply OL.nil
    with_reducible apply At.next
    apply W.seq
    apply W.reg
    apply OL.op; exact Guard.none; rfl; rfl; apply Pev.load_blkA; rfl; exact yes; exact .tail _ (.tail _ (.head _)); rfl; apply Take.succ; apply Take.succ; apply Take.succ; apply Take.zero
    apply OL.alloc; rfl; rfl; exact CellsL.agg; (intro bk hbk; simp only [AllLe, and_true] at hbk)
    apply OL.storeB; rfl; rfl; exact CellsL.agg; rfl; rfl; rfl; apply Swap.z; apply Put.here; apply Over.cons; apply Over.cons; apply Over.cons; apply Over.nil
    apply OL.nil
    with_reducible apply At.next
    apply W.seq
    apply W.block
    refine W.cls (C' := Cls (bI w0.heap.size bb (.slice tq table.length tc) (.slice (some ai) its.length icp) ((i + 1 : Nat) : Int) (out ++ flat out.length (.leaf a0.n)) 0 ⟨q1, c1, O1⟩ (blk bk 59 [.string outer.op, .int .i64 outer.side, .int .i64 outer.lev] :: blk b5 59 [.string outer.op, .int .i64 outer.side, .int .i64 outer.lev] :: H)) [w0]) (fun w' hw' => hw'.back2) ?_
    revert bk
    intro b8 hb8
    generalize hR : loopP g least outer outer (.leaf a0.n) (pairs table (its.drop (i + 1))) = R
    refine W.loop (G := GC) (fun s => i + 1 ≤ s.i ∧ s.i ≤ its.length ∧ s.out.length + i ≤ s.i + out.length ∧ ((s.e = 0 ∧ s.ps = pairs table (its.drop s.i) ∧ its.length = s.i + 2 * s.ps.length ∧ s.ps.length ≤ s.g ∧ s.ps.length ≤ f ∧ loopP s.g least outer s.last s.t s.ps = R ∧ s.out = out ++ flat out.length s.t ∧ s.left = ((out.length + s.t.size - 1 : Nat) : Int)) ∨ (s.e = 5 ∧ R = none))) (fun s => its.length - s.i)
      (fun s => [(0, true, .pointer (some ⟨bb, 0, none⟩)), (1, true, .int .i64 least), (5, true, .pointer (some ⟨b5, 0, none⟩)), (7, true, .int .i64 s.left), (8, true, .pointer (some ⟨b8, 0, none⟩))])
      (fun s => Cls (bI w0.heap.size bb (.slice tq table.length tc) (.slice (some ai) its.length icp) (s.i : Int) s.out s.e s.y (blk b8 59 [.string s.last.op, .int .i64 s.last.side, .int .i64 s.last.lev] :: blk b5 59 [.string outer.op, .int .i64 outer.side, .int .i64 outer.lev] :: H)) [w0])
      ⟨i + 1, pairs table (its.drop (i + 1)), g, outer, .leaf a0.n, (out.length : Int), out ++ flat out.length (.leaf a0.n), 0, ⟨q1, c1, O1⟩⟩
      ⟨by simp only; omega, by simp only; omega, by simp only [e1]; omega, .inl ⟨rfl, rfl, by simp only; omega, hpg, hpf, hR, rfl, by simp only [T.size]; omega⟩⟩ (by (repeat (first | exact Sub.nil | apply Sub.cons rfl))) (fun w' hw' => hw') ?_
    clear hR
    rintro ⟨i2, ps, g2, last, t, left, out2, e2', ⟨q2, c2, O2⟩⟩ ⟨hi1, hi2, hol2, hst⟩
    simp only at hi1 hi2 hol2 hst
    simp only [bI]
    apply W.seq
    apply W.seq
    apply W.regd0; decide +kernel; kernel_rfl; decide +kernel; exact fun w hw => hw.drew
    apply qmv; rfl; rfl
    apply QL.op; exact Guard.none; rfl; rfl; apply Pev.nil_ptr; rfl; exact yes
    apply qfa; rfl; rfl; rfl
    apply qld; rfl; rfl; exact .tail _ (.head _); rfl; rfl
    apply qbn; rfl; rfl; rfl; apply Bin.eql
    apply qmv; rfl; rfl
    apply QL.op; exact Guard.yes rfl rfl; rfl; rfl; apply Pev.move; rfl; exact yes
    apply QL.op; exact Guard.yes rfl rfl; rfl; rfl; apply Pev.nil_ptr; rfl; exact fun h => h
    apply QL.op; exact Guard.yes rfl rfl; rfl; rfl; apply Pev.fld; rfl; exact fun h => h; rfl
    apply QL.op; exact Guard.yes rfl rfl; rfl; rfl; apply Pev.load_blk; rfl; exact fun h => h; exact .tail _ (.head _); rfl; rfl
    apply QL.op; exact Guard.yes rfl rfl; rfl; rfl; apply Pev.move; rfl; exact yes
    apply QL.op; exact Guard.yes rfl rfl; rfl; rfl; apply Pev.nil_ptr; rfl; exact fun h => h
    apply QL.op; exact Guard.yes rfl rfl; rfl; rfl; apply Pev.fld; rfl; exact fun h => h; rfl
    apply QL.op; exact Guard.yes rfl rfl; rfl; rfl; apply Pev.load_blk; rfl; exact fun h => h; exact .tail _ (.head _); rfl; rfl
    apply QL.op; exact Guard.yes rfl rfl; rfl; rfl; apply Pev.len_slice; rfl; exact fun h => h; rfl
    apply QL.op; exact Guard.yes rfl rfl; rfl; rfl; apply Pev.bin; rfl; exact fun h => h; rfl; exact fun h => h; intro hcond; apply Bin.lss
    apply QL.op; exact Guard.none; rfl; rfl; apply Pev.pick_and; rfl; exact yes; rfl; exact fun h => h
    apply QL.nil
    with_reducible apply At.next
    refine W.cond rfl (fun hc1 => ?_) (fun hc1 => ?_)
    · simp only [Bool.and_eq_true, decide_eq_true_eq] at hc1
      obtain ⟨rfl, hlt⟩ := hc1
      obtain ⟨_, hps, hlen2, hpg2, hpf2, hR, hout, hleft⟩ := hst.resolve_right (fun h => absurd h.1 (by decide))
      have hi2l : i2 < its.length := by omega
      have hi3l : i2 + 1 < its.length := by omega
      obtain ⟨ax, o, hae, _, ho, hcello⟩ := hi.elem ilen (by decide) hi2l
      cases hae
      have ha : its[i2 + 1]? = some (its[i2 + 1]'hi3l) := List.getElem?_eq_getElem hi3l
      generalize its[i2 + 1] = a at ha
      have hpc := pairs_cons (table := table) ho ha
      rw [← hps] at hpc
      have hlvx := hlv o.op
      generalize hx : find table o.op = x at hpc hlvx
      generalize hr : pairs table (its.drop (i2 + 2)) = r at hpc
      subst hpc
      simp only [List.length_cons] at hlen2 hpg2 hpf2
      obtain ⟨g3, rfl⟩ : ∃ g3, g2 = g3 + 1 := ⟨g2 - 1, by omega⟩
      rw [loopP] at hR
      unfold ic at hcello
      apply W.skip
      with_reducible apply At.next
      apply W.block
      apply W.seq
      refine W.regany (X := X5 w0) (fun xx e => [(9, true, bif e 16 then .pointer (some ⟨xx.b9, 0, none⟩) else xx.old 9), (66, true, bif e 15 then .agg #[.string x.op, .int .i64 x.side, .int .i64 x.lev] else xx.old 66), (65, true, bif e 14 then .string o.op else xx.old 65), (64, true, bif e 13 then .pointer (some ((ai.add (i2 * 2)).add 0)) else xx.old 64), (63, true, bif e 12 then .pointer (some (ai.add (i2 * 2))) else xx.old 63), (62, true, bif e 11 then .int .i64 (i2 : Int) else xx.old 62), (61, true, bif e 10 then .pointer (some ⟨bb, 0 + 2, none⟩) else xx.old 61), (60, true, bif e 9 then .pointer (some ⟨bb, 0, none⟩) else xx.old 60), (59, true, bif e 8 then .pointer (some ⟨bb, 0, none⟩) else xx.old 59), (58, true, bif e 7 then .slice (some ai) its.length icp else xx.old 58), (57, true, bif e 6 then .pointer (some ⟨bb, 0 + 1, none⟩) else xx.old 57), (56, true, bif e 5 then .pointer (some ⟨bb, 0, none⟩) else xx.old 56), (55, true, bif e 4 then .pointer (some ⟨bb, 0, none⟩) else xx.old 55), (54, true, bif e 3 then .slice tq table.length tc else xx.old 54), (53, true, bif e 2 then .pointer (some ⟨bb, 0 + 0, none⟩) else xx.old 53), (52, true, bif e 1 then .pointer (some ⟨bb, 0, none⟩) else xx.old 52), (51, true, bif e 0 then .pointer (some ⟨bb, 0, none⟩) else xx.old 51), (0, true, .pointer (some ⟨bb, 0, none⟩)), (1, true, .int .i64 least), (5, true, .pointer (some ⟨b5, 0, none⟩)), (7, true, .int .i64 left), (8, true, .pointer (some ⟨b8, 0, none⟩))])
        (fun xx e => (row w0.heap.size O2 q2 out2.length c2 45 4 (cat nc out2)) :: (blk bb 56 [.slice tq table.length tc, .slice (some ai) its.length icp, .int .i64 (i2 : Int), .slice q2 out2.length c2, .int .i64 0]) :: (bif e 16 then blk xx.b9 59 [bif e 17 then .string x.op else .string ⟨#[]⟩, bif e 17 then .int .i64 x.side else .int .i64 0, bif e 17 then .int .i64 x.lev else .int .i64 0] else nothing) :: (blk b8 59 [.string last.op, .int .i64 last.side, .int .i64 last.lev]) :: (blk b5 59 [.string outer.op, .int .i64 outer.side, .int .i64 outer.lev]) :: H)
        (fun old => ⟨w0.heap.size, Nat.le_refl _, old⟩) (by kernel_rfl) (by kernel_rfl) (fun w hw => hw.drew) (fun old => by repeat (first | exact SubO.nil | apply SubO.cons rfl | refine SubO.old rfl ?_)) (fun old w' hw' => hw'.nothing_cons.back2) ?_ ?_
      · intro xx e ii oo ho hei hd hcl
        have hxb := xx.hb9
        have hii : ii < 18 := (List.getElem?_eq_some_iff.1 ho).1
        obtain rfl | rfl | rfl | rfl | rfl | rfl | rfl | rfl | rfl | rfl | rfl | rfl | rfl | rfl | rfl | rfl | rfl | rfl : ii = 0 ∨ ii = 1 ∨ ii = 2 ∨ ii = 3 ∨ ii = 4 ∨ ii = 5 ∨ ii = 6 ∨ ii = 7 ∨ ii = 8 ∨ ii = 9 ∨ ii = 10 ∨ ii = 11 ∨ ii = 12 ∨ ii = 13 ∨ ii = 14 ∨ ii = 15 ∨ ii = 16 ∨ ii = 17 := by omega
        · cases ho
          have v0 : Eng.upd e 0 0 = true := upd_eq
          simp only [hei, cond_true, cond_false]
          apply omv; rfl; rfl
          apply OL.nil
          exact At.beside xx (by repeat (first | exact Sub.nil | apply Sub.cons rfl | refine Sub.cons_eq rfl (by simp only [v0, cond_true, cond_false]) ?_)) (fun w' hw' => by first | exact hw' | (simp only [v0, cond_true, cond_false]; exact hw'))
        · cases ho
          have h0 : e 0 = true := hd ⟨0, .data⟩ (by simp) rfl
          have v1 : Eng.upd e 1 1 = true := upd_eq
          have v0 : Eng.upd e 1 0 = true := upd_mono h0
          simp only [hei, h0, cond_true, cond_false]
          apply OL.op; exact Guard.none; rfl; rfl; apply Pev.nil_ptr; rfl; exact yes
          apply OL.nil
          exact At.beside xx (by repeat (first | exact Sub.nil | apply Sub.cons rfl | refine Sub.cons_eq rfl (by simp only [v1, v0, cond_true, cond_false]) ?_)) (fun w' hw' => by first | exact hw' | (simp only [v1, v0, cond_true, cond_false]; exact hw'))
        · cases ho
          have h1 : e 1 = true := hd ⟨1, .data⟩ (by simp) rfl
          have v2 : Eng.upd e 2 2 = true := upd_eq
          have v1 : Eng.upd e 2 1 = true := upd_mono h1
          simp only [hei, h1, cond_true, cond_false]
          apply ofa; rfl; rfl; rfl
          apply OL.nil
          exact At.beside xx (by repeat (first | exact Sub.nil | apply Sub.cons rfl | refine Sub.cons_eq rfl (by simp only [v2, v1, cond_true, cond_false]) ?_)) (fun w' hw' => by first | exact hw' | (simp only [v2, v1, cond_true, cond_false]; exact hw'))
        · cases ho
          have h2 : e 2 = true := hd ⟨2, .data⟩ (by simp) rfl
          have v3 : Eng.upd e 3 3 = true := upd_eq
          have v2 : Eng.upd e 3 2 = true := upd_mono h2
          simp only [hei, h2, cond_true, cond_false]
          apply old; rfl; rfl; exact .tail _ (.head _); rfl; rfl
          apply OL.nil
          exact At.beside xx (by repeat (first | exact Sub.nil | apply Sub.cons rfl | refine Sub.cons_eq rfl (by simp only [v3, v2, cond_true, cond_false]) ?_)) (fun w' hw' => by first | exact hw' | (simp only [v3, v2, cond_true, cond_false]; exact hw'))
        · cases ho
          have v4 : Eng.upd e 4 4 = true := upd_eq
          simp only [hei, cond_true, cond_false]
          apply omv; rfl; rfl
          apply OL.nil
          exact At.beside xx (by repeat (first | exact Sub.nil | apply Sub.cons rfl | refine Sub.cons_eq rfl (by simp only [v4, cond_true, cond_false]) ?_)) (fun w' hw' => by first | exact hw' | (simp only [v4, cond_true, cond_false]; exact hw'))
        · cases ho
          have h4 : e 4 = true := hd ⟨4, .data⟩ (by simp) rfl
          have v5 : Eng.upd e 5 5 = true := upd_eq
          have v4 : Eng.upd e 5 4 = true := upd_mono h4
          simp only [hei, h4, cond_true, cond_false]
          apply OL.op; exact Guard.none; rfl; rfl; apply Pev.nil_ptr; rfl; exact yes
          apply OL.nil
          exact At.beside xx (by repeat (first | exact Sub.nil | apply Sub.cons rfl | refine Sub.cons_eq rfl (by simp only [v5, v4, cond_true, cond_false]) ?_)) (fun w' hw' => by first | exact hw' | (simp only [v5, v4, cond_true, cond_false]; exact hw'))
        · cases ho
          have h5 : e 5 = true := hd ⟨5, .data⟩ (by simp) rfl
          have v6 : Eng.upd e 6 6 = true := upd_eq
          have v5 : Eng.upd e 6 5 = true := upd_mono h5
          simp only [hei, h5, cond_true, cond_false]
          apply ofa; rfl; rfl; rfl
          apply OL.nil
          exact At.beside xx (by repeat (first | exact Sub.nil | apply Sub.cons rfl | refine Sub.cons_eq rfl (by simp only [v6, v5, cond_true, cond_false]) ?_)) (fun w' hw' => by first | exact hw' | (simp only [v6, v5, cond_true, cond_false]; exact hw'))
        · cases ho
          have h6 : e 6 = true := hd ⟨6, .data⟩ (by simp) rfl
          have v7 : Eng.upd e 7 7 = true := upd_eq
          have v6 : Eng.upd e 7 6 = true := upd_mono h6
          simp only [hei, h6, cond_true, cond_false]
          apply old; rfl; rfl; exact .tail _ (.head _); rfl; rfl
          apply OL.nil
          exact At.beside xx (by repeat (first | exact Sub.nil | apply Sub.cons rfl | refine Sub.cons_eq rfl (by simp only [v7, v6, cond_true, cond_false]) ?_)) (fun w' hw' => by first | exact hw' | (simp only [v7, v6, cond_true, cond_false]; exact hw'))
        · cases ho
          have v8 : Eng.upd e 8 8 = true := upd_eq
          simp only [hei, cond_true, cond_false]
          apply omv; rfl; rfl
          apply OL.nil
          exact At.beside xx (by repeat (first | exact Sub.nil | apply Sub.cons rfl | refine Sub.cons_eq rfl (by simp only [v8, cond_true, cond_false]) ?_)) (fun w' hw' => by first | exact hw' | (simp only [v8, cond_true, cond_false]; exact hw'))
        · cases ho
          have h8 : e 8 = true := hd ⟨8, .data⟩ (by simp) rfl
          have v9 : Eng.upd e 9 9 = true := upd_eq
          have v8 : Eng.upd e 9 8 = true := upd_mono h8
          simp only [hei, h8, cond_true, cond_false]
          apply OL.op; exact Guard.none; rfl; rfl; apply Pev.nil_ptr; rfl; exact yes
          apply OL.nil
          exact At.beside xx (by repeat (first | exact Sub.nil | apply Sub.cons rfl | refine Sub.cons_eq rfl (by simp only [v9, v8, cond_true, cond_false]) ?_)) (fun w' hw' => by first | exact hw' | (simp only [v9, v8, cond_true, cond_false]; exact hw'))
        · cases ho
          have h9 : e 9 = true := hd ⟨9, .data⟩ (by simp) rfl
          have v10 : Eng.upd e 10 10 = true := upd_eq
          have v9 : Eng.upd e 10 9 = true := upd_mono h9
          simp only [hei, h9, cond_true, cond_false]
          apply ofa; rfl; rfl; rfl
          apply OL.nil
          exact At.beside xx (by repeat (first | exact Sub.nil | apply Sub.cons rfl | refine Sub.cons_eq rfl (by simp only [v10, v9, cond_true, cond_false]) ?_)) (fun w' hw' => by first | exact hw' | (simp only [v10, v9, cond_true, cond_false]; exact hw'))
        · cases ho
          have h10 : e 10 = true := hd ⟨10, .data⟩ (by simp) rfl
          have v11 : Eng.upd e 11 11 = true := upd_eq
          have v10 : Eng.upd e 11 10 = true := upd_mono h10
          simp only [hei, h10, cond_true, cond_false]
          apply old; rfl; rfl; exact .tail _ (.head _); rfl; rfl
          apply OL.nil
          exact At.beside xx (by repeat (first | exact Sub.nil | apply Sub.cons rfl | refine Sub.cons_eq rfl (by simp only [v11, v10, cond_true, cond_false]) ?_)) (fun w' hw' => by first | exact hw' | (simp only [v11, v10, cond_true, cond_false]; exact hw'))
        · cases ho
          have h7 : e 7 = true := hd ⟨7, .data⟩ (by simp) rfl
          have h11 : e 11 = true := hd ⟨11, .data⟩ (by simp) rfl
          have v12 : Eng.upd e 12 12 = true := upd_eq
          have v7 : Eng.upd e 12 7 = true := upd_mono h7
          have v11 : Eng.upd e 12 11 = true := upd_mono h11
          simp only [hei, h7, h11, cond_true, cond_false]
          apply OL.op; exact Guard.none; rfl; rfl; apply Pev.idx; rfl; exact yes; rfl; exact yes; rfl; rfl; intro hcond; omega
          apply OL.nil
          exact At.beside xx (by repeat (first | exact Sub.nil | apply Sub.cons rfl | refine Sub.cons_eq rfl (by simp only [v12, v7, v11, cond_true, cond_false]) ?_)) (fun w' hw' => by first | exact hw' | (simp only [v12, v7, v11, cond_true, cond_false]; exact hw'))
        · cases ho
          have h12 : e 12 = true := hd ⟨12, .data⟩ (by simp) rfl
          have v13 : Eng.upd e 13 13 = true := upd_eq
          have v12 : Eng.upd e 13 12 = true := upd_mono h12
          simp only [hei, h12, cond_true, cond_false]
          apply OL.op; exact Guard.none; rfl; rfl; apply Pev.fldA; rfl; exact yes; rfl
          apply OL.nil
          exact At.beside xx (by repeat (first | exact Sub.nil | apply Sub.cons rfl | refine Sub.cons_eq rfl (by simp only [v13, v12, cond_true, cond_false]) ?_)) (fun w' hw' => by first | exact hw' | (simp only [v13, v12, cond_true, cond_false]; exact hw'))
        · cases ho
          have h13 : e 13 = true := hd ⟨13, .data⟩ (by simp) rfl
          have v14 : Eng.upd e 14 14 = true := upd_eq
          have v13 : Eng.upd e 14 13 = true := upd_mono h13
          simp only [hei, h13, cond_true, cond_false]
          apply OL.op; exact Guard.none; rfl; rfl; apply Pev.load_kept; rfl; exact yes; exact .head _; rfl; intro hcond; apply CellsAt.at_ (by assumption) rfl; intro hcond; (simp only [add_block]; assumption); intro hcond; simp only [add_block]; refine NotOwned.row (by omega) ?_; refine NotOwned.blk (by omega) ?_; apply NotOwned.bif; refine NotOwned.blk (by omega) ?_; exact NotOwned.nil; refine NotOwned.nothing ?_; exact NotOwned.nil; refine NotOwned.blk (by omega) ?_; refine NotOwned.blk (by omega) ?_; exact hno _ (by omega)
          apply OL.nil
          exact At.beside xx (by repeat (first | exact Sub.nil | apply Sub.cons rfl | refine Sub.cons_eq rfl (by simp only [v14, v13, cond_true, cond_false]) ?_)) (fun w' hw' => by first | exact hw' | (simp only [v14, v13, cond_true, cond_false]; exact hw'))
        · cases ho
          have h3 : e 3 = true := hd ⟨3, .data⟩ (by simp) rfl
          have h14 : e 14 = true := hd ⟨14, .data⟩ (by simp) rfl
          have v15 : Eng.upd e 15 15 = true := upd_eq
          have v3 : Eng.upd e 15 3 = true := upd_mono h3
          have v14 : Eng.upd e 15 14 = true := upd_mono h14
          simp only [hei, h3, h14, cond_true, cond_false]
          (((first | (with_reducible apply OL.op) | (with_reducible apply QL.op)); ((first | exact Guard.none | exact Guard.yes rfl rfl | exact Guard.no rfl rfl | exact Guard.cyes rfl rfl | exact Guard.cno rfl rfl)); rfl; rfl); (refine Pev.call (v := .agg #[.string x.op, .int .i64 x.side, .int .i64 x.lev]) rfl (by (repeat (first | exact Args.nil | (apply Args.cons rfl; ((first | exact fun _ => rfl | exact fun h => h | (intro h; simp_all; done))))))) (fun _ w3 hw3 => ?_)))
          · refine (Find_calls tq tc table o.op w3 (by omega) (ht.keep (hw3.below (s := w0) (by (repeat (first | exact List.Mem.head _ | apply List.Mem.tail))) (Nat.le_refl _) (fun k hk => by (focus ((try simp only [add_block]); (repeat (first | exact NotOwned.nil | exact hno _ (by omega) | refine NotOwned.nothing ?_ | apply NotOwned.bif | refine NotOwned.blk (by omega) ?_ | refine NotOwned.row (by omega) ?_ | refine NotOwned.grid (by assumption) (by omega) ?_)); done)))) (hw3.kp w0 (by (repeat (first | exact List.Mem.head _ | apply List.Mem.tail)))).size)).mono (fun e w4 h => ⟨?_, hw3.ext h.2⟩)
            rw [hx] at h
            exact h.1
          apply OL.nil
          exact At.beside xx (by repeat (first | exact Sub.nil | apply Sub.cons rfl | refine Sub.cons_eq rfl (by simp only [v15, v3, v14, cond_true, cond_false]) ?_)) (fun w' hw' => by first | exact hw' | (simp only [v15, v3, v14, cond_true, cond_false]; exact hw'))
        · cases ho
          have h17 : e 17 = false := hcl.not (i := 16) (j := 17) rfl hei (by kernel_rfl)
          have v16 : Eng.upd e 16 16 = true := upd_eq
          have v17 : Eng.upd e 16 17 = false := h17
          simp only [hei, h17, cond_true, cond_false]
          apply OL.alloc; rfl; rfl; exact CellsL.agg; (intro bk hbk; simp only [AllLe, and_true] at hbk)
          apply OL.nil
          exact At.beside { xx with b9 := bk, hb9 := hbk } (by repeat (first | exact Sub.nil | apply Sub.cons rfl | refine Sub.cons_eq rfl (by simp only [v16, v17, cond_true, cond_false]) ?_)) (fun w' hw' => by simp only [v16, v17, cond_true, cond_false]; exact Cls.fill (p := 2) (H := _ :: _ :: _ :: _ :: _ :: H) (.s (.s .z)) hw')
        · cases ho
          have h15 : e 15 = true := hd ⟨15, .data⟩ (by simp) rfl
          have h16 : e 16 = true := hd ⟨16, .data⟩ (by simp) rfl
          have v17 : Eng.upd e 17 17 = true := upd_eq
          have v15 : Eng.upd e 17 15 = true := upd_mono h15
          have v16 : Eng.upd e 17 16 = true := upd_mono h16
          simp only [hei, h15, h16, cond_true, cond_false]
          apply OL.storeB; rfl; rfl; exact CellsL.agg; rfl; rfl; rfl; apply Swap.s; apply Swap.s; apply Swap.z; apply Put.here; apply Over.cons; apply Over.cons; apply Over.cons; apply Over.nil
          apply OL.nil
          exact At.beside xx (by repeat (first | exact Sub.nil | apply Sub.cons rfl | refine Sub.cons_eq rfl (by simp only [v17, v15, v16, cond_true, cond_false]) ?_)) (fun w' hw' => by first | exact hw' | (simp only [v17, v15, v16, cond_true, cond_false]; exact hw'))
      · intro xx ee hall
        have h16 := hall 16 (by decide)
        have h17 := hall 17 (by decide)
        simp only [h16, h17, cond_true]
        have hb9 := xx.hb9
        generalize xx.b9 = b9 at hb9 ⊢
        with_reducible apply At.next
        apply W.seq
        apply W.seq
        apply W.reg
        apply ofa; rfl; rfl; rfl
        apply old; rfl; rfl; exact .tail _ (.tail _ (.head _)); rfl; rfl
        apply omv; rfl; rfl
        apply obn; rfl; rfl; rfl; apply Bin.lss
        apply OL.nil
        with_reducible apply At.next
        (refine W.cond rfl (fun hlow => ?_) (fun hlow => ?_)) <;> (try (simp only [Bool.and_eq_true, Bool.or_eq_true, Bool.not_eq_true', Bool.and_eq_false_iff, Bool.or_eq_false_iff, Bool.not_eq_false', decide_eq_true_eq, decide_eq_false_iff_not, Int.not_lt, Int.not_le] at hlow)) <;> (try (exfalso; first | omega | exact hlow trivial | contradiction))
        · rw [if_pos hlow] at hR
          apply W.exit
          with_reducible apply At.then_exit
          apply At.in_other; rfl
          with_reducible apply At.then_exit
          with_reducible apply At.in_exit
          with_reducible apply At.next
          apply W.seq
          apply W.reg
          apply omv; rfl; rfl
          apply oas; rfl; rfl
          apply OL.nil
          with_reducible apply At.next
          apply W.ret
          ((with_reducible apply At.fin1); rfl; rfl; intro w' hw')
          exact ⟨⟨i2, out2, 0, ⟨q2, c2, O2⟩, left⟩, rfl, ⟨hi1, hi2, hol2, by rw [← hR]; exact ⟨rfl, hps, by simp only [List.length_cons]; omega, hout, hleft⟩⟩, hw'.thin (by (repeat (first | exact Thin.nil | exact Thin.same | apply Thin.keep | (refine Thin.blk (by assumption) ?_) | (refine Thin.blk (by simp only [AllLe, and_true]; omega) ?_))))⟩
        · rw [if_neg (by omega)] at hR
          apply W.skip
          with_reducible apply At.next
          apply W.seq
          apply W.seq
          apply W.reg
          apply OL.op; exact Guard.none; rfl; rfl; apply Pev.load_blkA; rfl; exact yes; exact .tail _ (.tail _ (.head _)); rfl; apply Take.succ; apply Take.succ; apply Take.succ; apply Take.zero
          apply OL.op; exact Guard.none; rfl; rfl; apply Pev.load_blkA; rfl; exact yes; apply List.Mem.tail; apply List.Mem.tail; exact .tail _ (.tail _ (.head _)); rfl; apply Take.succ; apply Take.succ; apply Take.succ; apply Take.zero
          (((first | (with_reducible apply OL.op) | (with_reducible apply QL.op)); ((first | exact Guard.none | exact Guard.yes rfl rfl | exact Guard.no rfl rfl | exact Guard.cyes rfl rfl | exact Guard.cno rfl rfl)); rfl; rfl); (refine Pev.call (v := .bool (against x outer)) rfl (by (repeat (first | exact Args.nil | (apply Args.cons rfl; ((first | exact fun _ => rfl | exact fun h => h | (intro h; simp_all; done))))))) (fun _ w3 hw3 => (against_calls x outer w3).mono (fun e w4 h => ⟨h.1, hw3.ext h.2⟩))))
          apply omv; rfl; rfl
          apply OL.op; exact Guard.no rfl rfl; rfl; rfl; apply Pev.load_blkA; rfl; exact yes; exact .tail _ (.tail _ (.head _)); rfl; apply Take.succ; apply Take.succ; apply Take.succ; apply Take.zero
          apply OL.op; exact Guard.no rfl rfl; rfl; rfl; apply Pev.load_blkA; rfl; exact yes; apply List.Mem.tail; exact .tail _ (.tail _ (.head _)); rfl; apply Take.succ; apply Take.succ; apply Take.succ; apply Take.zero
          (((first | (with_reducible apply OL.op) | (with_reducible apply QL.op)); ((first | exact Guard.none | exact Guard.yes rfl rfl | exact Guard.no rfl rfl | exact Guard.cyes rfl rfl | exact Guard.cno rfl rfl)); rfl; rfl); (refine Pev.call (v := .bool (against x last)) rfl (by (repeat (first | exact Args.nil | (apply Args.cons rfl; ((first | exact fun _ => rfl | exact fun h => h | (intro h; simp_all; done))))))) (fun _ w3 hw3 => (against_calls x last w3).mono (fun e w4 h => ⟨h.1, hw3.ext h.2⟩))))
          apply OL.op; exact Guard.none; rfl; rfl; apply Pev.pick_or; rfl; exact yes; rfl; exact fun h => h
          apply OL.nil
          with_reducible apply At.next
          refine W.cond rfl (fun hag => ?_) (fun hag => ?_)
          · rw [if_pos hag] at hR
            apply W.seq
            apply W.reg
            apply omv; rfl; rfl
            apply OL.op; exact Guard.none; rfl; rfl; apply Pev.nil_ptr; rfl; exact yes
            apply ofa; rfl; rfl; rfl
            apply OL.storeB; rfl; rfl; exact CellsL.one rfl; rfl; rfl; rfl; apply Swap.s; apply Swap.z; apply Put.skip; apply Put.skip; apply Put.skip; apply Put.skip; apply Put.here; apply Over.cons; apply Over.nil
            apply OL.nil
            with_reducible apply At.next
            apply W.exit
            with_reducible apply At.then_exit
            apply At.in_other; rfl
            with_reducible apply At.then_exit
            with_reducible apply At.in_exit
            with_reducible apply At.next
            apply W.seq
            apply W.reg
            apply omv; rfl; rfl
            apply oas; rfl; rfl
            apply OL.nil
            with_reducible apply At.next
            apply W.ret
            ((with_reducible apply At.fin1); rfl; rfl; intro w' hw')
            exact ⟨⟨i2, out2, 5, ⟨q2, c2, O2⟩, left⟩, rfl, ⟨hi1, hi2, hol2, by rw [← hR]⟩, hw'.thin (by (repeat (first | exact Thin.nil | exact Thin.same | apply Thin.keep | (refine Thin.blk (by assumption) ?_) | (refine Thin.blk (by simp only [AllLe, and_true]; omega) ?_))))⟩
          · rw [if_neg (by rw [hag]; simp)] at hR
            apply W.skip
            with_reducible apply At.next
            apply W.seq
            apply W.reg
            apply omv; rfl; rfl
            apply OL.op; exact Guard.none; rfl; rfl; apply Pev.nil_ptr; rfl; exact yes
            apply ofa; rfl; rfl; rfl
            apply old; rfl; rfl; exact .tail _ (.head _); rfl; rfl
            apply obn; rfl; rfl; rfl; apply Bin.add_in; omega
            apply OL.op; exact Guard.none; rfl; rfl; apply Pev.nil_ptr; rfl; exact yes
            apply ofa; rfl; rfl; rfl
            apply OL.storeB; rfl; rfl; exact CellsL.one rfl; rfl; rfl; rfl; apply Swap.s; apply Swap.z; apply Put.skip; apply Put.skip; apply Put.here; apply Over.cons; apply Over.nil
            apply OL.nil
            with_reducible apply At.next
            apply W.seq
            apply W.reg
            apply ofa; rfl; rfl; rfl
            apply old; rfl; rfl; exact .tail _ (.tail _ (.head _)); rfl; rfl
            apply obn; rfl; rfl; rfl; apply Bin.add_in; omega
            apply oas; rfl; rfl
            apply OL.nil
            with_reducible apply At.next
            apply W.seq
            apply W.seq
            apply W.reg
            apply ofa; rfl; rfl; rfl
            apply old; rfl; rfl; exact .tail _ (.tail _ (.head _)); rfl; rfl
            apply obn; rfl; rfl; rfl; apply Bin.eql
            apply OL.nil
            with_reducible apply At.next
            refine W.joinc [(0, true, .pointer (some ⟨bb, 0, none⟩)), (1, true, .int .i64 least), (5, true, .pointer (some ⟨b5, 0, none⟩)), (7, true, .int .i64 left), (8, true, .pointer (some ⟨b8, 0, none⟩)), (9, true, .pointer (some ⟨b9, 0, none⟩)), (10, true, .int .i64 (nextL x))]
              (Cls (bI w0.heap.size bb (.slice tq table.length tc) (.slice (some ai) its.length icp) ((i2 + 1 : Nat) : Int) out2 0 ⟨q2, c2, O2⟩ (blk b9 59 [.string x.op, .int .i64 x.side, .int .i64 x.lev] :: blk b8 59 [.string last.op, .int .i64 last.side, .int .i64 last.lev] :: blk b5 59 [.string outer.op, .int .i64 outer.side, .int .i64 outer.lev] :: H)) [w0]) ?_ ?_
            · refine W.cond rfl (fun hs => ?_) (fun hs => ?_)
              · have hn : nextL x = x.lev := by simp only [decide_eq_true_eq] at hs; simp [nextL, hs]
                apply W.reg
                apply ofa; rfl; rfl; rfl
                apply old; rfl; rfl; exact .tail _ (.tail _ (.head _)); rfl; rfl
                apply oas; rfl; rfl
                apply OL.nil
                exact At.joined (by rw [hn]; (repeat (first | exact Sub.nil | apply Sub.cons rfl))) (fun w' hw' => hw')
              · have hn : nextL x = x.lev + 1 := by simp only [decide_eq_false_iff_not] at hs; simp [nextL, hs]
                apply W.skip
                exact At.joined (by rw [hn]; (repeat (first | exact Sub.nil | apply Sub.cons rfl))) (fun w' hw' => hw')
            simp only [bI]
            apply W.seq
            apply W.reg
            apply omv; rfl; rfl
            apply omv; rfl; rfl
            apply OL.op; exact Guard.none; rfl; rfl; apply Pev.load_blkA; rfl; exact yes; exact .tail _ (.tail _ (.head _)); rfl; apply Take.succ; apply Take.succ; apply Take.succ; apply Take.zero
            refine OL.callE (α := CR) (fun r => .int .i64 r.idx) (fun rr => CPost table its out2 (i2 + 1) (loopP g3 (nextL x) x x (.leaf a.n) r) rr) (fun rr => Cls (bI w0.heap.size bb (.slice tq table.length tc) (.slice (some ai) its.length icp) (rr.i : Int) rr.out rr.e rr.y (blk b9 59 [.string x.op, .int .i64 x.side, .int .i64 x.lev] :: blk b8 59 [.string last.op, .int .i64 last.side, .int .i64 last.lev] :: blk b5 59 [.string outer.op, .int .i64 outer.side, .int .i64 outer.lev] :: H)) [w0]) rfl rfl (by (repeat (first | exact Args.nil | (apply Args.cons rfl; ((first | exact fun _ => rfl | exact fun h => h | (intro h; simp_all; done))))))) (fun w3 hw3 => ?_) ?_
            · have hih := ih r.length (by omega) g3 (nextL x) x (i2 + 1) a out2 ⟨q2, c2, O2⟩ (blk b9 59 [.string x.op, .int .i64 x.side, .int .i64 x.lev] :: blk b8 59 [.string last.op, .int .i64 last.side, .int .i64 last.lev] :: blk b5 59 [.string outer.op, .int .i64 outer.side, .int .i64 outer.lev] :: H) w3 ha (by rw [hr]; exact Nat.le_refl _) (by rw [hr]; omega) (by rw [hr]; omega) (by omega) (fun k hk => by (focus ((try simp only [add_block]); (repeat (first | exact NotOwned.nil | exact hno _ (by omega) | refine NotOwned.nothing ?_ | apply NotOwned.bif | refine NotOwned.blk (by omega) ?_ | refine NotOwned.row (by omega) ?_ | refine NotOwned.grid (by assumption) (by omega) ?_)); done))) hw3
              rw [hr] at hih
              exact hih
            rintro ⟨i3, out3, e3, ⟨q3, c3, O3⟩, idx3⟩ ⟨hp1, hp2, hp3, hp4⟩
            simp only at hp1 hp2 hp3 hp4
            simp only [bI]
            apply oas; rfl; rfl
            apply OL.nil
            with_reducible apply At.next
            refine W.regany (X := X14) (fun xx e => [(7, true, bif e 8 then .int .i64 (out3.length : Int) else .int .i64 left), (108, true, bif e 7 then .agg #[.string x.op, .int .i64 x.side, .int .i64 x.lev] else xx.old 108), (107, true, bif e 6 then .int .i64 (out3.length : Int) else xx.old 107), (106, true, bif e 5 then .agg #[.string x.op, .int .i64 0, .int .i64 left, .int .i64 idx3] else xx.old 106), (105, true, bif e 4 then .int .i64 idx3 else xx.old 105), (104, true, bif e 3 then .int .i64 left else xx.old 104), (103, true, bif e 2 then .string x.op else xx.old 103), (102, true, bif e 1 then .pointer (some ⟨b9, 0 + 0, none⟩) else xx.old 102), (101, true, bif e 0 then .pointer (some ⟨bb, 0, none⟩) else xx.old 101), (0, true, .pointer (some ⟨bb, 0, none⟩)), (1, true, .int .i64 least), (5, true, .pointer (some ⟨b5, 0, none⟩)), (8, true, .pointer (some ⟨b8, 0, none⟩)), (9, true, .pointer (some ⟨b9, 0, none⟩)), (11, true, .int .i64 idx3)])
              (fun xx e => (bif e 6 then row w0.heap.size xx.y.O xx.y.q (out3.length + 1) xx.y.c 45 4 (cat nc (out3 ++ [⟨x.op, 0, left, idx3⟩])) else row w0.heap.size O3 q3 out3.length c3 45 4 (cat nc out3)) :: (blk bb 56 [.slice tq table.length tc, .slice (some ai) its.length icp, .int .i64 (i3 : Int), bif e 6 then .slice xx.y.q (out3.length + 1) xx.y.c else .slice q3 out3.length c3, .int .i64 e3]) :: (blk b9 59 [.string x.op, .int .i64 x.side, .int .i64 x.lev]) :: (blk b8 59 [bif e 9 then .string x.op else .string last.op, bif e 9 then .int .i64 x.side else .int .i64 last.side, bif e 9 then .int .i64 x.lev else .int .i64 last.lev]) :: (blk b5 59 [.string outer.op, .int .i64 outer.side, .int .i64 outer.lev]) :: H)
              (fun old => ⟨⟨none, 0, fun _ => False⟩, old⟩) (by kernel_rfl) (by kernel_rfl) (fun w hw => hw.drew) (fun old => by repeat (first | exact SubO.nil | apply SubO.cons rfl | refine SubO.old rfl ?_)) (fun old w' hw' => hw') ?_ ?_
            · intro xx e ii oo ho hei hd hcl
              have hii : ii < 10 := (List.getElem?_eq_some_iff.1 ho).1
              obtain rfl | rfl | rfl | rfl | rfl | rfl | rfl | rfl | rfl | rfl : ii = 0 ∨ ii = 1 ∨ ii = 2 ∨ ii = 3 ∨ ii = 4 ∨ ii = 5 ∨ ii = 6 ∨ ii = 7 ∨ ii = 8 ∨ ii = 9 := by omega
              · cases ho
                have v0 : Eng.upd e 0 0 = true := upd_eq
                simp only [hei, cond_true, cond_false]
                apply omv; rfl; rfl
                apply OL.nil
                exact At.beside xx (by repeat (first | exact Sub.nil | apply Sub.cons rfl | refine Sub.cons_eq rfl (by simp only [v0, cond_true, cond_false]) ?_)) (fun w' hw' => by first | exact hw' | (simp only [v0, cond_true, cond_false]; exact hw'))
              · cases ho
                have v1 : Eng.upd e 1 1 = true := upd_eq
                simp only [hei, cond_true, cond_false]
                apply ofa; rfl; rfl; rfl
                apply OL.nil
                exact At.beside xx (by repeat (first | exact Sub.nil | apply Sub.cons rfl | refine Sub.cons_eq rfl (by simp only [v1, cond_true, cond_false]) ?_)) (fun w' hw' => by first | exact hw' | (simp only [v1, cond_true, cond_false]; exact hw'))
              · cases ho
                have h1 : e 1 = true := hd ⟨1, .data⟩ (by simp) rfl
                have v2 : Eng.upd e 2 2 = true := upd_eq
                have v1 : Eng.upd e 2 1 = true := upd_mono h1
                simp only [hei, h1, cond_true, cond_false]
                apply old; rfl; rfl; exact .tail _ (.tail _ (.head _)); rfl; rfl
                apply OL.nil
                exact At.beside xx (by repeat (first | exact Sub.nil | apply Sub.cons rfl | refine Sub.cons_eq rfl (by simp only [v2, v1, cond_true, cond_false]) ?_)) (fun w' hw' => by first | exact hw' | (simp only [v2, v1, cond_true, cond_false]; exact hw'))
              · cases ho
                have h8 : e 8 = false := hcl.not (i := 3) (j := 8) rfl hei (by kernel_rfl)
                have v3 : Eng.upd e 3 3 = true := upd_eq
                have v8 : Eng.upd e 3 8 = false := h8
                simp only [hei, h8, cond_true, cond_false]
                apply omv; rfl; rfl
                apply OL.nil
                exact At.beside xx (by repeat (first | exact Sub.nil | apply Sub.cons rfl | refine Sub.cons_eq rfl (by simp only [v3, v8, cond_true, cond_false]) ?_)) (fun w' hw' => by first | exact hw' | (simp only [v3, v8, cond_true, cond_false]; exact hw'))
              · cases ho
                have v4 : Eng.upd e 4 4 = true := upd_eq
                simp only [hei, cond_true, cond_false]
                apply omv; rfl; rfl
                apply OL.nil
                exact At.beside xx (by repeat (first | exact Sub.nil | apply Sub.cons rfl | refine Sub.cons_eq rfl (by simp only [v4, cond_true, cond_false]) ?_)) (fun w' hw' => by first | exact hw' | (simp only [v4, cond_true, cond_false]; exact hw'))
              · cases ho
                have h2 : e 2 = true := hd ⟨2, .data⟩ (by simp) rfl
                have h3 : e 3 = true := hd ⟨3, .data⟩ (by simp) rfl
                have h4 : e 4 = true := hd ⟨4, .data⟩ (by simp) rfl
                have v5 : Eng.upd e 5 5 = true := upd_eq
                have v2 : Eng.upd e 5 2 = true := upd_mono h2
                have v3 : Eng.upd e 5 3 = true := upd_mono h3
                have v4 : Eng.upd e 5 4 = true := upd_mono h4
                simp only [hei, h2, h3, h4, cond_true, cond_false]
                apply OL.op; exact Guard.none; rfl; rfl; apply Pev.build; rfl; exact CellsL.agg; rfl; apply Fill.cons rfl; exact CellsL.one rfl; rfl; rfl; apply Put.here; apply Over.cons; apply Over.nil; apply Fill.cons rfl; exact CellsL.one rfl; rfl; rfl; apply Put.skip; apply Put.skip; apply Put.here; apply Over.cons; apply Over.nil; apply Fill.cons rfl; exact CellsL.one rfl; rfl; rfl; apply Put.skip; apply Put.skip; apply Put.skip; apply Put.here; apply Over.cons; apply Over.nil; apply Fill.nil; rfl
                apply OL.nil
                exact At.beside xx (by repeat (first | exact Sub.nil | apply Sub.cons rfl | refine Sub.cons_eq rfl (by simp only [v5, v2, v3, v4, cond_true, cond_false]) ?_)) (fun w' hw' => by first | exact hw' | (simp only [v5, v2, v3, v4, cond_true, cond_false]; exact hw'))
              · cases ho
                have h0 : e 0 = true := hd ⟨0, .data⟩ (by simp) rfl
                have h5 : e 5 = true := hd ⟨5, .data⟩ (by simp) rfl
                have h9 : e 9 = false := hcl.not (i := 6) (j := 9) rfl hei (by kernel_rfl)
                have v6 : Eng.upd e 6 6 = true := upd_eq
                have v0 : Eng.upd e 6 0 = true := upd_mono h0
                have v5 : Eng.upd e 6 5 = true := upd_mono h5
                have v9 : Eng.upd e 6 9 = false := h9
                simp only [hei, h0, h5, h9, cond_true, cond_false]
                refine OL.callE (α := RW) (fun _ => .int .i64 (out3.length : Int)) (fun _ => True) (fun y => Cls (bI w0.heap.size bb (.slice tq table.length tc) (.slice (some ai) its.length icp) (i3 : Int) (out3 ++ [⟨x.op, 0, left, idx3⟩]) e3 y (blk b9 59 [.string x.op, .int .i64 x.side, .int .i64 x.lev] :: blk b8 59 [.string last.op, .int .i64 last.side, .int .i64 last.lev] :: blk b5 59 [.string outer.op, .int .i64 outer.side, .int .i64 outer.lev] :: H)) [w0]) rfl rfl (by (repeat (first | exact Args.nil | (apply Args.cons rfl; ((first | exact fun _ => rfl | exact fun h => h | (intro h; simp_all; done))))))) (fun w3 hw3 => put_calls ⟨x.op, 0, left, idx3⟩ _ bb _ _ _ out3 e3 ⟨q3, c3, O3⟩ _ w0 w3 hw3 rfl (by omega)) ?_
                intro yy _
                simp only [bI, List.length_append, List.length_cons, List.length_nil, Nat.zero_add]
                apply OL.nil
                exact At.beside { xx with y := yy } (by repeat (first | exact Sub.nil | apply Sub.cons rfl | refine Sub.cons_eq rfl (by simp only [v6, v0, v5, v9, cond_true, cond_false]) ?_)) (fun w' hw' => by first | exact hw' | (simp only [v6, v0, v5, v9, cond_true, cond_false]; exact hw'))
              · cases ho
                have v7 : Eng.upd e 7 7 = true := upd_eq
                simp only [hei, cond_true, cond_false]
                apply OL.op; exact Guard.none; rfl; rfl; apply Pev.load_blkA; rfl; exact yes; exact .tail _ (.tail _ (.head _)); rfl; apply Take.succ; apply Take.succ; apply Take.succ; apply Take.zero
                apply OL.nil
                exact At.beside xx (by repeat (first | exact Sub.nil | apply Sub.cons rfl | refine Sub.cons_eq rfl (by simp only [v7, cond_true, cond_false]) ?_)) (fun w' hw' => by first | exact hw' | (simp only [v7, cond_true, cond_false]; exact hw'))
              · cases ho
                have h6 : e 6 = true := hd ⟨6, .data⟩ (by simp) rfl
                have v8 : Eng.upd e 8 8 = true := upd_eq
                have v6 : Eng.upd e 8 6 = true := upd_mono h6
                simp only [hei, h6, cond_true, cond_false]
                apply oas; rfl; rfl
                apply OL.nil
                exact At.beside xx (by repeat (first | exact Sub.nil | apply Sub.cons rfl | refine Sub.cons_eq rfl (by simp only [v8, v6, cond_true, cond_false]) ?_)) (fun w' hw' => by first | exact hw' | (simp only [v8, v6, cond_true, cond_false]; exact hw'))
              · cases ho
                have h6 : e 6 = true := hd ⟨6, .phase⟩ (by simp) rfl
                have h7 : e 7 = true := hd ⟨7, .data⟩ (by simp) rfl
                have v9 : Eng.upd e 9 9 = true := upd_eq
                have v6 : Eng.upd e 9 6 = true := upd_mono h6
                have v7 : Eng.upd e 9 7 = true := upd_mono h7
                simp only [hei, h6, h7, cond_true, cond_false]
                apply OL.storeB; rfl; rfl; exact CellsL.agg; rfl; rfl; rfl; apply Swap.s; apply Swap.s; apply Swap.s; apply Swap.z; apply Put.here; apply Over.cons; apply Over.cons; apply Over.cons; apply Over.nil
                apply OL.nil
                exact At.beside xx (by repeat (first | exact Sub.nil | apply Sub.cons rfl | refine Sub.cons_eq rfl (by simp only [v9, v6, v7, cond_true, cond_false]) ?_)) (fun w' hw' => by first | exact hw' | (simp only [v9, v6, v7, cond_true, cond_false]; exact hw'))
            · intro xx ee hall
              have h6 := hall 6 (by decide)
              have h8 := hall 8 (by decide)
              have h9 := hall 9 (by decide)
              simp only [h6, h8, h9, cond_true]
              with_reducible apply At.in_normal
              refine At.again ⟨i3, (loopP g3 (nextL x) x x (.leaf a.n) r).elim [] (·.2), g3, x, .node x.op t ((loopP g3 (nextL x) x x (.leaf a.n) r).elim t (·.1)), (out3.length : Int), out3 ++ [⟨x.op, 0, left, idx3⟩], e3, xx.y⟩ ⟨by simp only; omega, hp2, by simp only [List.length_append, List.length_cons, List.length_nil]; omega, ?_⟩ (by simp only; omega) (by (repeat (first | exact Sub.nil | apply Sub.cons rfl))) (fun w' hw' => by simp only [bI, List.length_append, List.length_cons, List.length_nil, Nat.zero_add]; exact hw'.thin (by (repeat (first | exact Thin.nil | exact Thin.same | apply Thin.keep | (refine Thin.blk (by assumption) ?_) | (refine Thin.blk (by simp only [AllLe, and_true]; omega) ?_)))))
              cases hrec : loopP g3 (nextL x) x x (.leaf a.n) r with
              | none =>
                rw [hrec] at hp4 hR
                exact .inr ⟨hp4, hR.symm⟩
              | some rt =>
                obtain ⟨rt, r'⟩ := rt
                rw [hrec] at hp4 hR
                obtain ⟨h1, h2, h3, h4, h5⟩ := hp4
                have hll := loopP_len _ _ _ _ _ _ _ _ hrec
                simp only at h1 h2 h3 h4 h5 hR
                have hol : out2.length = out.length + t.size := by rw [hout, List.length_append, flat_length]
                have hol3 : out3.length = out2.length + rt.size := by rw [h4, List.length_append, flat_length]
                have htp := t.pos
                have hrp := rt.pos
                refine .inl ⟨h1, h2, h3, by simp only [Option.elim]; omega, by simp only [Option.elim]; omega, hR, ?_, ?_⟩
                · simp only [Option.elim, flat]
                  rw [h4, h5, hleft, hol, ← List.append_assoc, ← List.append_assoc, ← hout]
                · simp only [Option.elim, T.size]
                  omega
    · apply W.exit
      with_reducible apply At.then_exit
      with_reducible apply At.then_exit
      with_reducible apply At.in_exit
      with_reducible apply At.next
      apply W.seq
      apply W.reg
      apply omv; rfl; rfl
      apply oas; rfl; rfl
      apply OL.nil
      with_reducible apply At.next
      apply W.ret
      ((with_reducible apply At.fin1); rfl; rfl; intro w' hw')
      rcases hst with ⟨rfl, hps, hlen2, hpg2, hpf2, hR, hout, hleft⟩ | ⟨rfl, rfl⟩
      · have hps0 : ps = [] := by
          simp only [decide_true, Bool.true_and, decide_eq_false_iff_not] at hc1
          exact List.eq_nil_of_length_eq_zero (by omega)
        subst hps0
        have hR2 : R = some (t, []) := by
          rw [← hR]
          cases g2 <;> rw [loopP]
        exact ⟨⟨i2, out2, 0, ⟨q2, c2, O2⟩, left⟩, rfl, ⟨hi1, hi2, hol2, by rw [hR2]; exact ⟨rfl, hps, hlen2, hout, hleft⟩⟩, hw'.thin (by (repeat (first | exact Thin.nil | exact Thin.same | apply Thin.keep | (refine Thin.blk (by assumption) ?_) | (refine Thin.blk (by simp only [AllLe, and_true]; omega) ?_))))⟩
      · exact ⟨⟨i2, out2, 5, ⟨q2, c2, O2⟩, left⟩, rfl, ⟨hi1, hi2, hol2, rfl⟩, hw'.thin (by (repeat (first | exact Thin.nil | exact Thin.same | apply Thin.keep | (refine Thin.blk (by assumption) ?_) | (refine Thin.blk (by simp only [AllLe, and_true]; omega) ?_))))⟩
  intro f
  exact fun g => Nat.strongRecOn f (fun f ih => main f ih) g
end Go.Proofs.Ytmmjkpbpmhaooaa.fx
