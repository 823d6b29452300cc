/- Texts of the proof of FlowSays, part 6: rules of a calculus for walking, plain laws, and walks of the functions that the law reaches. No condition. -/
import Derived.SizedLaws
import Derived.Test.YtkpjndhgicbjjaaDoorProg
import Derived.Test.YtkpjndhgicbjjaaDoorFlowSays5
set_option linter.unusedVariables false
set_option linter.unusedSimpArgs false
/- The walk of the reference's FlowsOf. Conditions: none. -/
namespace Go.Eng
open Go.RowKit
theorem Cls.pileF {H : List Item} {S : List World} {w w' : World} {q : Option Addr} {c : Nat} {l : List Int} (h : Cls H S w) (he : Ext w w') (hI : Co.IntsO w' (fresh w w') l q) : Cls (pile w.heap.size (fun k => k < w'.heap.size) [⟨q, c, Co.ints l⟩] :: H) S w' :=
 h.add he _ (fun s hs hl => by
  obtain rfl := List.mem_singleton.1 hs
  simp only [Co.ints_length] at hl
  obtain ⟨a, h1, h2, h3⟩ := hI hl
  exact ⟨a, h1, h2, h3⟩) (fun k hk => hk)
end Go.Eng
namespace Go.Proofs.YtkpjndhgicbjjaaDoor.co
open Go.RowKit Go.Eng Go.Co
set_option maxRecDepth 100000
structure BS where
 N : List Nat
 D : List Nat
 ON : Nat → Prop
 qN : Option Addr
 cN : Nat
 OI : Nat → Prop
 qI : Option Addr
 cI : Nat
 OD : Nat → Prop
 qD : Option Addr
 cD : Nat
def bsC (n : Nat) (qe : Option Addr) (ce bh k : Nat) (g : BS) : List Value := [.slice qe n ce, .slice g.qN g.N.length g.cN, .slice g.qI k g.cI, .slice g.qD k g.cD, slG n bh, .bool true]
def bsI (B n bh : Nat) (e : List Ex) (ids : List Int) (g : BS) (H : List Eng.Item) : List Eng.Item :=
 bag B (setsG 4 (R1 e) (gP n bh g.N g.D)) :: row B g.ON g.qN g.N.length g.cN 60 1 (g.N.map (slG n)) :: row B g.OI g.qI g.D.length g.cI 3 1 (ints ids) :: row B g.OD g.qD g.D.length g.cD 60 1 (g.D.map (slG n)) :: H
structure XFm (S : List World) where
 b7 : Nat
 hb7 : AllLe S b7
 O8 : Nat → Prop
 g8 : Nat
 c8 : Nat
 b16 : Nat
 hb16 : AllLe S b16
 b17 : Nat
 hb17 : AllLe S b17
 O18 : Nat → Prop
 g18 : Nat
 c18 : Nat
 old : Nat → Value
set_option maxHeartbeats 4000000 in
theorem FlowsOf_calls (es : List (Ex × ExY)) (e : List Ex) (hee : es.map Prod.fst = e) (hbe : bodyE e [] false = 0) (qe : Option Addr) (ce : Nat) (s0 : World) (he : Arr exR s0 (low s0) es qe) :
  Calls Tryd.prog 12 [.slice qe es.length ce].toArray s0 fun r w' => ∃ q cap L R, r = .returned (.slice q L.length cap) ∧ Ext s0 w' ∧ Arr flR w' (fresh s0 w') L q ∧ Least e R ∧ L.map Prod.fst = outF e R e.length := by
 have hF := FOk.of hbe
 have hbo := BodyOk.of hbe
 have hop := op_pos hbe
 have hlen := hF.len
 have hel : e.length = es.length := by rw [← hee, List.length_map]
 have hbx : ∀ x ∈ e, (bindersX x).length ≤ 65552 := fun x hx => by
  have hl := hbo.lim hx
  have h1 := flat_len hl.ab
  have h2 := hl.a
  have h3 := hl.b
  unfold bindersX
  rw [List.length_append]
  split
  ·omega
  ·simp only [List.length_nil]; omega
 refine enter Tryd.func12 rfl Tryd.ntmps12 rfl (Cls.start s0) ?_
 (simp only [argEnv, Nat.zero_add, Nat.reduceAdd])
 obtain ⟨n, hnn⟩ : ∃ n, es.length = n := ⟨_, rfl⟩
 have hen : e.length = n := by omega
 rw [hnn]
 apply W.sr
 apply oas; rfl; rfl
 apply OL.nsr
 apply omv; rfl; rfl
 apply omv; rfl; rfl
 apply oop; rfl; apply Pev.len_slice; rfl; exact yes; rfl
 apply obn; rfl; rfl; rfl; apply Bin.add_in; omega
 refine OL.makeSlice (m := n + 1) rfl rfl rfl rfl rfl (by omega) (by omega) (by omega) ?_
 intro bh hbh
 have hbh0 := hbh.1
 apply oop; rfl; apply Pev.build; rfl; exact CellsL.agg; rfl; exact Fill.au; rfl
 apply OL.box; rfl; rfl; exact CellsL.agg; (intro bk hbk; simp only [AllLe, and_true] at hbk)
 apply oas; rfl; rfl
 apply OL.nx
 apply W.seq
 apply W.sr
 apply omv; rfl; rfl
 apply oop; rfl; apply Pev.len_slice; rfl; exact yes; rfl
 apply omv; rfl; rfl
 apply OL.nx
 apply W.block
 revert hbk
 revert bk
 intro bs hbs
 refine W.cls (C' := Cls (blk bs 63 (bsC n qe ce bh 0 ⟨[], [], fun _ => False, none, 0, fun _ => False, none, 0, fun _ => False, none, 0⟩) :: bsI s0.heap.size n bh e [] ⟨[], [], fun _ => False, none, 0, fun _ => False, none, 0, fun _ => False, none, 0⟩ []) [s0]) (fun w' hw' => ?_) ?_
 ·have h1 := (hw'.flip.bag_nil s0.heap.size).flip.bag_in (fun k hk => by rw [show k = bh from hk]; exact hbh0)
  have e1 : setsG 4 (R1 e) (gP n bh [] []) = [blk bh 4 (List.replicate (n + 1) (.bool false))] := by
   have h2 := R1_row (e := e) (p := n) (by unfold rowsN; omega) (by omega)
   rw [hen] at h2
   simp only [gP, setsG, setG, List.zipIdx_nil, List.map_nil, List.nil_append, List.map_cons, h2]
  have h3 := (((((h1.flip.row_nil s0.heap.size 60 1).last).row_nil s0.heap.size 3 1).last).row_nil s0.heap.size 60 1).last
  simp only [bsC, bsI, e1]
  exact h3
 refine W.loop (G := BS) (fun g => g.N.length ≤ n ∧ g.D.length = (idsB e g.N.length).length ∧ (∀ b ∈ g.N, s0.heap.size ≤ b) ∧ ∀ b ∈ g.D, s0.heap.size ≤ b) (fun g => n - g.N.length)
  (fun g => [(0, true, .slice qe n ce), (3, true, .pointer (some ⟨bs, 0, none⟩)), (22, true, .slice qe n ce), (23, true, .int .i64 (n : Int)), (24, true, .int .i64 (g.N.length : Int))])
  (fun g => Cls (blk bs 63 (bsC n qe ce bh g.D.length g) :: bsI s0.heap.size n bh e (idsB e g.N.length) g []) [s0]) ⟨[], [], fun _ => False, none, 0, fun _ => False, none, 0, fun _ => False, none, 0⟩ ⟨Nat.zero_le _, rfl, (fun b hb => by cases hb), (fun b hb => by cases hb)⟩ (by exact Sub.au) (fun w' hw' => hw') ?_
 rintro ⟨N, D, ON, qN, cN, OI, qI, cI, OD, qD, cD⟩ ⟨hNn, hDl, hNB, hDB⟩
 simp only at hNn hDl hNB hDB ⊢
 have hids := idsB_len hbx N.length
 simp only [bsC, bsI]
 apply W.sr
 apply obn; rfl; rfl; rfl; apply Bin.lss
 apply OL.nx
 apply W.seq
 (refine W.cnd (fun hlt => ?_) (fun hlt => ?_)) <;> (try (exfalso; first | omega | exact hlt trivial | contradiction))
 ·obtain ⟨a, p, hqa, hab, hp, hcell, hok⟩ := he.get (show N.length < es.length by omega)
  have hab : a.block < s0.heap.size := hab
  have hcell : CellsAt s0 (a.add (N.length * 5)) [.int .i64 p.1.op, .int .i64 p.1.n, .slice p.2.b.1 p.1.binds.length p.2.b.2, .slice p.2.k.1 p.1.kids.length p.2.k.2, .slice p.2.a.1 p.1.alts.length p.2.a.2] := hcell
  have hx : e[N.length]? = some p.1 := by rw [← hee, List.getElem?_map, hp]; rfl
  apply W.sk
  apply W.sb
  apply W.sr
  apply oop; rfl; apply Pev.idxQ; rfl; exact yes; rfl; exact yes; assumption; rfl; rfl; intro hcond; omega
  apply oop; rfl; apply Pev.load_keptA; rfl; exact yes; exact .head _; rfl; intro hcond; assumption; rfl; intro hcond; (rw [add_block]; assumption); intro hcond; (focus ((try simp only [add_block]); (repeat (first | exact NotOwned.nil | exact hno _ (by omega) | exact hnr _ (by omega) | refine NotOwned.any (hXn _ (by omega)) ?_ | refine NotOwned.blk (by omega) ?_ | refine NotOwned.row (by omega) ?_ | refine NotOwned.rws (by omega) ?_ | refine NotOwned.pile (by omega) ?_ | refine NotOwned.pool (by omega) ?_ | refine NotOwned.bag (by omega) ?_ | refine NotOwned.mapI (by omega) ?_ | apply NotOwned.bif | refine NotOwned.nothing ?_)); done))
  apply OL.alloc; rfl; rfl; exact CellsL.agg; (intro bk hbk; simp only [AllLe, and_true] at hbk)
  apply OL.storeB; rfl; rfl; exact CellsL.agg; rfl; rfl; rfl; exact Swap.au; exact Put.au
  apply OL.nx
  apply W.seq
  revert hbk
  revert bk
  intro b5 hb5
  refine W.regzC (C0 := Cls [blk bs 63 [.slice qe n ce, .slice qN N.length cN, .slice qI D.length cI, .slice qD D.length cD, slG n bh, .bool true]] []) (by (repeat (first | exact ZSplit.nil | apply ZSplit.pure rfl | apply ZSplit.tail))) (by kernel_rfl) (by decide +kernel) (fun w hw => hw.drew) (fun w hw => hw.onlyI (by exact mau)) ?_
  apply ZL.op rfl; exact Guard.none; rfl; rfl; apply Pev.move; rfl; exact yes
  apply ZL.op rfl; exact Guard.none; rfl; rfl; apply Pev.move; rfl; exact yes
  apply ZL.op rfl; exact Guard.none; rfl; rfl; apply Pev.nil_ptr; rfl; exact yes
  apply ZL.op rfl; exact Guard.none; rfl; rfl; apply Pev.fld; rfl; exact yes; rfl
  apply ZL.ld rfl; exact Guard.none; rfl; rfl; apply Pev.load_blk; rfl; exact yes; exact .head _; rfl; rfl
  apply ZL.op rfl; exact Guard.none; rfl; rfl; apply Pev.move; rfl; exact yes
  apply ZL.op rfl; exact Guard.none; rfl; rfl; apply Pev.len_slice; rfl; exact yes; rfl
  apply ZL.op rfl; exact Guard.none; rfl; rfl; apply Pev.bin; rfl; exact yes; rfl; exact yes; intro hcond; apply Bin.add_in; omega
  apply ZL.nilC
  apply TL.one rfl
  refine OL.makeSlice (m := n + 1) rfl rfl rfl rfl rfl (by omega) (by omega) (by omega) ?_
  intro bN hbN
  have hbN0 := hbN.1
  refine OL.nil (At.tk (fun w hw => hw.onlyI (by exact mau)) ?_)
  apply TL.one rfl
  apply OL.buildSlice; rfl; rfl; rfl; exact Elems.au; rfl; rfl; (intro bk hbk; simp only [AllLe, and_true] at hbk)
  apply OL.nil
  refine At.tk (fun w hw => hw.onlyI (by exact mau)) ?_
  apply TL.one rfl
  apply OL.append; rfl; rfl; rfl; rfl; exact Hole.au; exact .head _; exact Take.au; rfl; rfl; exact ⟨_, .head _, Nat.le_refl _⟩; omega; intro O1 g1 cap1
  apply OL.nil
  with_reducible apply At.tn; decide +kernel
  apply TL.one rfl
  apply oop; rfl; apply Pev.nil_ptr; rfl; exact yes
  apply OL.nil
  with_reducible apply At.tn; decide +kernel
  apply TL.one rfl
  apply ofa; rfl; rfl; rfl
  apply OL.nil
  with_reducible apply At.tn; decide +kernel
  apply TL.one rfl
  apply OL.storeB; rfl; rfl; exact CellsL.one rfl; rfl; rfl; rfl; exact Swap.au; exact Put.au
  apply OL.nil
  with_reducible apply At.tn; decide +kernel
  apply TL.nil
  with_reducible apply At.np
  with_reducible apply At.next
  apply W.sr
  apply oop; rfl; apply Pev.load_blkA; rfl; exact yes; exact .tail _ (.tail _ (.head _)); rfl; exact Take.au
  refine OL.cls (C' := Cls (blk bs 63 (bsC n qe ce bh D.length ⟨N ++ [bN], D, O1, some ⟨g1, 0, none⟩, cap1, OI, qI, cI, OD, qD, cD⟩) :: bsI s0.heap.size n bh e (idsB e N.length) ⟨N ++ [bN], D, O1, some ⟨g1, 0, none⟩, cap1, OI, qI, cI, OD, qD, cD⟩ []) [s0]) (fun w' hw' => ?_) ?_
  ·have h1 : Cls (blk bN 4 (List.replicate (n + 1) (.bool false)) :: blk bs 63 [.slice qe n ce, .slice (some ⟨g1, 0, none⟩) (N.length + 1) cap1, .slice qI D.length cI, .slice qD D.length cD, slG n bh, .bool true] :: bag s0.heap.size (setsG 4 (R1 e) (gP n bh N D)) :: row s0.heap.size O1 (some ⟨g1, 0, none⟩) (N.length + 1) cap1 60 1 (N.map (slG n) ++ [slG n bN]) :: row s0.heap.size OI qI D.length cI 3 1 (ints (idsB e N.length)) :: row s0.heap.size OD qD D.length cD 60 1 (D.map (slG n)) :: []) [s0] w' :=
    hw'.thin (.any (fun k hk => by rw [show k = bk from hk]; exact ⟨hbk, trivial⟩) (.keep (.any (fun k hk => by rw [show k = b5 from hk]; exact ⟨hb5, trivial⟩) .same)))
   have h2 := (h1.perm (List.Perm.cons _ (List.Perm.swap _ _ _))).bag_in (fun k hk => by rw [show k = bN from hk]; exact hbN0)
   have e1 : blk bN 4 (List.replicate (n + 1) (.bool false)) = setG 4 (R1 e) (N.length, bN) := by
    unfold setG
    simp only
    rw [R1_row (by unfold rowsN; omega) (by omega), hen]
   rw [e1] at h2
   have h3 := h2.bag_perm (L' := setsG 4 (R1 e) (gP n bh (N ++ [bN]) D)) ((gP_pushN n bh bN N D).map (setG 4 (R1 e)))
   simp only [bsC, bsI, List.length_append, List.length_singleton, List.map_append, List.map_cons, List.map_nil]
   exact h3.flip
  have hlim := hbo.lim (List.mem_of_getElem? hx)
  refine OL.callE (α := Option Addr × Nat × Nat × Nat) (vs := [.agg (exC p.1 p.2).toArray]) (fun z => .slice z.1 (bindersX p.1).length z.2.1) (fun z => s0.heap.size ≤ z.2.2.1) (fun z => Cls (pile z.2.2.1 (fun k => k < z.2.2.2) [⟨z.1, z.2.1, ints (bindersX p.1)⟩] :: blk bs 63 (bsC n qe ce bh D.length ⟨N ++ [bN], D, O1, some ⟨g1, 0, none⟩, cap1, OI, qI, cI, OD, qD, cD⟩) :: bsI s0.heap.size n bh e (idsB e N.length) ⟨N ++ [bN], D, O1, some ⟨g1, 0, none⟩, cap1, OI, qI, cI, OD, qD, cD⟩ []) [s0]) rfl rfl (by exact Args.au) (fun w2 hw2 => (Binds_calls p.1 p.2 w2 (ExOk.at hok hw2 (.head _) (fun k hk => NotOwned.blk (by omega) (NotOwned.bag (by omega) (NotOwned.row (by omega) (NotOwned.row (by omega) (NotOwned.row (by omega) .nil)))))) hlim.b hlim.a hlim.ab).mono (fun e1 w3 ⟨q3, c3, h1, h2, h3, h4⟩ => ⟨(q3, c3, w2.heap.size, w3.heap.size), h1, (hw2.kp s0 (.head _)).size, hw2.pileF h2 h3⟩)) ?_
  rintro ⟨qb, cb, lo, hiw⟩ hlo
  simp only at hlo ⊢
  have hbl := hbx p.1 (List.mem_of_getElem? hx)
  apply oop; rfl; apply Pev.len_slice; rfl; exact yes; rfl
  apply omv; rfl; rfl
  apply OL.nx
  apply W.block
  refine W.loop (G := Nat × BS) (fun G => G.1 ≤ (bindersX p.1).length ∧ G.2.N.length = N.length + 1 ∧ G.2.D.length = (idsB e N.length).length + G.1 ∧ (∀ b ∈ G.2.N, s0.heap.size ≤ b) ∧ ∀ b ∈ G.2.D, s0.heap.size ≤ b) (fun G => (bindersX p.1).length - G.1)
   (fun G => [(0, true, .slice qe n ce), (3, true, .pointer (some ⟨bs, 0, none⟩)), (22, true, .slice qe n ce), (23, true, .int .i64 (n : Int)), (24, true, .int .i64 (N.length : Int)), (42, true, .slice qb (bindersX p.1).length cb), (43, true, .int .i64 ((bindersX p.1).length : Int)), (44, true, .int .i64 (G.1 : Int))])
   (fun G => Cls (pile lo (fun k => k < hiw) [⟨qb, cb, ints (bindersX p.1)⟩] :: blk bs 63 (bsC n qe ce bh G.2.D.length G.2) :: bsI s0.heap.size n bh e (idsB e N.length ++ (bindersX p.1).take G.1) G.2 []) [s0]) (0, ⟨N ++ [bN], D, O1, some ⟨g1, 0, none⟩, cap1, OI, qI, cI, OD, qD, cD⟩) ⟨Nat.zero_le _, by simp, hDl, (fun b hb => by
    rcases List.mem_append.1 hb with hb | hb
    ·exact hNB b hb
    ·rw [List.mem_singleton.1 hb]; exact hbN0), hDB⟩ (by exact Sub.au) (fun w' hw' => by simpa using hw') ?_
  rintro ⟨j, ⟨N2, D2, ON2, qN2, cN2, OI2, qI2, cI2, OD2, qD2, cD2⟩⟩ ⟨hj, hN2, hD2, hNB2, hDB2⟩
  simp only at hj hN2 hD2 hNB2 hDB2 ⊢
  simp only [bsC, bsI]
  apply W.sr
  apply obn; rfl; rfl; rfl; apply Bin.lss
  apply OL.nx
  apply W.seq
  (refine W.cnd (fun hlt2 => ?_) (fun hlt2 => ?_)) <;> (try (exfalso; first | omega | exact hlt2 trivial | contradiction))
  ·obtain ⟨v, hv⟩ : ∃ v, (bindersX p.1)[j]? = some v := ⟨(bindersX p.1)[j]'(by omega), List.getElem?_eq_getElem _⟩
   refine W.fact (φ := ∃ av, qb = some av) (fun w' hw' => pile_some (s := ⟨qb, cb, ints (bindersX p.1)⟩) (hw'.item (.head _)) (.head _) (by simp only [ints_length]; omega)) ?_
   rintro ⟨av, rfl⟩
   apply W.sk
   apply W.sb
   apply W.sr
   apply oop; rfl; apply Pev.idx; rfl; exact yes; rfl; exact yes; rfl; rfl; intro hcond; omega
   (((first | (with_reducible apply OL.op) | (with_reducible apply QL.op)); (exact Guard.au); rfl; rfl); (apply Pev.load_pile (s := ⟨some av, cb, ints (bindersX p.1)⟩)); rfl; ((first | exact fun _ => rfl | exact fun h => h | (intro h; simp_all; done))); (exact .head _); rfl; (exact .head _); rfl; (exact by rw [Nat.mul_one]; exact ints_get hv))
   apply oas; rfl; rfl
   apply OL.nx
   have hDb : D2.length + 1 ≤ 1073741824 := by
    have h5 : N.length * 65552 ≤ 4096 * 65552 := Nat.mul_le_mul_right _ (by omega)
    omega
   obtain ⟨ee, hee2⟩ : ∃ ee, e = ee := ⟨_, rfl⟩
   rw [hee2]
   clear hids
   refine W.regany (X := XFm [s0]) (fun x e => [(70, true, bif e 23 then .pointer (some ⟨bs, 0 + 3, none⟩) else x.old 70), (69, true, bif e 22 then .pointer (some ⟨bs, 0, none⟩) else x.old 69), (68, true, bif e 20 then .pointer (some ⟨bs, 0 + 2, none⟩) else x.old 68), (67, true, bif e 19 then .pointer (some ⟨bs, 0, none⟩) else x.old 67), (66, true, bif e 18 then .slice (some ⟨x.g18, 0, none⟩) (D2.length + 1) x.c18 else x.old 66), (65, true, bif e 17 then .slice (some ⟨x.b17, 0, none⟩) 1 1 else x.old 65), (64, true, bif e 16 then .slice (some ⟨x.b16, 0, none⟩) (n + 1) (n + 1) else x.old 64), (63, true, bif e 15 then .int .i64 ((n : Int) + 1) else x.old 63), (62, true, bif e 14 then .int .i64 (n : Int) else x.old 62), (61, true, bif e 13 then .slice qe n ce else x.old 61), (60, true, bif e 12 then .slice qD2 D2.length cD2 else x.old 60), (59, true, bif e 11 then .pointer (some ⟨bs, 0 + 3, none⟩) else x.old 59), (58, true, bif e 10 then .pointer (some ⟨bs, 0, none⟩) else x.old 58), (57, true, bif e 9 then .pointer (some ⟨bs, 0, none⟩) else x.old 57), (56, true, bif e 8 then .slice (some ⟨x.g8, 0, none⟩) (D2.length + 1) x.c8 else x.old 56), (55, true, bif e 7 then .slice (some ⟨x.b7, 0, none⟩) 1 1 else x.old 55), (54, true, bif e 6 then .int .i64 v else x.old 54), (53, true, bif e 5 then .slice qI2 D2.length cI2 else x.old 53), (52, true, bif e 4 then .pointer (some ⟨bs, 0 + 2, none⟩) else x.old 52), (51, true, bif e 3 then .pointer (some ⟨bs, 0, none⟩) else x.old 51), (50, true, bif e 2 then .pointer (some ⟨bs, 0, none⟩) else x.old 50), (49, true, bif e 1 then .pointer (some ⟨bs, 0, none⟩) else x.old 49), (48, true, bif e 0 then .pointer (some ⟨bs, 0, none⟩) else x.old 48), (7, true, .int .i64 v), (0, true, .slice qe n ce), (3, true, .pointer (some ⟨bs, 0, none⟩)), (22, true, .slice qe n ce), (23, true, .int .i64 (n : Int)), (24, true, .int .i64 (N.length : Int)), (42, true, .slice (some av) (bindersX p.1).length cb), (43, true, .int .i64 ((bindersX p.1).length : Int)), (44, true, .int .i64 (j : Int))])
    (fun x e => (pile lo (fun k => k < hiw) [⟨some av, cb, ints (bindersX p.1)⟩]) :: (blk bs 63 [.slice qe n ce, .slice qN2 N2.length cN2, bif e 21 then .slice (some ⟨x.g8, 0, none⟩) (D2.length + 1) x.c8 else .slice qI2 D2.length cI2, bif e 24 then .slice (some ⟨x.g18, 0, none⟩) (D2.length + 1) x.c18 else .slice qD2 D2.length cD2, slG n bh, .bool true]) :: (bag s0.heap.size (setsG 4 (R1 ee) (gP n bh N2 D2))) :: (row s0.heap.size ON2 qN2 N2.length cN2 60 1 (N2.map (slG n))) :: (bif e 8 then row s0.heap.size x.O8 (some ⟨x.g8, 0, none⟩) (D2.length + 1) x.c8 3 1 (ints (idsB ee N.length ++ (bindersX p.1).take j) ++ [.int .i64 v]) else row s0.heap.size OI2 qI2 D2.length cI2 3 1 (ints (idsB ee N.length ++ (bindersX p.1).take j))) :: (bif e 18 then row s0.heap.size x.O18 (some ⟨x.g18, 0, none⟩) (D2.length + 1) x.c18 60 1 (D2.map (slG n) ++ [.slice (some ⟨x.b16, 0, none⟩) (n + 1) (n + 1)]) else row s0.heap.size OD2 qD2 D2.length cD2 60 1 (D2.map (slG n))) :: (bif e 7 then blk x.b7 3 [.int .i64 v] else nothing) :: (bif e 16 then blk x.b16 4 (List.replicate (n + 1) (.bool false)) else nothing) :: (bif e 17 then blk x.b17 60 [.slice (some ⟨x.b16, 0, none⟩) (n + 1) (n + 1)] else nothing) :: [])
    (fun old => ⟨s0.heap.size, ⟨Nat.le_refl _, trivial⟩, fun _ => False, 0, 0, s0.heap.size, ⟨Nat.le_refl _, trivial⟩, s0.heap.size, ⟨Nat.le_refl _, trivial⟩, fun _ => False, 0, 0, old⟩) (by kernel_rfl) (by kernel_rfl) (fun w hw => hw.drew) (fun old => by repeat (first | exact SubO.nil | apply SubO.cons rfl | refine SubO.old rfl ?_)) (fun old w' hw' => hw'.add_nothing.add_nothing.add_nothing) ?_ ?_
   ·intro x e i o ho hei hd hcl
    have hi : i < 25 := (List.getElem?_eq_some_iff.1 ho).1
    obtain rfl | rfl | rfl | rfl | rfl | rfl | rfl | rfl | rfl | rfl | rfl | rfl | rfl | rfl | rfl | rfl | rfl | rfl | rfl | rfl | rfl | rfl | rfl | rfl | rfl : i = 0 ∨ i = 1 ∨ i = 2 ∨ i = 3 ∨ i = 4 ∨ i = 5 ∨ i = 6 ∨ i = 7 ∨ i = 8 ∨ i = 9 ∨ i = 10 ∨ i = 11 ∨ i = 12 ∨ i = 13 ∨ i = 14 ∨ i = 15 ∨ i = 16 ∨ i = 17 ∨ i = 18 ∨ i = 19 ∨ i = 20 ∨ i = 21 ∨ i = 22 ∨ i = 23 ∨ i = 24 := by omega
    ·cases ho
     have v0 : Eng.upd e 0 0 = true := upd_eq
     simp only [hei, cond_true, cond_false]
     apply omv; rfl; rfl
     apply OL.nil
     exact At.beside x (by repeat (first | exact Sub.nil | apply Sub.cons rfl | refine Sub.cons_eq rfl (by simp only [v0, cond_true, cond_false]) ?_)) (fun w' hw' => by first | exact hw' | (simp only [v0, cond_true, cond_false]; exact hw'))
    ·cases ho
     have v1 : Eng.upd e 1 1 = true := upd_eq
     simp only [hei, cond_true, cond_false]
     apply omv; rfl; rfl
     apply OL.nil
     exact At.beside x (by repeat (first | exact Sub.nil | apply Sub.cons rfl | refine Sub.cons_eq rfl (by simp only [v1, cond_true, cond_false]) ?_)) (fun w' hw' => by first | exact hw' | (simp only [v1, cond_true, cond_false]; exact hw'))
    ·cases ho
     have v2 : Eng.upd e 2 2 = true := upd_eq
     simp only [hei, cond_true, cond_false]
     apply omv; rfl; rfl
     apply OL.nil
     exact At.beside x (by repeat (first | exact Sub.nil | apply Sub.cons rfl | refine Sub.cons_eq rfl (by simp only [v2, cond_true, cond_false]) ?_)) (fun w' hw' => by first | exact hw' | (simp only [v2, cond_true, cond_false]; exact hw'))
    ·cases ho
     have h2 : e 2 = true := hd ⟨2, .data⟩ (by simp) rfl
     have v3 : Eng.upd e 3 3 = true := upd_eq
     have v2 : Eng.upd e 3 2 = true := upd_mono h2
     simp only [hei, h2, cond_true, cond_false]
     apply oop; rfl; apply Pev.nil_ptr; rfl; exact yes
     apply OL.nil
     exact At.beside x (by repeat (first | exact Sub.nil | apply Sub.cons rfl | refine Sub.cons_eq rfl (by simp only [v3, v2, cond_true, cond_false]) ?_)) (fun w' hw' => by first | exact hw' | (simp only [v3, v2, cond_true, cond_false]; exact hw'))
    ·cases ho
     have h3 : e 3 = true := hd ⟨3, .data⟩ (by simp) rfl
     have v4 : Eng.upd e 4 4 = true := upd_eq
     have v3 : Eng.upd e 4 3 = true := upd_mono h3
     simp only [hei, h3, cond_true, cond_false]
     apply ofa; rfl; rfl; rfl
     apply OL.nil
     exact At.beside x (by repeat (first | exact Sub.nil | apply Sub.cons rfl | refine Sub.cons_eq rfl (by simp only [v4, v3, cond_true, cond_false]) ?_)) (fun w' hw' => by first | exact hw' | (simp only [v4, v3, cond_true, cond_false]; exact hw'))
    ·cases ho
     have h4 : e 4 = true := hd ⟨4, .data⟩ (by simp) rfl
     have h21 : e 21 = false := hcl.not (i := 5) (j := 21) rfl hei (by kernel_rfl)
     have v5 : Eng.upd e 5 5 = true := upd_eq
     have v4 : Eng.upd e 5 4 = true := upd_mono h4
     have v21 : Eng.upd e 5 21 = false := h21
     simp only [hei, h4, h21, cond_true, cond_false]
     apply old; rfl; rfl; exact .tail _ (.head _); rfl; rfl
     apply OL.nil
     exact At.beside x (by repeat (first | exact Sub.nil | apply Sub.cons rfl | refine Sub.cons_eq rfl (by simp only [v5, v4, v21, cond_true, cond_false]) ?_)) (fun w' hw' => by first | exact hw' | (simp only [v5, v4, v21, cond_true, cond_false]; exact hw'))
    ·cases ho
     have v6 : Eng.upd e 6 6 = true := upd_eq
     simp only [hei, cond_true, cond_false]
     apply omv; rfl; rfl
     apply OL.nil
     exact At.beside x (by repeat (first | exact Sub.nil | apply Sub.cons rfl | refine Sub.cons_eq rfl (by simp only [v6, cond_true, cond_false]) ?_)) (fun w' hw' => by first | exact hw' | (simp only [v6, cond_true, cond_false]; exact hw'))
    ·cases ho
     have h6 : e 6 = true := hd ⟨6, .data⟩ (by simp) rfl
     have v7 : Eng.upd e 7 7 = true := upd_eq
     have v6 : Eng.upd e 7 6 = true := upd_mono h6
     simp only [hei, h6, cond_true, cond_false]
     apply OL.buildSlice; rfl; rfl; rfl; exact Elems.au; rfl; rfl; (intro bk hbk; simp only [AllLe, and_true] at hbk)
     apply OL.nil
     exact At.beside { x with b7 := bk, hb7 := ⟨hbk, trivial⟩ } (by repeat (first | exact Sub.nil | apply Sub.cons rfl | refine Sub.cons_eq rfl (by simp only [v7, v6, cond_true, cond_false]) ?_)) (fun w' hw' => by simp only [v7, v6, cond_true, cond_false]; exact Cls.fill (p := 6) (H := [_, _, _, _, _, _, _, _, _]) (.s (.s (.s (.s (.s (.s .z)))))) hw')
    ·cases ho
     have h5 : e 5 = true := hd ⟨5, .data⟩ (by simp) rfl
     have h7 : e 7 = true := hd ⟨7, .data⟩ (by simp) rfl
     have h21 : e 21 = false := hcl.not (i := 8) (j := 21) rfl hei (by kernel_rfl)
     have v8 : Eng.upd e 8 8 = true := upd_eq
     have v5 : Eng.upd e 8 5 = true := upd_mono h5
     have v7 : Eng.upd e 8 7 = true := upd_mono h7
     have v21 : Eng.upd e 8 21 = false := h21
     simp only [hei, h5, h7, h21, cond_true, cond_false]
     apply OL.append; rfl; rfl; rfl; rfl; exact Hole.au; apply List.Mem.tail; apply List.Mem.tail; apply List.Mem.tail; apply List.Mem.tail; exact .tail _ (.tail _ (.head _)); exact Take.au; rfl; rfl; exact ⟨_, .head _, Nat.le_refl _⟩; omega; intro O1 g1 cap1
     apply OL.nil
     exact At.beside { x with O8 := O1, g8 := g1, c8 := cap1 } (by repeat (first | exact Sub.nil | apply Sub.cons rfl | refine Sub.cons_eq rfl (by simp only [v8, v5, v7, v21, cond_true, cond_false]) ?_)) (fun w' hw' => by first | exact hw' | (simp only [v8, v5, v7, v21, cond_true, cond_false]; exact hw'))
    ·cases ho
     have v9 : Eng.upd e 9 9 = true := upd_eq
     simp only [hei, cond_true, cond_false]
     apply omv; rfl; rfl
     apply OL.nil
     exact At.beside x (by repeat (first | exact Sub.nil | apply Sub.cons rfl | refine Sub.cons_eq rfl (by simp only [v9, cond_true, cond_false]) ?_)) (fun w' hw' => by first | exact hw' | (simp only [v9, cond_true, cond_false]; exact hw'))
    ·cases ho
     have h9 : e 9 = true := hd ⟨9, .data⟩ (by simp) rfl
     have v10 : Eng.upd e 10 10 = true := upd_eq
     have v9 : Eng.upd e 10 9 = true := upd_mono h9
     simp only [hei, h9, cond_true, cond_false]
     apply oop; rfl; apply Pev.nil_ptr; rfl; exact yes
     apply OL.nil
     exact At.beside x (by repeat (first | exact Sub.nil | apply Sub.cons rfl | refine Sub.cons_eq rfl (by simp only [v10, v9, cond_true, cond_false]) ?_)) (fun w' hw' => by first | exact hw' | (simp only [v10, v9, cond_true, cond_false]; exact hw'))
    ·cases ho
     have h10 : e 10 = true := hd ⟨10, .data⟩ (by simp) rfl
     have v11 : Eng.upd e 11 11 = true := upd_eq
     have v10 : Eng.upd e 11 10 = true := upd_mono h10
     simp only [hei, h10, cond_true, cond_false]
     apply ofa; rfl; rfl; rfl
     apply OL.nil
     exact At.beside x (by repeat (first | exact Sub.nil | apply Sub.cons rfl | refine Sub.cons_eq rfl (by simp only [v11, v10, cond_true, cond_false]) ?_)) (fun w' hw' => by first | exact hw' | (simp only [v11, v10, cond_true, cond_false]; exact hw'))
    ·cases ho
     have h11 : e 11 = true := hd ⟨11, .data⟩ (by simp) rfl
     have h24 : e 24 = false := hcl.not (i := 12) (j := 24) rfl hei (by kernel_rfl)
     have v12 : Eng.upd e 12 12 = true := upd_eq
     have v11 : Eng.upd e 12 11 = true := upd_mono h11
     have v24 : Eng.upd e 12 24 = false := h24
     simp only [hei, h11, h24, cond_true, cond_false]
     apply old; rfl; rfl; exact .tail _ (.head _); rfl; rfl
     apply OL.nil
     exact At.beside x (by repeat (first | exact Sub.nil | apply Sub.cons rfl | refine Sub.cons_eq rfl (by simp only [v12, v11, v24, cond_true, cond_false]) ?_)) (fun w' hw' => by first | exact hw' | (simp only [v12, v11, v24, cond_true, cond_false]; exact hw'))
    ·cases ho
     have v13 : Eng.upd e 13 13 = true := upd_eq
     simp only [hei, cond_true, cond_false]
     apply omv; rfl; rfl
     apply OL.nil
     exact At.beside x (by repeat (first | exact Sub.nil | apply Sub.cons rfl | refine Sub.cons_eq rfl (by simp only [v13, cond_true, cond_false]) ?_)) (fun w' hw' => by first | exact hw' | (simp only [v13, cond_true, cond_false]; exact hw'))
    ·cases ho
     have h13 : e 13 = true := hd ⟨13, .data⟩ (by simp) rfl
     have v14 : Eng.upd e 14 14 = true := upd_eq
     have v13 : Eng.upd e 14 13 = true := upd_mono h13
     simp only [hei, h13, cond_true, cond_false]
     apply oop; rfl; apply Pev.len_slice; rfl; exact yes; rfl
     apply OL.nil
     exact At.beside x (by repeat (first | exact Sub.nil | apply Sub.cons rfl | refine Sub.cons_eq rfl (by simp only [v14, v13, cond_true, cond_false]) ?_)) (fun w' hw' => by first | exact hw' | (simp only [v14, v13, cond_true, cond_false]; exact hw'))
    ·cases ho
     have h14 : e 14 = true := hd ⟨14, .data⟩ (by simp) rfl
     have v15 : Eng.upd e 15 15 = true := upd_eq
     have v14 : Eng.upd e 15 14 = true := upd_mono h14
     simp only [hei, h14, cond_true, cond_false]
     apply obn; rfl; rfl; rfl; apply Bin.add_in; omega
     apply OL.nil
     exact At.beside x (by repeat (first | exact Sub.nil | apply Sub.cons rfl | refine Sub.cons_eq rfl (by simp only [v15, v14, cond_true, cond_false]) ?_)) (fun w' hw' => by first | exact hw' | (simp only [v15, v14, cond_true, cond_false]; exact hw'))
    ·cases ho
     have h15 : e 15 = true := hd ⟨15, .data⟩ (by simp) rfl
     have h17 : e 17 = false := hcl.not (i := 16) (j := 17) rfl hei (by kernel_rfl)
     have h18 : e 18 = false := hcl.not (i := 17) (j := 18) rfl h17 (by kernel_rfl)
     have v16 : Eng.upd e 16 16 = true := upd_eq
     have v15 : Eng.upd e 16 15 = true := upd_mono h15
     have v17 : Eng.upd e 16 17 = false := h17
     have v18 : Eng.upd e 16 18 = false := h18
     simp only [hei, h15, h17, h18, cond_true, cond_false]
     refine OL.makeSlice (m := n + 1) rfl rfl rfl rfl rfl (by omega) (by omega) (by omega) ?_
     intro bk hbk
     apply OL.nil
     exact At.beside { x with b16 := bk, hb16 := hbk } (by repeat (first | exact Sub.nil | apply Sub.cons rfl | refine Sub.cons_eq rfl (by simp only [v16, v15, v17, v18, cond_true, cond_false]) ?_)) (fun w' hw' => by simp only [v16, v15, v17, v18, cond_true, cond_false]; exact Cls.fill (p := 7) (H := [_, _, _, _, _, _, _, _, _]) (.s (.s (.s (.s (.s (.s (.s .z))))))) hw')
    ·cases ho
     have h16 : e 16 = true := hd ⟨16, .data⟩ (by simp) rfl
     have v17 : Eng.upd e 17 17 = true := upd_eq
     have v16 : Eng.upd e 17 16 = true := upd_mono h16
     simp only [hei, h16, cond_true, cond_false]
     apply OL.buildSlice; rfl; rfl; rfl; exact Elems.au; rfl; rfl; (intro bk hbk; simp only [AllLe, and_true] at hbk)
     apply OL.nil
     exact At.beside { x with b17 := bk, hb17 := ⟨hbk, trivial⟩ } (by repeat (first | exact Sub.nil | apply Sub.cons rfl | refine Sub.cons_eq rfl (by simp only [v17, v16, cond_true, cond_false]) ?_)) (fun w' hw' => by simp only [v17, v16, cond_true, cond_false]; exact Cls.fill (p := 8) (H := [_, _, _, _, _, _, _, _, _]) (.s (.s (.s (.s (.s (.s (.s (.s .z)))))))) hw')
    ·cases ho
     have h8 : e 8 = true := hd ⟨8, .chain⟩ (by simp) rfl
     have h12 : e 12 = true := hd ⟨12, .data⟩ (by simp) rfl
     have h17 : e 17 = true := hd ⟨17, .data⟩ (by simp) rfl
     have h24 : e 24 = false := hcl.not (i := 18) (j := 24) rfl hei (by kernel_rfl)
     have v18 : Eng.upd e 18 18 = true := upd_eq
     have v8 : Eng.upd e 18 8 = true := upd_mono h8
     have v12 : Eng.upd e 18 12 = true := upd_mono h12
     have v17 : Eng.upd e 18 17 = true := upd_mono h17
     have v24 : Eng.upd e 18 24 = false := h24
     simp only [hei, h8, h12, h17, h24, cond_true, cond_false]
     apply OL.append; rfl; rfl; rfl; rfl; exact Hole.au; apply List.Mem.tail; apply List.Mem.tail; apply List.Mem.tail; apply List.Mem.tail; apply List.Mem.tail; apply List.Mem.tail; exact .tail _ (.tail _ (.head _)); exact Take.au; rfl; rfl; exact ⟨_, .head _, Nat.le_refl _⟩; omega; intro O1 g1 cap1
     apply OL.nil
     exact At.beside { x with O18 := O1, g18 := g1, c18 := cap1 } (by repeat (first | exact Sub.nil | apply Sub.cons rfl | refine Sub.cons_eq rfl (by simp only [v18, v8, v12, v17, v24, cond_true, cond_false]) ?_)) (fun w' hw' => by first | exact hw' | (simp only [v18, v8, v12, v17, v24, cond_true, cond_false]; exact hw'))
    ·cases ho
     have h0 : e 0 = true := hd ⟨0, .data⟩ (by simp) rfl
     have v19 : Eng.upd e 19 19 = true := upd_eq
     have v0 : Eng.upd e 19 0 = true := upd_mono h0
     simp only [hei, h0, cond_true, cond_false]
     apply oop; rfl; apply Pev.nil_ptr; rfl; exact yes
     apply OL.nil
     exact At.beside x (by repeat (first | exact Sub.nil | apply Sub.cons rfl | refine Sub.cons_eq rfl (by simp only [v19, v0, cond_true, cond_false]) ?_)) (fun w' hw' => by first | exact hw' | (simp only [v19, v0, cond_true, cond_false]; exact hw'))
    ·cases ho
     have h19 : e 19 = true := hd ⟨19, .data⟩ (by simp) rfl
     have v20 : Eng.upd e 20 20 = true := upd_eq
     have v19 : Eng.upd e 20 19 = true := upd_mono h19
     simp only [hei, h19, cond_true, cond_false]
     apply ofa; rfl; rfl; rfl
     apply OL.nil
     exact At.beside x (by repeat (first | exact Sub.nil | apply Sub.cons rfl | refine Sub.cons_eq rfl (by simp only [v20, v19, cond_true, cond_false]) ?_)) (fun w' hw' => by first | exact hw' | (simp only [v20, v19, cond_true, cond_false]; exact hw'))
    ·cases ho
     have h8 : e 8 = true := hd ⟨8, .data⟩ (by simp) rfl
     have h20 : e 20 = true := hd ⟨20, .data⟩ (by simp) rfl
     have h24 : e 24 = false := hcl.not (i := 21) (j := 24) rfl hei (by kernel_rfl)
     have v21 : Eng.upd e 21 21 = true := upd_eq
     have v8 : Eng.upd e 21 8 = true := upd_mono h8
     have v20 : Eng.upd e 21 20 = true := upd_mono h20
     have v24 : Eng.upd e 21 24 = false := h24
     simp only [hei, h8, h20, h24, cond_true, cond_false]
     apply OL.storeB; rfl; rfl; exact CellsL.one rfl; rfl; rfl; rfl; exact Swap.au; exact Put.au
     apply OL.nil
     exact At.beside x (by repeat (first | exact Sub.nil | apply Sub.cons rfl | refine Sub.cons_eq rfl (by simp only [v21, v8, v20, v24, cond_true, cond_false]) ?_)) (fun w' hw' => by first | exact hw' | (simp only [v21, v8, v20, v24, cond_true, cond_false]; exact hw'))
    ·cases ho
     have h1 : e 1 = true := hd ⟨1, .data⟩ (by simp) rfl
     have v22 : Eng.upd e 22 22 = true := upd_eq
     have v1 : Eng.upd e 22 1 = true := upd_mono h1
     simp only [hei, h1, cond_true, cond_false]
     apply oop; rfl; apply Pev.nil_ptr; rfl; exact yes
     apply OL.nil
     exact At.beside x (by repeat (first | exact Sub.nil | apply Sub.cons rfl | refine Sub.cons_eq rfl (by simp only [v22, v1, cond_true, cond_false]) ?_)) (fun w' hw' => by first | exact hw' | (simp only [v22, v1, cond_true, cond_false]; exact hw'))
    ·cases ho
     have h22 : e 22 = true := hd ⟨22, .data⟩ (by simp) rfl
     have v23 : Eng.upd e 23 23 = true := upd_eq
     have v22 : Eng.upd e 23 22 = true := upd_mono h22
     simp only [hei, h22, cond_true, cond_false]
     apply ofa; rfl; rfl; rfl
     apply OL.nil
     exact At.beside x (by repeat (first | exact Sub.nil | apply Sub.cons rfl | refine Sub.cons_eq rfl (by simp only [v23, v22, cond_true, cond_false]) ?_)) (fun w' hw' => by first | exact hw' | (simp only [v23, v22, cond_true, cond_false]; exact hw'))
    ·cases ho
     have h18 : e 18 = true := hd ⟨18, .data⟩ (by simp) rfl
     have h23 : e 23 = true := hd ⟨23, .data⟩ (by simp) rfl
     have h21 : e 21 = true := hd ⟨21, .chain⟩ (by simp) rfl
     have v24 : Eng.upd e 24 24 = true := upd_eq
     have v18 : Eng.upd e 24 18 = true := upd_mono h18
     have v23 : Eng.upd e 24 23 = true := upd_mono h23
     have v21 : Eng.upd e 24 21 = true := upd_mono h21
     simp only [hei, h18, h23, h21, cond_true, cond_false]
     apply OL.storeB; rfl; rfl; exact CellsL.one rfl; rfl; rfl; rfl; exact Swap.au; exact Put.au
     apply OL.nil
     exact At.beside x (by repeat (first | exact Sub.nil | apply Sub.cons rfl | refine Sub.cons_eq rfl (by simp only [v24, v18, v23, v21, cond_true, cond_false]) ?_)) (fun w' hw' => by first | exact hw' | (simp only [v24, v18, v23, v21, cond_true, cond_false]; exact hw'))
   ·intro x e1 hall
    simp only [hall 7 (by decide), hall 8 (by decide), hall 16 (by decide), hall 17 (by decide), hall 18 (by decide), hall 21 (by decide), hall 24 (by decide), cond_true]
    with_reducible apply At.in_normal
    with_reducible apply At.next
    apply W.reg
    apply obn; rfl; rfl; rfl; apply Bin.add_in; omega
    apply omv; rfl; rfl
    apply OL.nil
    subst hee2
    have hidx : D2.length < (e.flatMap bindersX).length := by
     have h1 := idsB_le (e := e) (i := N.length + 1)
     rw [idsB_succ hx, List.length_append] at h1
     omega
    have hxb := x.hb16.1
    refine At.again (j + 1, ⟨N2, D2 ++ [x.b16], ON2, qN2, cN2, x.O8, some ⟨x.g8, 0, none⟩, x.c8, x.O18, some ⟨x.g18, 0, none⟩, x.c18⟩) ⟨by omega, hN2, (by simp only [List.length_append, List.length_singleton]; omega), hNB2, fun b hb => ?_⟩ (by simp only; omega) (by exact Sub.au) (fun w' hw' => ?_)
    ·rcases List.mem_append.1 hb with hb | hb
     ·exact hDB2 b hb
     ·rw [List.mem_singleton.1 hb]; exact hxb
    ·have h1 : Cls (pile lo (fun k => k < hiw) [⟨some av, cb, ints (bindersX p.1)⟩] :: blk bs 63 [.slice qe n ce, .slice qN2 N2.length cN2, .slice (some ⟨x.g8, 0, none⟩) (D2.length + 1) x.c8, .slice (some ⟨x.g18, 0, none⟩) (D2.length + 1) x.c18, slG n bh, .bool true] :: bag s0.heap.size (setsG 4 (R1 e) (gP n bh N2 D2)) :: row s0.heap.size ON2 qN2 N2.length cN2 60 1 (N2.map (slG n)) :: row s0.heap.size x.O8 (some ⟨x.g8, 0, none⟩) (D2.length + 1) x.c8 3 1 (ints (idsB e N.length ++ (bindersX p.1).take j) ++ [.int .i64 v]) :: row s0.heap.size x.O18 (some ⟨x.g18, 0, none⟩) (D2.length + 1) x.c18 60 1 (D2.map (slG n) ++ [slG n x.b16]) :: blk x.b16 4 (List.replicate (n + 1) (.bool false)) :: []) [s0] w' :=
      hw'.thin (.keep (.keep (.keep (.keep (.keep (.keep (.any (fun k hk => by rw [show k = x.b7 from hk]; exact x.hb7) (.keep (.any (fun k hk => by rw [show k = x.b17 from hk]; exact x.hb17) .same)))))))))
     have h2 : Cls (blk x.b16 4 (List.replicate (n + 1) (.bool false)) :: bag s0.heap.size (setsG 4 (R1 e) (gP n bh N2 D2)) :: pile lo (fun k => k < hiw) [⟨some av, cb, ints (bindersX p.1)⟩] :: blk bs 63 [.slice qe n ce, .slice qN2 N2.length cN2, .slice (some ⟨x.g8, 0, none⟩) (D2.length + 1) x.c8, .slice (some ⟨x.g18, 0, none⟩) (D2.length + 1) x.c18, slG n bh, .bool true] :: row s0.heap.size ON2 qN2 N2.length cN2 60 1 (N2.map (slG n)) :: row s0.heap.size x.O8 (some ⟨x.g8, 0, none⟩) (D2.length + 1) x.c8 3 1 (ints (idsB e N.length ++ (bindersX p.1).take j) ++ [.int .i64 v]) :: row s0.heap.size x.O18 (some ⟨x.g18, 0, none⟩) (D2.length + 1) x.c18 60 1 (D2.map (slG n) ++ [slG n x.b16]) :: []) [s0] w' :=
      h1.perm ((List.perm_append_comm (l₁ := [_, _, _, _, _, _]) (l₂ := [_])).trans (List.Perm.cons _ ((List.perm_append_comm (l₁ := [_, _]) (l₂ := [_])).append_right _)))
     have h3 := h2.bag_in (fun k hk => by rw [show k = x.b16 from hk]; exact hxb)
     have e2 : blk x.b16 4 (List.replicate (n + 1) (.bool false)) = setG 4 (R1 e) (n + 2 + D2.length, x.b16) := by
      unfold setG
      simp only
      rw [R1_row (by unfold rowsN; omega) (by omega), hen]
     rw [e2] at h3
     have h4 := h3.bag_perm (L' := setsG 4 (R1 e) (gP n bh N2 (D2 ++ [x.b16]))) ((gP_pushD n bh x.b16 N2 D2).map (setG 4 (R1 e)))
     have e3 : ints (idsB e N.length ++ (bindersX p.1).take (j + 1)) = ints (idsB e N.length ++ (bindersX p.1).take j) ++ [.int .i64 v] := by
      rw [List.take_add_one, hv]
      simp [ints]
     simp only [bsC, bsI, e3, List.length_append, List.length_singleton, List.map_append, List.map_cons, List.map_nil]
     exact h4.perm ((List.perm_append_comm (l₁ := [_]) (l₂ := [_, _])).append_right _)
  ·obtain rfl : j = (bindersX p.1).length := by omega
   refine W.xt ?_
   with_reducible apply At.in_normal
   with_reducible apply At.next
   apply W.reg
   apply obn; rfl; rfl; rfl; apply Bin.add_in; omega
   apply omv; rfl; rfl
   apply OL.nil
   refine At.again ⟨N2, D2, ON2, qN2, cN2, OI2, qI2, cI2, OD2, qD2, cD2⟩ ⟨(show N2.length ≤ n by omega), (show D2.length = (idsB e N2.length).length by rw [hN2, idsB_succ hx, List.length_append]; exact hD2), hNB2, hDB2⟩ (show n - N2.length < n - N.length by omega) ?_ (fun w' hw' => ?_)
   ·rw [hN2]
    exact Sub.au
   ·rw [hN2, idsB_succ hx]
    rw [List.take_length] at hw'
    simp only [bsC, bsI, hN2] at hw' ⊢
    exact hw'.thin (.any (fun k hk => ⟨Nat.le_trans hlo hk.1, trivial⟩) .same)
 ·obtain rfl : N.length = n := by omega
  refine W.xt ?_
  with_reducible apply At.next
  apply W.sb
  have hdt : D.length = (e.flatMap bindersX).length := by rw [hDl, ← hen, idsB_all]
  refine W.fact (φ := ∃ g0, qN = some ⟨g0, 0, none⟩) (fun w' hw' => row_some (hw'.item (i := row s0.heap.size ON qN N.length cN 60 1 (N.map (slG N.length))) (by exact mau)) (by have := hF.pos; omega)) ?_
  rintro ⟨gn, rfl⟩
  obtain ⟨y, hy⟩ : ∃ y : GY, y = ⟨bs, s0.heap.size, ON, OI, OD, gn, cN, qI, cI, qD, cD, qe, ce, N, D, bh⟩ := ⟨_, rfl⟩
  have hP0 : y.P = gP N.length bh N D := by rw [hy]; rfl
  have hyO : GYOk e y := ⟨hF, by rw [hy]; exact hen.symm, by rw [hy]; exact hdt, by
   rw [hy]
   have h5 : N.length * 65552 ≤ 4096 * 65552 := Nat.mul_le_mul_right _ (by omega)
   show D.length ≤ 1099511627776
   omega, (by have := hbo.nd; simpa using this), fun p hp => by
   rw [hP0] at hp
   rw [hy]
   unfold gP at hp
   rcases List.mem_append.1 hp with hp | hp
   ·obtain ⟨u, hu, rfl⟩ := List.mem_map.1 hp
    exact hNB u.1 (List.mem_zipIdx_iff_getElem?.1 hu |> List.mem_of_getElem?)
   ·rcases List.mem_cons.1 hp with rfl | hp
    ·exact hbh0
    ·obtain ⟨u, hu, rfl⟩ := List.mem_map.1 hp
     exact hDB u.1 (List.mem_zipIdx_iff_getElem?.1 hu |> List.mem_of_getElem?)⟩
  have hyq : y.qe = qe := by rw [hy]
  have hyB : y.B = s0.heap.size := by rw [hy]
  have hyb : y.bs = bs := by rw [hy]
  have hyN : y.N = N := by rw [hy]
  have hNl : y.N.length = es.length := by rw [hyN]; exact hnn.symm
  have heq : Arr exR s0 (low s0) es y.qe := by rw [hyq]; exact he
  have hbs0 : s0.heap.size ≤ y.bs := by rw [hyb]; exact hbs
  refine W.cls (C' := Cls (flG e y ⟨R1 e, true⟩ []) [s0]) (fun w' hw' => ?_) ?_
  ·have h9 : idsB e N.length = e.flatMap bindersX := by rw [← hen, idsB_all]
   rw [h9] at hw'
   unfold flG
   rw [hP0, hy]
   exact hw'
  refine W.loop (G := GS) (fun s => GSOk e s ∧ FLe (R1 e) s.R ∧ (∀ C, FClosed e.length (rowsN e) (ixF e) e C → hB C (e.length + 1) e.length = true → FLe s.R C) ∧ (s.mv = false → FClosed e.length (rowsN e) (ixF e) e s.R)) (fun s => 2 * offs s.R + (if s.mv then 1 else 0))
   (fun s => [(0, true, .slice y.qe y.N.length y.ce), (3, true, .pointer (some ⟨y.bs, 0, none⟩))])
   (fun s => Cls (flG e y s []) [s0]) ⟨R1 e, true⟩ ⟨R1_ok e true, .refl _, fun C hC ho => R1_least ho, fun h => by cases h⟩ (by rw [hy]; exact Sub.au) (fun w' hw' => hw') ?_
  rintro s ⟨hs, hlo, hle, hcl⟩
  unfold flG GY.c
  apply W.seq
  apply W.sr
  apply omv; rfl; rfl
  apply oop; rfl; apply Pev.nil_ptr; rfl; exact yes
  apply ofa; rfl; rfl; rfl
  apply old; rfl; rfl; exact .head _; rfl; rfl
  apply OL.nx
  refine W.cond rfl (fun hmv => ?_) (fun hmv => ?_)
  ·apply W.sk
   apply W.block
   apply W.sr
   apply omv; rfl; rfl
   apply oop; rfl; apply Pev.nil_ptr; rfl; exact yes
   apply ofa; rfl; rfl; rfl
   apply OL.storeB; rfl; rfl; exact CellsL.one rfl; rfl; rfl; rfl; exact Swap.au; exact Put.au
   apply OL.nsr
   apply omv; rfl; rfl
   apply oop; rfl; apply Pev.len_slice; rfl; exact yes; rfl
   apply obn; rfl; rfl; rfl; apply Bin.sub_in; omega
   apply oas; rfl; rfl
   apply OL.nx
   apply W.block
   refine W.cls (C' := Cls (flG e y ⟨s.R, false⟩ []) [s0]) (fun w' hw' => hw') ?_
   have hs1 : GSOk e ⟨s.R, false⟩ := ⟨hs.dim, hs.lam, hs.only⟩
   have hne : y.N.length = e.length := hyO.len
   refine W.loop (G := Nat × GS) (fun g => g.1 ≤ y.N.length ∧ PG e ⟨s.R, false⟩ (downL e.length g.1) g.2) (fun g => y.N.length - g.1)
    (fun g => [(0, true, .slice y.qe y.N.length y.ce), (3, true, .pointer (some ⟨y.bs, 0, none⟩)), (8, true, .int .i64 ((y.N.length : Int) - 1 - (g.1 : Int)))])
    (fun g => Cls (flG e y g.2 []) [s0]) (0, ⟨s.R, false⟩) ⟨Nat.zero_le _, PG.nil hs1⟩ (by exact Sub.au) (fun w' hw' => hw') ?_
   rintro ⟨k, s1⟩ ⟨hk, hst⟩
   simp only at hk hst ⊢
   apply W.seq
   apply W.sr
   apply omv; rfl; rfl
   apply obn; rfl; rfl; rfl; apply Bin.geq
   apply OL.nx
   (refine W.cnd (fun hlt2 => ?_) (fun hlt2 => ?_)) <;> (try (exfalso; first | omega | exact hlt2 trivial | contradiction))
   ·have hkl : k < y.N.length := by omega
    obtain ⟨i, hi⟩ : ∃ i, y.N.length - 1 - k = i := ⟨_, rfl⟩
    have hik : ((y.N.length : Int) - 1 - (k : Int)) = (i : Int) := by omega
    rw [hik]
    obtain ⟨a, p, hqa, hab, hp, hcell, hok⟩ := heq.get (show i < es.length by omega)
    have hab : a.block < s0.heap.size := hab
    have hcell : CellsAt s0 (a.add (i * 5)) [.int .i64 p.1.op, .int .i64 p.1.n, .slice p.2.b.1 p.1.binds.length p.2.b.2, .slice p.2.k.1 p.1.kids.length p.2.k.2, .slice p.2.a.1 p.1.alts.length p.2.a.2] := hcell
    have hx : e[i]? = some p.1 := by rw [← hee, List.getElem?_map, hp]; rfl
    have hno : ∀ k, k < s0.heap.size → NotOwned (flG e y s1 []) k := fun k hk => flG_no (by omega) hbs0 (fun k hk => .nil) k hk
    apply W.sk
    apply W.sb
    apply W.reg
    apply omv; rfl; rfl
    apply omv; rfl; rfl
    apply omv; rfl; rfl
    apply omv; rfl; rfl
    apply oop; rfl; apply Pev.idxQ; rfl; exact yes; rfl; exact yes; assumption; rfl; rfl; intro hcond; omega
    apply oop; rfl; apply Pev.load_keptA; rfl; exact yes; exact .head _; rfl; intro hcond; assumption; rfl; intro hcond; (rw [add_block]; assumption); intro hcond; exact NotOwned.au
    refine OL.callE (α := GS) (vs := [.pointer (some ⟨y.bs, 0, none⟩), .int .i64 (i : Int), .agg (exC p.1 p.2).toArray]) (fun _ => .tuple #[]) (fun s2 => NStep e s1 i s2) (fun s2 => Cls (flG e y s2 []) [s0]) rfl rfl (by exact Args.au) (fun w2 hw2 => (gnode_calls s0 es e hee y hyO heq hyB hbs0 i p.1 p.2 hp hx hok (hop _ (List.mem_of_getElem? hx)) s1 hst.ok [] (fun k hk => .nil) [s0] (.head _) (fun s hs => by rw [List.mem_singleton.1 hs]; exact Nat.le_refl _) w2 hw2).mono (fun e1 w3 ⟨s', h1, h2, h3⟩ => ⟨s', h1, h2, h3⟩)) ?_
    intro s2 hs2
    apply OL.nil
    with_reducible apply At.in_normal
    with_reducible apply At.next
    apply W.reg
    apply omv; rfl; rfl
    apply obn; rfl; rfl; rfl; apply Bin.sub_in; omega
    apply oas; rfl; rfl
    apply OL.nil
    refine At.again (k + 1, s2) ⟨by omega, by rw [downL_succ, show e.length - 1 - k = i by omega]; exact PG.snoc hs1 hst hs2⟩ (by simp only; omega) (by exact Sub.au) (fun w' hw' => hw')
   ·obtain rfl : k = y.N.length := by omega
    refine W.xt ?_
    with_reducible apply At.in_normal
    have hR := hst.R
    have hmv1 := hst.mv
    simp only [Bool.false_or] at hmv1
    have l1 : FLe s.R s1.R := by rw [hR]; exact FLe.pass _ _ _ _ _ _
    have hrng := FOk.rng hF hst.ok.lam
    have hoff := offs_lt hs.dim hst.ok.dim l1
    refine At.again s1 ⟨hst.ok, hlo.trans l1, fun C hC ho => by rw [hR]; exact (hle C hC ho).pass_ hC _ _, fun hm => ?_⟩ ?_ (by exact Sub.au) (fun w' hw' => hw')
    ·rw [hm] at hmv1
     have he1 : s1.R = s.R := by simpa using hmv1.symm
     refine closed_of (r := true) (l := downL e.length y.N.length) hst.ok.dim hrng (fun i hi => by rw [hne]; exact downL_mem hi) (by unfold rowsN; omega) (by omega) ?_ (.inl rfl)
     rw [he1, ← hR, he1]
    ·rw [hmv]
     cases hm : s1.mv with
     | false =>
      have := hoff.1
      simp
      omega
     | true =>
      rw [hm] at hmv1
      have he1 : ¬ s1.R = s.R := by simpa using hmv1.symm
      have := hoff.2 (fun h => he1 h.symm)
      simp
      omega
  ·have hcl := hcl hmv
   have hL : Least e s.R := ⟨hcl, hlo _ _ (R1_again e), hle⟩
   refine W.xt ?_
   with_reducible apply At.next
   apply W.sr
   apply oas; rfl; rfl
   apply OL.nx
   apply W.seq
   apply W.sr
   apply omv; rfl; rfl
   apply oop; rfl; apply Pev.len_slice; rfl; exact yes; rfl
   apply omv; rfl; rfl
   apply OL.nx
   apply W.block
   refine W.loop (G := OS) (fun g => g.i ≤ e.length ∧ g.L.map Prod.fst = outF e s.R g.i) (fun g => e.length - g.i)
    (fun g => [(0, true, .slice y.qe y.N.length y.ce), (3, true, .pointer (some ⟨y.bs, 0, none⟩)), (9, true, .slice g.q g.L.length g.cap), (94, true, .slice y.qe y.N.length y.ce), (95, true, .int .i64 (y.N.length : Int)), (96, true, .int .i64 (g.i : Int))])
    (fun g => Cls (row s0.heap.size g.O g.q g.L.length g.cap 35 3 (cat flR.c g.L) :: pool flR s0.heap.size g.O2 g.L :: flG e y s []) [s0]) ⟨0, [], fun _ => False, none, 0, fun _ => False, []⟩ ⟨Nat.zero_le _, rfl⟩ (by exact Sub.au) (fun w' hw' => (Cls.pool_nil hw' flR s0.heap.size).row_nil s0.heap.size 35 3) ?_
   rintro ⟨i, Ds, O, q1, cap1, O2, L⟩ ⟨hi, hLL⟩
   simp only at hi hLL ⊢
   have hne : y.N.length = e.length := hyO.len
   have hLn : L.length ≤ i := by
    have h1 := outF_len e s.R i
    rw [← hLL, List.length_map] at h1
    exact h1
   apply W.sr
   apply obn; rfl; rfl; rfl; apply Bin.lss
   apply OL.nx
   apply W.seq
   (refine W.cnd (fun hlt5 => ?_) (fun hlt5 => ?_)) <;> (try (exfalso; first | omega | exact hlt5 trivial | contradiction))
   ·obtain ⟨a, p, hqa, hab, hp, hcell, hok⟩ := heq.get (show i < es.length by omega)
    have hab : a.block < s0.heap.size := hab
    have hcell : CellsAt s0 (a.add (i * 5)) [.int .i64 p.1.op, .int .i64 p.1.n, .slice p.2.b.1 p.1.binds.length p.2.b.2, .slice p.2.k.1 p.1.kids.length p.2.k.2, .slice p.2.a.1 p.1.alts.length p.2.a.2] := hcell
    have hx : e[i]? = some p.1 := by rw [← hee, List.getElem?_map, hp]; rfl
    have hno : ∀ k, k < s0.heap.size → NotOwned (row s0.heap.size O q1 L.length cap1 35 3 (cat flR.c L) :: pool flR s0.heap.size O2 L :: flG e y s []) k := fun k hk => NotOwned.row (by omega) (NotOwned.pool (by omega) (flG_no (by omega) hbs0 (fun k hk => .nil) k hk))
    apply W.sk
    apply W.sb
    apply W.sr
    apply omv; rfl; rfl
    apply oop; rfl; apply Pev.idxQ; rfl; exact yes; rfl; exact yes; assumption; rfl; rfl; intro hcond; omega
    apply oop; rfl; apply Pev.load_keptA; rfl; exact yes; exact .head _; rfl; intro hcond; assumption; rfl; intro hcond; (rw [add_block]; assumption); intro hcond; exact NotOwned.au
    apply OL.alloc; rfl; rfl; exact CellsL.agg; (intro bk hbk; simp only [AllLe, and_true] at hbk)
    apply oas; rfl; rfl
    apply OL.storeB; rfl; rfl; exact CellsL.agg; rfl; rfl; rfl; exact Swap.au; exact Put.au
    apply OL.nx
    apply W.seq
    apply W.sr
    apply ofa; rfl; rfl; rfl
    apply old; rfl; rfl; exact .head _; rfl; rfl
    apply obn; rfl; rfl; rfl; apply Bin.neq
    apply OL.nx
    (refine W.cnd (fun ho => ?_) (fun ho => ?_)) <;> (try (exfalso; first | omega | exact ho trivial | contradiction))
    ·refine W.xt ?_
     with_reducible apply At.next
     apply W.reg
     apply obn; rfl; rfl; rfl; apply Bin.add_in; omega
     apply omv; rfl; rfl
     apply OL.nil
     exact At.again ⟨i + 1, Ds, O, q1, cap1, O2, L⟩ ⟨(show i + 1 ≤ e.length by omega), by rw [outF_skip hx ho]; exact hLL⟩ (show e.length - (i + 1) < e.length - i by omega) (by exact Sub.au) (fun w' hw' => hw'.thin (.any (fun k hk => by rw [show k = bk from hk]; exact ⟨hbk, trivial⟩) .same))
    ·have ho3 : p.1.op = 3 := by omega
     have hk1 := (hF.sh i p.1 hx).app ho3
     obtain ⟨ak, uk, hqk, habk, huk, hcellk⟩ := hok.k.get (show 0 < p.1.kids.length by omega)
     obtain ⟨hk0, hke⟩ := hF.kid hx (k := 0) (by omega)
     have hu : uk = (kidN p.1 0 : Int) := Option.some.inj (huk.symm.trans hke)
     subst hu
     have habk : ak.block < s0.heap.size := habk
     have hcellk : s0.cell? (ak.add (0 * 1)) = some (.int .i64 (kidN p.1 0 : Int)) := hcellk
     obtain ⟨k1, hk1'⟩ : ∃ k1, kidN p.1 0 = k1 := ⟨_, rfl⟩
     rw [hk1'] at hcellk hk0
     obtain ⟨bk1, hbk1⟩ : ∃ b, y.N[k1]? = some b := ⟨y.N[k1], List.getElem?_eq_getElem (by omega)⟩
     have hrow := rowG hbk1
     unfold flG GY.c
     revert hbk
     revert bk
     intro b8 hb8
     apply W.sk
     apply W.sr
     apply omv; rfl; rfl
     apply oop; rfl; apply Pev.build; rfl; exact CellsL.agg; rfl; exact Fill.au; rfl
     apply OL.alloc; rfl; rfl; exact CellsL.agg; (intro bk hbk; simp only [AllLe, and_true] at hbk)
     apply OL.storeB; rfl; rfl; exact CellsL.agg; rfl; rfl; rfl; exact Swap.au; exact Put.au
     apply OL.nx
     apply W.seq
     apply W.seq
     apply W.regd0; decide +kernel; kernel_rfl; decide +kernel; exact fun w hw => hw.drew
     apply qmv; rfl; rfl
     apply qop; rfl; apply Pev.nil_ptr; rfl; exact yes
     apply qfa; rfl; rfl; rfl
     apply qld; rfl; rfl; apply List.Mem.tail; apply List.Mem.tail; exact .tail _ (.tail _ (.head _)); rfl; rfl
     apply qfa; rfl; rfl; rfl
     apply qld; rfl; rfl; exact .tail _ (.head _); rfl; rfl
     apply qop; rfl; apply Pev.idxQ; rfl; exact yes; rfl; exact yes; assumption; rfl; rfl; intro hcond; (simp only [Bool.and_eq_true, Bool.or_eq_true, Bool.not_eq_true', decide_eq_true_eq, decide_eq_false_iff_not] at *; omega)
     apply qop; rfl; apply Pev.load_kept; rfl; exact yes; exact .head _; rfl; intro hcond; assumption; intro hcond; assumption; intro hcond; exact NotOwned.au
     apply qop; rfl; apply Pev.idxB; rfl; exact yes; rfl; exact yes; rfl; intro hcond; omega; rfl
     apply qop; rfl; apply Pev.load_row; rfl; exact yes; apply List.Mem.tail; apply List.Mem.tail; apply List.Mem.tail; apply List.Mem.tail; exact .tail _ (.tail _ (.head _)); rfl; assumption
     apply qop; rfl; apply Pev.len_slice; rfl; exact yes; rfl
     apply qmv; rfl; rfl
     apply QL.nil
     with_reducible apply At.next
     apply W.block
     revert hbk
     revert bk
     intro b9 hb9
     refine W.loop (G := Nat × IS) (fun G => G.1 ≤ y.N.length + 1 ∧ isF s.R k1 y.N.length G.1 G.2) (fun G => y.N.length + 1 - G.1)
      (fun G => [(0, true, .slice y.qe y.N.length y.ce), (3, true, .pointer (some ⟨y.bs, 0, none⟩)), (9, true, .slice q1 L.length cap1), (12, true, .pointer (some ⟨b9, 0, none⟩)), (94, true, .slice y.qe y.N.length y.ce), (95, true, .int .i64 (y.N.length : Int)), (96, true, .int .i64 (i : Int)), (115, true, slG y.N.length bk1), (116, true, .int .i64 ((y.N.length + 1 : Nat) : Int)), (117, true, .int .i64 (G.1 : Int))])
      (fun G => Cls (blk b9 35 [.int .i64 (i : Int), .slice G.2.q G.2.xs.length G.2.cap, .bool G.2.other] :: row s0.heap.size G.2.O G.2.q G.2.xs.length G.2.cap 3 1 (ints G.2.xs) :: blk b8 43 [.int .i64 p.1.op, .int .i64 p.1.n, .slice p.2.b.1 p.1.binds.length p.2.b.2, .slice p.2.k.1 p.1.kids.length p.2.k.2, .slice p.2.a.1 p.1.alts.length p.2.a.2] :: row s0.heap.size O q1 L.length cap1 35 3 (cat flR.c L) :: pool flR s0.heap.size O2 L :: flG e y s []) [s0]) (0, ⟨[], false, fun _ => False, none, 0⟩) ⟨Nat.zero_le _, (fnsF_zero _ _ _).symm, (show false = _ by simp)⟩ (by exact Sub.au) (fun w' hw' => (hw'.row_nil s0.heap.size 3 1).flip) ?_
     rintro ⟨g, x⟩ ⟨hg, hxs, hxo⟩
     simp only at hg hxs hxo ⊢
     have hxl : x.xs.length ≤ 4096 := by
      have := fnsF_len s.R k1 g y.N.length
      rw [← hxs] at this
      omega
     unfold flG GY.c
     apply W.sr
     apply obn; rfl; rfl; rfl; apply Bin.lss
     apply OL.nx
     apply W.seq
     (refine W.cnd (fun hlt6 => ?_) (fun hlt6 => ?_)) <;> (try (exfalso; first | omega | exact hlt6 trivial | contradiction))
     ·obtain ⟨v, hv⟩ : ∃ v, (s.R.getD k1 [])[g]? = some v := by
       have h1 : (s.R.getD k1 []).length = e.length + 1 := hs.dim.at (by unfold rowsN; omega)
       exact ⟨(s.R.getD k1 [])[g]'(by omega), List.getElem?_eq_getElem _⟩
      have hBv : hB s.R k1 g = v := by
       unfold hB
       rw [List.getD_eq_getElem?_getD (l := s.R.getD k1 []), hv]
       rfl
      apply W.sk
      apply W.sb
      apply W.sr
      apply omv; rfl; rfl
      apply oop; rfl; apply Pev.idxB; rfl; exact yes; rfl; exact yes; rfl; intro hcond; omega; rfl
      (((first | (with_reducible apply OL.op) | (with_reducible apply QL.op)); (exact Guard.au); rfl; rfl); (apply Pev.load_w1; rfl; ((first | exact fun _ => rfl | exact fun h => h | (intro h; simp_all; done))); rfl; exact fun _ w' hw' => by rw [show 0 + (g : Int).toNat * 1 = 0 + g * 1 by omega]; exact bagG_cell (e := e) (R := s.R) hw' (by exact mau) (GP_node hbk1) hv))
      apply oas; rfl; rfl
      apply oas; rfl; rfl
      apply OL.nx
      apply W.seq
      apply W.sr
      apply omv; rfl; rfl
      apply omv; rfl; rfl
      apply oy; rfl; rfl; rfl; apply Pev.move; rfl; exact yes
      apply oy; rfl; rfl; rfl; apply Pev.move; rfl; exact yes
      apply oy; rfl; rfl; rfl; apply Pev.len_slice; rfl; exact fun h => h; rfl
      apply oy; rfl; rfl; rfl; apply Pev.bin; rfl; exact fun h => h; rfl; exact fun h => h; intro hcond; apply Bin.lss
      apply oop; rfl; apply Pev.pick_and; rfl; exact yes; rfl; exact fun h => h
      apply OL.nx
      refine W.cond rfl (fun h => ?_) (fun h => ?_)
      ·have h1 : v = true ∧ g < y.N.length := by simp only [Bool.and_eq_true, decide_eq_true_eq] at h; exact ⟨h.1, by have := h.2; omega⟩
       obtain ⟨rfl, hgl⟩ := h1
       apply W.reg
       apply ofa; rfl; rfl; rfl
       apply old; rfl; rfl; exact .head _; rfl; rfl
       apply omv; rfl; rfl
       apply OL.buildSlice; rfl; rfl; rfl; exact Elems.au; rfl; rfl; (intro bk hbk; simp only [AllLe, and_true] at hbk)
       apply OL.append; rfl; rfl; rfl; rfl; exact Hole.au; exact .head _; exact Take.au; rfl; rfl; exact ⟨_, .head _, Nat.le_refl _⟩; omega; intro O1 g1 cap1
       apply ofa; rfl; rfl; rfl
       apply OL.storeB; rfl; rfl; exact CellsL.one rfl; rfl; rfl; rfl; exact Swap.au; exact Put.au
       apply OL.nsr
       apply omv; rfl; rfl
       apply omv; rfl; rfl
       apply oy; rfl; rfl; rfl; apply Pev.move; rfl; exact yes
       apply oy; rfl; rfl; rfl; apply Pev.move; rfl; exact yes
       apply oy; rfl; rfl; rfl; apply Pev.len_slice; rfl; exact yes; rfl
       apply oy; rfl; rfl; rfl; apply Pev.bin; rfl; exact yes; rfl; exact yes; intro hcond; apply Bin.eql
       apply oop; rfl; apply Pev.pick_and; rfl; exact yes; rfl; exact yes
       apply OL.nx
       refine W.cond rfl (fun h2 => by simp at h2; omega) (fun _ => ?_)
       apply W.skip
       with_reducible apply At.in_normal
       with_reducible apply At.next
       apply W.reg
       apply obn; rfl; rfl; rfl; apply Bin.add_in; omega
       apply omv; rfl; rfl
       apply OL.nil
       refine At.again (g + 1, ⟨x.xs ++ [(g : Int)], x.other, O1, some ⟨g1, 0, none⟩, cap1⟩) ⟨by omega, ?_, ?_⟩ (by simp only; omega) (by exact Sub.au) (fun w' hw' => ?_)
       ·show x.xs ++ [(g : Int)] = _
        rw [fnsF_yes hgl hBv, hxs]
       ·show x.other = _
        rw [hxo, show decide (y.N.length < g) = false by simp; omega, show decide (y.N.length < g + 1) = false by simp; omega]
       ·have h3 := hw'.thin (.any (fun k hk => by rw [show k = bk from hk]; exact ⟨hbk, trivial⟩) .same)
        simpa [ints] using h3
      ·apply W.sk
       apply W.sr
       apply omv; rfl; rfl
       apply omv; rfl; rfl
       apply oy; rfl; rfl; rfl; apply Pev.move; rfl; exact yes
       apply oy; rfl; rfl; rfl; apply Pev.move; rfl; exact yes
       apply oy; rfl; rfl; rfl; apply Pev.len_slice; rfl; exact fun h => h; rfl
       apply oy; rfl; rfl; rfl; apply Pev.bin; rfl; exact fun h => h; rfl; exact fun h => h; intro hcond; apply Bin.eql
       apply oop; rfl; apply Pev.pick_and; rfl; exact yes; rfl; exact fun h => h
       apply OL.nx
       refine W.cond rfl (fun h2 => ?_) (fun h2 => ?_)
       ·have h1 : v = true ∧ g = y.N.length := by simp only [Bool.and_eq_true, decide_eq_true_eq] at h2; exact ⟨h2.1, by have := h2.2; omega⟩
        obtain ⟨rfl, rfl⟩ := h1
        apply W.reg
        apply ofa; rfl; rfl; rfl
        apply OL.storeB; rfl; rfl; exact CellsL.one rfl; rfl; rfl; rfl; exact Swap.au; exact Put.au
        apply OL.nil
        with_reducible apply At.in_normal
        with_reducible apply At.next
        apply W.reg
        apply obn; rfl; rfl; rfl; apply Bin.add_in; omega
        apply omv; rfl; rfl
        apply OL.nil
        refine At.again (y.N.length + 1, ⟨x.xs, true, x.O, x.q, x.cap⟩) ⟨by omega, ?_, ?_⟩ (by simp only; omega) (by exact Sub.au) (fun w' hw' => hw')
        ·show x.xs = _
         rw [hxs, fnsF_out (c := y.N.length + 1) (by omega)]
        ·show true = _
         simp [hBv]
       ·have hvf : v = false := by
         cases v with
         | false => rfl
         | true =>
          simp only [Bool.true_and, decide_eq_false_iff_not] at h h2
          omega
        subst hvf
        apply W.skip
        with_reducible apply At.in_normal
        with_reducible apply At.next
        apply W.reg
        apply obn; rfl; rfl; rfl; apply Bin.add_in; omega
        apply omv; rfl; rfl
        apply OL.nil
        have hsk := isF_skip (x := x) hBv ⟨hxs, hxo⟩
        exact At.again (g + 1, x) ⟨by omega, hsk⟩ (by simp only; omega) (by exact Sub.au) (fun w' hw' => hw')
     ·obtain rfl : g = y.N.length + 1 := by omega
      rw [fnsF_out (by omega)] at hxs
      rw [show decide (y.N.length < y.N.length + 1) = true by simp, Bool.true_and] at hxo
      refine W.xt ?_
      with_reducible apply At.next
      apply W.reg
      apply omv; rfl; rfl
      apply oop; rfl; apply Pev.load_blkA; rfl; exact yes; exact .head _; rfl; exact Take.au
      apply OL.buildSlice; rfl; rfl; rfl; exact Elems.au; rfl; rfl; (intro bk hbk; simp only [AllLe, and_true] at hbk)
      apply OL.append; rfl; rfl; rfl; rfl; exact Hole.au; exact .head _; exact Take.au; rfl; rfl; exact ⟨_, .head _, Nat.le_refl _⟩; omega; intro O1 g1 cap1
      apply oas; rfl; rfl
      apply OL.nil
      with_reducible apply At.in_normal
      with_reducible apply At.next
      apply W.reg
      apply obn; rfl; rfl; rfl; apply Bin.add_in; omega
      apply omv; rfl; rfl
      apply OL.nil
      refine At.again ⟨i + 1, [], O1, some ⟨g1, 0, none⟩, cap1, fun k => x.O k ∨ O2 k, L ++ [(callF e s.R i p.1, (x.q, x.cap))]⟩ ⟨(show i + 1 ≤ e.length by omega), ?_⟩ (show e.length - (i + 1) < e.length - i by omega) ?_ (fun w' hw' => ?_)
      ·show (L ++ [(callF e s.R i p.1, (x.q, x.cap))]).map Prod.fst = outF e s.R (i + 1)
       rw [outF_app hx ho3, List.map_append, hLL]
       rfl
      ·simp only [List.length_append, List.length_singleton]
       exact Sub.au
      ·have hcl9 : callF e s.R i p.1 = ⟨i, x.xs, x.other⟩ := by
        unfold callF
        rw [hk1', hxs, hxo, hne]
       have h1 : Cls (row s0.heap.size x.O x.q x.xs.length x.cap 3 1 (ints x.xs) :: row s0.heap.size O1 (some ⟨g1, 0, none⟩) (L.length + 1) cap1 35 3 (cat flR.c L ++ [.int .i64 (i : Int), .slice x.q x.xs.length x.cap, .bool x.other]) :: pool flR s0.heap.size O2 L :: flG e y s []) [s0] w' :=
        hw'.thin (.any (fun k hk => by rw [show k = bk from hk]; exact ⟨hbk, trivial⟩) (.any (fun k hk => by rw [show k = b9 from hk]; exact ⟨hb9, trivial⟩) (.keep (.any (fun k hk => by rw [show k = b8 from hk]; exact ⟨hb8, trivial⟩) .same))))
       have h2 : Cls (row s0.heap.size x.O x.q x.xs.length x.cap 3 1 (ints x.xs) :: pool flR s0.heap.size O2 L :: row s0.heap.size O1 (some ⟨g1, 0, none⟩) (L.length + 1) cap1 35 3 (cat flR.c L ++ [.int .i64 (i : Int), .slice x.q x.xs.length x.cap, .bool x.other]) :: flG e y s []) [s0] w' :=
        h1.perm (List.Perm.cons _ (List.Perm.swap _ _ _))
       have h5 := h2.pool_row (R := flR) (x := callF e s.R i p.1) (y := (x.q, x.cap)) (fun hx1 => ?_)
       ·have e5 : cat flR.c (L ++ [(callF e s.R i p.1, (x.q, x.cap))]) = cat flR.c L ++ [.int .i64 (i : Int), .slice x.q x.xs.length x.cap, .bool x.other] := by
         rw [cat_append, hcl9]
         simp [cat, Rel.c, flR, flCells]
        simp only [e5, List.length_append, List.length_singleton]
        exact h5.flip
       ·rw [hcl9]
        have hxl : x.xs.length ≤ 4096 := by
         have := fnsF_len s.R k1 y.N.length y.N.length
         rw [← hxs] at this
         omega
        refine ⟨by simp only [I64]; omega, fun z hz => ?_, (show x.xs.length ≤ 1048576 by omega), fun hl => ?_⟩
        ·have hz : z ∈ x.xs := hz
         rw [hxs] at hz
         unfold fnsF at hz
         obtain ⟨g, hg1, rfl⟩ := List.mem_map.1 hz
         have := List.mem_range.1 (List.mem_filter.1 hg1).1
         simp only [I64]
         omega
        ·rcases hx1 with ⟨a1, h7, h8, h9⟩ | h7
         ·exact ⟨a1, h7, ⟨h8.1, .inl h8.2⟩, h9⟩
         ·have : x.xs = [] := by simpa [ints] using h7
          have hl : 0 < x.xs.length := hl
          rw [this] at hl
          cases hl
   ·obtain rfl : i = e.length := by omega
    refine W.xt ?_
    with_reducible apply At.next
    apply W.sr
    apply omv; rfl; rfl
    apply oas; rfl; rfl
    apply OL.nx
    apply W.ret
    ((with_reducible apply At.fin1); rfl; rfl; intro w' hw')
    refine ⟨q1, cap1, L, s.R, rfl, ?_, ?_, hL, hLL⟩
    ·refine ⟨(hw'.kp s0 (.head _)).os, (hw'.kp s0 (.head _)).tape, (hw'.kp s0 (.head _)).output, (hw'.kp s0 (.head _)).size, fun k hk _ => (hw'.kp s0 (.head _)).block k hk ?_⟩
     exact NotOwned.not (NotOwned.row (by omega) (NotOwned.pool (by omega) (flG_no (by omega) hbs0 (fun k hk => .nil) k hk)))
    ·exact hw'.arrF (B := s0.heap.size) (m := L.length) (cap := cap1) (O1 := O) (O2 := O2) (e := 35) (.head _) (.tail _ (.head _)) (Nat.le_refl _)
end Go.Proofs.YtkpjndhgicbjjaaDoor.co

/- The reference's small builder of expressions: nodes in memory, and their list. Conditions: none. (Printed by nt.py.) -/
namespace Go.Eng
variable {α μ : Type} {R : Rel α μ} {O : Nat → Prop} {l : List (α × μ)}
theorem Cls.pool_take {B : Nat} {j : Item} {H : List Item} {S : List World} {w : World} {x : α} {y : μ} (h : Cls (j :: pool R B O l :: H) S w) (hj : ∀ k, j.own k → B ≤ k) (hx : R.ok w (fun k => B ≤ k ∧ (O k ∨ j.own k)) x y) :
  Cls (pool R B (fun k => O k ∨ j.own k) (l ++ [(x, y)]) :: H) S w := by
 have hd := List.pairwise_cons.1 h.dj
 have hd2 := List.pairwise_cons.1 hd.2
 have hp := h.holds _ (.tail _ (.head _))
 refine ⟨fun i hi => ?_, fun i hi k hk => ?_, List.pairwise_cons.2 ⟨fun i hi k hk hik => ?_, hd2.2⟩, fun s hs => (h.kp s hs).mono ?_⟩
 ·rcases List.mem_cons.1 hi with rfl | hi
  ·intro z hz
   rcases List.mem_append.1 hz with hz | hz
   ·exact R.mono (fun k hk => ⟨hk.1, .inl hk.2⟩) (hp z hz)
   ·obtain rfl := List.mem_singleton.1 hz
    exact hx
  ·exact h.holds i (.tail _ (.tail _ hi))
 ·rcases List.mem_cons.1 hi with rfl | hi
  ·obtain ⟨h0, h1⟩ : B ≤ k ∧ (O k ∨ j.own k) := hk
   rcases h1 with h1 | h1
   ·exact h.lt _ (.tail _ (.head _)) k ⟨h0, h1⟩
   ·exact h.lt _ (.head _) k h1
  ·exact h.lt i (.tail _ (.tail _ hi)) k hk
 ·obtain ⟨h0, h1⟩ : B ≤ k ∧ (O k ∨ j.own k) := hk
  rcases h1 with h1 | h1
  ·exact hd2.1 i hi k ⟨h0, h1⟩ hik
  ·exact hd.1 i (.tail _ hi) k h1 hik
 ·rintro k _ ⟨i, hi, hk⟩
  rcases List.mem_cons.1 hi with rfl | hi
  ·exact ⟨_, .head _, hj k hk, .inr hk⟩
  ·rcases List.mem_cons.1 hi with rfl | hi
   ·exact ⟨_, .head _, hk.1, .inl hk.2⟩
   ·exact ⟨i, .tail _ hi, hk⟩
end Go.Eng
namespace Go.Co
open Go.Eng Go.RowKit
/-! ### a tree as a list -/
mutual
def lay : Tr → Nat → List Ex
 | .mk op n binds kids alts, s => lays kids s ++ [⟨op, n, binds, roots kids s, alts⟩]
def lays : List Tr → Nat → List Ex
 | [], _ => []
 | t :: r, s => lay t s ++ lays r (s + tsz t)
def roots : List Tr → Nat → List Int
 | [], _ => []
 | t :: r, s => (((s + tsz t : Nat) : Int) - 1) :: roots r (s + tsz t)
end
mutual
theorem lay_len : ∀ (t : Tr) (s : Nat), (lay t s).length = tsz t
 | .mk op n binds kids alts, s => by simp only [lay, tsz, List.length_append, List.length_singleton, lays_len kids s]
theorem lays_len : ∀ (ts : List Tr) (s : Nat), (lays ts s).length = tszs ts
 | [], _ => rfl
 | t :: r, s => by simp only [lays, tszs, List.length_append, lay_len t s, lays_len r _]
end
theorem lays_take : ∀ {ts : List Tr} {j s : Nat} {t : Tr}, ts[j]? = some t → lays (ts.take (j + 1)) s = lays (ts.take j) s ++ lay t (s + tszs (ts.take j))
 | [], _, _, _, h => by simp at h
 | u :: r, 0, s, t, h => by
  simp at h; subst h
  simp [lays, tszs]
 | u :: r, j + 1, s, t, h => by
  have ih := lays_take (ts := r) (j := j) (s := s + tsz u) (t := t) (by simpa using h)
  simp only [List.take_succ_cons, lays, tszs, ih, List.append_assoc, Nat.add_assoc]
theorem roots_take : ∀ {ts : List Tr} {j s : Nat} {t : Tr}, ts[j]? = some t → roots (ts.take (j + 1)) s = roots (ts.take j) s ++ [((s + tszs (ts.take j) + tsz t : Nat) : Int) - 1]
 | [], _, _, _, h => by simp at h
 | u :: r, 0, s, t, h => by
  simp at h; subst h
  simp only [List.take_succ_cons, List.take_zero, roots, tszs, Nat.add_zero, List.nil_append]
 | u :: r, j + 1, s, t, h => by
  have ih := roots_take (ts := r) (j := j) (s := s + tsz u) (t := t) (by simpa using h)
  simp only [List.take_succ_cons, roots, tszs, ih, List.cons_append, Nat.add_assoc]
theorem roots_len : ∀ (ts : List Tr) (s : Nat), (roots ts s).length = ts.length
 | [], _ => rfl
 | t :: r, s => by rw [roots, List.length_cons, roots_len, List.length_cons]
/-! ### nodes in memory -/
structure NdOk (w : World) (op n : Int) (binds : List Int) (kl : Nat) (alts : List Al) (y : ExY) : Prop where
 op : I64 op
 n : I64 n
 bl : binds.length ≤ 16
 al : alts.length ≤ 4096
 kl : kl ≤ 4096
 bc : binds.length ≤ y.b.2
 ac : alts.length ≤ y.a.2
 b : IntsO w (low w) binds y.b.1
 a : ArrP altR_ w (low w) alts y.a.1
mutual
def NodO (w : World) : Tr → Nat → Prop
 | .mk op n binds kids alts, b => ∃ y : ExY, b < w.heap.size ∧ CellsAt w ⟨b, 0, none⟩ [.int .i64 op, .int .i64 n, .slice y.b.1 binds.length y.b.2, .slice none 0 0, .slice y.a.1 alts.length y.a.2, .slice y.k.1 kids.length y.k.2] ∧ NdOk w op n binds kids.length alts y ∧ (0 < kids.length → ∃ a, y.k.1 = some a ∧ a.block < w.heap.size ∧ NodsO w kids a)
def NodsO (w : World) : List Tr → Addr → Prop
 | [], _ => True
 | t :: r, a => (∃ b, w.cell? a = some (.pointer (some ⟨b, 0, none⟩)) ∧ NodO w t b) ∧ NodsO w r (a.add 1)
end
mutual
theorem NodO.ext {w w' : World} (hs : w.heap.size ≤ w'.heap.size) (hk : ∀ k, k < w.heap.size → w'.heap[k]? = w.heap[k]?) : ∀ {t : Tr} {b : Nat}, NodO w t b → NodO w' t b
 | .mk op n binds kids alts, b, h => by
  simp only [NodO] at h ⊢
  obtain ⟨y, h1, h2, h3, h4⟩ := h
  refine ⟨y, by omega, cells_stab (hk _ h1) h2, ⟨h3.op, h3.n, h3.bl, h3.al, h3.kl, h3.bc, h3.ac, (h3.b.stab hk).mono fun k hk => Nat.lt_of_lt_of_le hk hs, (h3.a.stab hk).mono fun k hk => Nat.lt_of_lt_of_le hk hs⟩, fun hl => ?_⟩
  obtain ⟨a, ha, hb, hall⟩ := h4 hl
  exact ⟨a, ha, by omega, NodsO.ext hs hk hb hall⟩
theorem NodsO.ext {w w' : World} (hs : w.heap.size ≤ w'.heap.size) (hk : ∀ k, k < w.heap.size → w'.heap[k]? = w.heap[k]?) : ∀ {ts : List Tr} {a : Addr}, a.block < w.heap.size → NodsO w ts a → NodsO w' ts a
 | [], _, _, _ => by simp only [NodsO]
 | t :: r, a, hb, h => by
  simp only [NodsO] at h ⊢
  obtain ⟨⟨b, h1, h2⟩, h3⟩ := h
  exact ⟨⟨b, by rw [cell_heap (hk _ hb)]; exact h1, NodO.ext hs hk h2⟩, NodsO.ext hs hk (by rw [add_block]; exact hb) h3⟩
end
theorem NodO.at {w w' : World} {t : Tr} {b : Nat} {H : List Eng.Item} {S : List World} (h : NodO w t b) (hw : Cls H S w') (hs : w ∈ S) (hno : ∀ k, k < w.heap.size → NotOwned H k) : NodO w' t b :=
 h.ext (hw.kp w hs).size (hw.same hs hno)
theorem NodsO.get {w : World} : ∀ {ts : List Tr} {a : Addr} {i : Nat} {t : Tr}, NodsO w ts a → ts[i]? = some t → ∃ b, w.cell? (a.add (i * 1)) = some (.pointer (some ⟨b, 0, none⟩)) ∧ NodO w t b
 | [], _, _, _, _, h => by simp at h
 | u :: r, a, 0, t, h, hi => by
  simp only [NodsO] at h
  simp at hi; subst hi
  obtain ⟨b, h1, h2⟩ := h.1
  exact ⟨b, by rw [Nat.zero_mul, add_zero_]; exact h1, h2⟩
 | u :: r, a, i + 1, t, h, hi => by
  simp only [NodsO] at h
  obtain ⟨b, h1, h2⟩ := NodsO.get (i := i) h.2 (by simpa using hi)
  rw [add_add] at h1
  exact ⟨b, by rwa [show 1 + i * 1 = (i + 1) * 1 by omega] at h1, h2⟩
structure ExSOk (s0 w : World) (O : Nat → Prop) (x : Ex) (y : ExY) : Prop where
 n : NdOk s0 x.op x.n x.binds x.kids.length x.alts y
 kc : x.kids.length ≤ y.k.2
 k : IntsO w O x.kids y.k.1
def exS (s0 : World) : Rel Ex ExY where
 sz := 5
 pos := by decide
 cells := exC
 ok := ExSOk s0
 len := fun _ _ => rfl
 stab := fun hk h => ⟨h.n, h.kc, h.k.stab hk⟩
 mono := fun hk h => ⟨h.n, h.kc, h.k.mono hk⟩
theorem ExSOk.ok {s0 w : World} {x : Ex} {y : ExY} (h : ExSOk s0 w (low w) x y) (hs : s0.heap.size ≤ w.heap.size) (hk : ∀ k, k < s0.heap.size → w.heap[k]? = s0.heap[k]?) : ExOk w (low w) x y :=
 ⟨h.n.op, h.n.n, by have := h.n.bl; omega, by have := h.n.kl; omega, by have := h.n.al; omega, h.n.bc, h.kc, h.n.ac, (h.n.b.stab hk).mono fun k hk => Nat.lt_of_lt_of_le hk hs, h.k, (h.n.a.stab hk).mono fun k hk => Nat.lt_of_lt_of_le hk hs⟩
structure ST where
 l : List (Ex × ExY)
 O : Nat → Prop
 O2 : Nat → Prop
 q : Option Addr
 c : Nat
def ST.dummy (st : ST) (l : List Ex) : ST := ⟨st.l ++ l.map fun x => (x, ⟨(none, 0), (none, 0), (none, 0)⟩), fun _ => False, fun _ => False, none, 0⟩
theorem ST.dummy_map (st : ST) (l : List Ex) : (st.dummy l).l.map Prod.fst = st.l.map Prod.fst ++ l := by
 unfold ST.dummy
 rw [List.map_append, List.map_map]
 congr 1
 simp [Function.comp_def]
structure XI (S : List World) (st1 : ST) (t : Tr) where
 st : ST
 hst : st.l.map Prod.fst = st1.l.map Prod.fst ++ lay t st1.l.length
 b1 : Nat
 hb1 : AllLe S b1
 g1 : Nat
 c1 : Nat
 O1 : Nat → Prop
 old : Nat → Value
end Go.Co
namespace Go.Proofs.YtkpjndhgicbjjaaDoor.co
open Go.RowKit Go.Eng Go.Co
set_option maxRecDepth 100000
set_option maxHeartbeats 1000000 in
theorem intoN_calls (s0 : World) (bo : Nat) (hbo : s0.heap.size ≤ bo) :
  ∀ (m : Nat) (t : Tr) (b : Nat) (st : ST) (H : List Eng.Item) (S : List World) (w : World), tsz t ≤ m → NodO s0 t b → st.l.length + tsz t ≤ 100000 → (∀ k, k < s0.heap.size → NotOwned H k) →
   Cls (blk bo 22 [.slice st.q st.l.length st.c] :: row s0.heap.size st.O st.q st.l.length st.c 43 5 (cat (exS s0).c st.l) :: pool (exS s0) s0.heap.size st.O2 st.l :: H) (s0 :: S) w →
   Calls Tryd.prog 13 [.pointer (some ⟨b, 0, none⟩), .pointer (some ⟨bo, 0, none⟩)].toArray w fun e w' => ∃ st' : ST, e = .returned (.int .i64 ((st'.l.length : Int) - 1)) ∧ st'.l.map Prod.fst = st.l.map Prod.fst ++ lay t st.l.length ∧ Cls (blk bo 22 [.slice st'.q st'.l.length st'.c] :: row s0.heap.size st'.O st'.q st'.l.length st'.c 43 5 (cat (exS s0).c st'.l) :: pool (exS s0) s0.heap.size st'.O2 st'.l :: H) (s0 :: S) w' := by
 intro m
 induction m with
 | zero =>
  intro t b st H S w hm
  obtain ⟨op, n, binds, kids, alts⟩ := t
  simp only [tsz] at hm
  omega
 | succ m ih =>
 intro t b st H S w hm ht hlen hno hc
 obtain ⟨op, n, binds, kids, alts⟩ := t
 simp only [NodO] at ht
 obtain ⟨y, hbs, hcells, hN, hks⟩ := ht
 have hcellI : ∀ {j : Nat} {v : Value}, ([.int .i64 op, .int .i64 n, .slice y.b.1 binds.length y.b.2, .slice none 0 0, .slice y.a.1 alts.length y.a.2, .slice y.k.1 kids.length y.k.2] : List Value)[j]? = some v → s0.cell? ⟨b, 0 + j, none⟩ = some v := fun {j v} hj => by
  have := hcells j v hj
  rwa [add_mid] at this
 have h5 : s0.cell? ⟨b, 0 + 5, none⟩ = some (.slice y.k.1 kids.length y.k.2) := hcellI (j := 5) rfl
 have hX : CellsAt s0 ⟨b, 0 + 0, none⟩ [.int .i64 op, .int .i64 n, .slice y.b.1 binds.length y.b.2, .slice none 0 0, .slice y.a.1 alts.length y.a.2] := fun j v hj => by
  have hj5 := (List.getElem?_eq_some_iff.1 hj).1
  have h9 : s0.cell? ⟨b, 0 + j, none⟩ = some v := hcellI (by
   rw [← hj]
   match j, hj5 with
   | 0, _ => rfl
   | 1, _ => rfl
   | 2, _ => rfl
   | 3, _ => rfl
   | 4, _ => rfl)
  rw [add_mid]
  simpa using h9
 simp only [tsz] at hm hlen
 have hkl := hN.kl
 refine enter Tryd.func13 rfl Tryd.ntmps13 rfl hc ?_
 (simp only [argEnv, Nat.zero_add, Nat.reduceAdd])
 apply W.sr
 apply oas; rfl; rfl
 apply OL.nsr
 apply omv; rfl; rfl
 apply oop; rfl; apply Pev.nil_ptr; rfl; exact yes
 apply ofa; rfl; rfl; rfl
 apply oop; rfl; apply Pev.load_keptA; rfl; exact yes; exact .head _; rfl; intro hcond; assumption; rfl; intro hcond; assumption; intro hcond; exact NotOwned.au
 apply OL.alloc; rfl; rfl; exact CellsL.agg; (intro bk hbk; simp only [AllLe, and_true] at hbk)
 apply OL.storeB; rfl; rfl; exact CellsL.agg; rfl; rfl; rfl; exact Swap.au; exact Put.au
 apply OL.nsr
 apply ofa; rfl; rfl; rfl
 apply OL.storeB; rfl; rfl; exact CellsL.one rfl; rfl; rfl; rfl; exact Swap.au; exact Put.au
 apply OL.nx
 apply W.seq
 apply W.sr
 apply omv; rfl; rfl
 apply oop; rfl; apply Pev.nil_ptr; rfl; exact yes
 apply ofa; rfl; rfl; rfl
 apply oop; rfl; apply Pev.load_kept; rfl; exact yes; exact .head _; rfl; intro hcond; assumption; intro hcond; assumption; intro hcond; exact NotOwned.au
 apply oop; rfl; apply Pev.len_slice; rfl; exact yes; rfl
 apply omv; rfl; rfl
 apply OL.nx
 apply W.block
 revert bk
 intro bx hbx
 have hbx0 : s0.heap.size ≤ bx := hbx.1
 obtain ⟨m0, hm0⟩ : ∃ m0, m0 = st.l.length := ⟨_, rfl⟩
 refine W.loop (G := Nat × ST × GR) (fun g => g.1 ≤ kids.length ∧ g.2.1.l.map Prod.fst = st.l.map Prod.fst ++ lays (kids.take g.1) m0) (fun g => kids.length - g.1)
  (fun g => [(1, true, .pointer (some ⟨bo, 0, none⟩)), (5, true, .pointer (some ⟨bx, 0, none⟩)), (16, true, .slice y.k.1 kids.length y.k.2), (17, true, .int .i64 (kids.length : Int)), (18, true, .int .i64 (g.1 : Int))])
  (fun g => Cls (row s0.heap.size g.2.2.O g.2.2.q g.1 g.2.2.c 3 1 (ints (roots (kids.take g.1) m0)) :: blk bx 43 [.int .i64 op, .int .i64 n, .slice y.b.1 binds.length y.b.2, .slice g.2.2.q g.1 g.2.2.c, .slice y.a.1 alts.length y.a.2] :: blk bo 22 [.slice g.2.1.q g.2.1.l.length g.2.1.c] :: row s0.heap.size g.2.1.O g.2.1.q g.2.1.l.length g.2.1.c 43 5 (cat (exS s0).c g.2.1.l) :: pool (exS s0) s0.heap.size g.2.1.O2 g.2.1.l :: H) (s0 :: S)) (0, st, ⟨fun _ => False, none, 0⟩) ⟨by simp, by simp [lays]⟩ (by exact Sub.au) (fun w' hw' => hw'.row_nil s0.heap.size 3 1) ?_
 rintro ⟨j, st1, ⟨Ok, qk, ck⟩⟩ ⟨hj, hst1⟩
 simp only at hj hst1 ⊢
 have hl1 : st1.l.length = m0 + tszs (kids.take j) := by
  have := congrArg List.length hst1
  rw [List.length_map, List.length_append, List.length_map, lays_len, ← hm0] at this
  exact this
 have htake := tszs_take_le (ts := kids) (i := j)
 apply W.sr
 apply obn; rfl; rfl; rfl; apply Bin.lss
 apply OL.nx
 apply W.seq
 (refine W.cnd (fun hlt => ?_) (fun hlt => ?_)) <;> (try (exfalso; first | omega | exact hlt trivial | contradiction))
 ·have hjl : j < kids.length := by omega
  obtain ⟨a, hqa, hab, hnods⟩ := hks (by omega)
  have hki : kids[j]? = some kids[j] := List.getElem?_eq_getElem hjl
  obtain ⟨b', hcb, hkid⟩ := hnods.get hki
  have h1 := tszs_take_succ hki
  have h2 := tszs_take_le (ts := kids) (i := j + 1)
  rw [hqa]
  apply W.sk
  apply W.sb
  apply W.sr
  apply oop; rfl; apply Pev.idx; rfl; exact yes; rfl; exact yes; rfl; rfl; intro hcond; omega
  apply oop; rfl; apply Pev.load_kept; rfl; exact yes; exact .head _; rfl; intro hcond; assumption; intro hcond; (rw [add_block]; assumption); intro hcond; exact NotOwned.au
  apply oas; rfl; rfl
  apply OL.nx
  refine W.regany (X := XI (s0 :: S) st1 kids[j]) (fun x e => [(29, true, bif e 7 then .pointer (some ⟨bx, 0 + 3, none⟩) else x.old 29), (28, true, bif e 6 then .slice (some ⟨x.g1, 0, none⟩) (j + 1) x.c1 else x.old 28), (27, true, bif e 5 then .slice (some ⟨x.b1, 0, none⟩) 1 1 else x.old 27), (26, true, bif e 4 then .int .i64 ((x.st.l.length : Int) - 1) else x.old 26), (25, true, bif e 3 then .pointer (some ⟨bo, 0, none⟩) else x.old 25), (24, true, bif e 2 then .pointer (some ⟨b', 0, none⟩) else x.old 24), (23, true, bif e 1 then .slice qk j ck else x.old 23), (22, true, bif e 0 then .pointer (some ⟨bx, 0 + 3, none⟩) else x.old 22), (1, true, .pointer (some ⟨bo, 0, none⟩)), (5, true, .pointer (some ⟨bx, 0, none⟩)), (7, true, .pointer (some ⟨b', 0, none⟩)), (16, true, .slice (some a) kids.length y.k.2), (17, true, .int .i64 (kids.length : Int)), (18, true, .int .i64 (j : Int))])
   (fun x e => (bif e 6 then row s0.heap.size x.O1 (some ⟨x.g1, 0, none⟩) (j + 1) x.c1 3 1 (ints (roots (kids.take j) m0) ++ [.int .i64 ((x.st.l.length : Int) - 1)]) else row s0.heap.size Ok qk j ck 3 1 (ints (roots (kids.take j) m0))) :: (blk bx 43 [.int .i64 op, .int .i64 n, .slice y.b.1 binds.length y.b.2, bif e 8 then .slice (some ⟨x.g1, 0, none⟩) (j + 1) x.c1 else .slice qk j ck, .slice y.a.1 alts.length y.a.2]) :: (bif e 4 then blk bo 22 [.slice x.st.q x.st.l.length x.st.c] else blk bo 22 [.slice st1.q st1.l.length st1.c]) :: (bif e 4 then row s0.heap.size x.st.O x.st.q x.st.l.length x.st.c 43 5 (cat (exS s0).c x.st.l) else row s0.heap.size st1.O st1.q st1.l.length st1.c 43 5 (cat (exS s0).c st1.l)) :: (bif e 4 then pool (exS s0) s0.heap.size x.st.O2 x.st.l else pool (exS s0) s0.heap.size st1.O2 st1.l) :: (bif e 5 then blk x.b1 3 [.int .i64 ((x.st.l.length : Int) - 1)] else nothing) :: H)
   (fun old => ⟨st1.dummy (lay kids[j] st1.l.length), ST.dummy_map _ _, w.heap.size, AllLe.mk hc, 0, 0, fun _ => False, old⟩) (by kernel_rfl) (by kernel_rfl) (fun w hw => hw.drew) (fun old => by repeat (first | exact SubO.nil | apply SubO.cons rfl | refine SubO.old rfl ?_)) (fun old w' hw' => (hw'.nothing_cons).mv (A := [_]) (I := [_, _, _, _, _])) ?_ ?_
  ·intro x e i o ho hei hd hcl
   have hi : i < 9 := (List.getElem?_eq_some_iff.1 ho).1
   obtain rfl | rfl | rfl | rfl | rfl | rfl | rfl | rfl | rfl : i = 0 ∨ i = 1 ∨ i = 2 ∨ i = 3 ∨ i = 4 ∨ i = 5 ∨ i = 6 ∨ i = 7 ∨ i = 8 := by omega
   ·cases ho
    have v0 : Eng.upd e 0 0 = true := upd_eq
    simp only [hei, cond_true, cond_false]
    apply ofa; rfl; rfl; rfl
    apply OL.nil
    exact At.beside x (by repeat (first | exact Sub.nil | apply Sub.cons rfl | refine Sub.cons_eq rfl (by simp only [v0, cond_true, cond_false]) ?_)) (fun w' hw' => by first | exact hw' | (simp only [v0, cond_true, cond_false]; exact hw'))
   ·cases ho
    have h0 : e 0 = true := hd ⟨0, .data⟩ (by simp) rfl
    have h8 : e 8 = false := hcl.not (i := 1) (j := 8) rfl hei (by kernel_rfl)
    have v1 : Eng.upd e 1 1 = true := upd_eq
    have v0 : Eng.upd e 1 0 = true := upd_mono h0
    have v8 : Eng.upd e 1 8 = false := h8
    simp only [hei, h0, h8, cond_true, cond_false]
    apply old; rfl; rfl; exact .tail _ (.head _); rfl; rfl
    apply OL.nil
    exact At.beside x (by repeat (first | exact Sub.nil | apply Sub.cons rfl | refine Sub.cons_eq rfl (by simp only [v1, v0, v8, cond_true, cond_false]) ?_)) (fun w' hw' => by first | exact hw' | (simp only [v1, v0, v8, cond_true, cond_false]; exact hw'))
   ·cases ho
    have v2 : Eng.upd e 2 2 = true := upd_eq
    simp only [hei, cond_true, cond_false]
    apply omv; rfl; rfl
    apply OL.nil
    exact At.beside x (by repeat (first | exact Sub.nil | apply Sub.cons rfl | refine Sub.cons_eq rfl (by simp only [v2, cond_true, cond_false]) ?_)) (fun w' hw' => by first | exact hw' | (simp only [v2, cond_true, cond_false]; exact hw'))
   ·cases ho
    have v3 : Eng.upd e 3 3 = true := upd_eq
    simp only [hei, cond_true, cond_false]
    apply omv; rfl; rfl
    apply OL.nil
    exact At.beside x (by repeat (first | exact Sub.nil | apply Sub.cons rfl | refine Sub.cons_eq rfl (by simp only [v3, cond_true, cond_false]) ?_)) (fun w' hw' => by first | exact hw' | (simp only [v3, cond_true, cond_false]; exact hw'))
   ·cases ho
    have h2 : e 2 = true := hd ⟨2, .data⟩ (by simp) rfl
    have h3 : e 3 = true := hd ⟨3, .data⟩ (by simp) rfl
    have h5 : e 5 = false := hcl.not (i := 4) (j := 5) rfl hei (by kernel_rfl)
    have h6 : e 6 = false := hcl.not (i := 4) (j := 6) rfl hei (by kernel_rfl)
    have h8 : e 8 = false := hcl.not (i := 4) (j := 8) rfl hei (by kernel_rfl)
    have v4 : Eng.upd e 4 4 = true := upd_eq
    have v2 : Eng.upd e 4 2 = true := upd_mono h2
    have v3 : Eng.upd e 4 3 = true := upd_mono h3
    have v5 : Eng.upd e 4 5 = false := h5
    have v6 : Eng.upd e 4 6 = false := h6
    have v8 : Eng.upd e 4 8 = false := h8
    simp only [hei, h2, h3, h5, h6, h8, cond_true, cond_false]
    refine OL.callE (α := { z : ST // z.l.map Prod.fst = st1.l.map Prod.fst ++ lay kids[j] st1.l.length }) (fun z => .int .i64 ((z.1.l.length : Int) - 1)) (fun _ => True) (fun z => Cls (row s0.heap.size Ok qk j ck 3 1 (ints (roots (kids.take j) m0)) :: blk bx 43 [.int .i64 op, .int .i64 n, .slice y.b.1 binds.length y.b.2, .slice qk j ck, .slice y.a.1 alts.length y.a.2] :: blk bo 22 [.slice z.1.q z.1.l.length z.1.c] :: row s0.heap.size z.1.O z.1.q z.1.l.length z.1.c 43 5 (cat (exS s0).c z.1.l) :: pool (exS s0) s0.heap.size z.1.O2 z.1.l :: nothing :: H) (s0 :: S)) rfl rfl (by exact Args.au) (fun w2 hw2 => (ih kids[j] b' st1 (row s0.heap.size Ok qk j ck 3 1 (ints (roots (kids.take j) m0)) :: blk bx 43 [.int .i64 op, .int .i64 n, .slice y.b.1 binds.length y.b.2, .slice qk j ck, .slice y.a.1 alts.length y.a.2] :: nothing :: H) S w2 (by omega) hkid (by omega) (fun k hk => by have := hno k hk; exact NotOwned.au) (hw2.mv (A := [_, _]) (I := [_, _, _]) (H := nothing :: H))).mono (fun e w3 ⟨z, h1, h2, h3⟩ => ⟨⟨z, h2⟩, h1, trivial, h3.mv (A := [_, _, _]) (I := [_, _]) (H := nothing :: H)⟩)) ?_
    rintro ⟨st2, hst2⟩ -
    simp only
    apply OL.nil
    exact At.beside { x with st := st2, hst := hst2 } (by repeat (first | exact Sub.nil | apply Sub.cons rfl | refine Sub.cons_eq rfl (by simp only [v4, v2, v3, v5, v6, v8, cond_true, cond_false]) ?_)) (fun w' hw' => by first | exact hw' | (simp only [v4, v2, v3, v5, v6, v8, cond_true, cond_false]; exact hw'))
   ·cases ho
    have h4 : e 4 = true := hd ⟨4, .data⟩ (by simp) rfl
    have v5 : Eng.upd e 5 5 = true := upd_eq
    have v4 : Eng.upd e 5 4 = true := upd_mono h4
    simp only [hei, h4, cond_true, cond_false]
    apply OL.buildSlice; rfl; rfl; rfl; exact Elems.au; rfl; rfl; (intro bk hbk; simp only [AllLe, and_true] at hbk)
    apply OL.nil
    exact At.beside { x with b1 := bk, hb1 := hbk } (by repeat (first | exact Sub.nil | apply Sub.cons rfl | refine Sub.cons_eq rfl (by simp only [v5, v4, cond_true, cond_false]) ?_)) (fun w' hw' => by simp only [v5, v4, cond_true, cond_false]; exact Cls.fill (p := 5) (H := _ :: _ :: _ :: _ :: _ :: _ :: H) (.s (.s (.s (.s (.s .z))))) hw')
   ·cases ho
    have h1 : e 1 = true := hd ⟨1, .data⟩ (by simp) rfl
    have h5 : e 5 = true := hd ⟨5, .data⟩ (by simp) rfl
    have h4 : e 4 = true := hd ⟨4, .chain⟩ (by simp) rfl
    have h8 : e 8 = false := hcl.not (i := 6) (j := 8) rfl hei (by kernel_rfl)
    have v6 : Eng.upd e 6 6 = true := upd_eq
    have v1 : Eng.upd e 6 1 = true := upd_mono h1
    have v5 : Eng.upd e 6 5 = true := upd_mono h5
    have v4 : Eng.upd e 6 4 = true := upd_mono h4
    have v8 : Eng.upd e 6 8 = false := h8
    simp only [hei, h1, h5, h4, h8, cond_true, cond_false]
    apply OL.append
    rfl
    rfl
    rfl
    rfl
    exact Hole.au
    (repeat (first | exact List.Mem.head _ | apply List.Mem.tail))
    (repeat (first | apply Take.zero | apply Take.succ))
    rfl
    rfl
    exact ⟨s0, .head _, Nat.le_refl _⟩
    omega
    intro O1 g1 cap1
    apply OL.nil
    exact At.beside { x with g1 := g1, c1 := cap1, O1 := O1 } (by repeat (first | exact Sub.nil | apply Sub.cons rfl | refine Sub.cons_eq rfl (by simp only [v6, v1, v5, v4, v8, cond_true, cond_false]) ?_)) (fun w' hw' => by first | exact hw' | (simp only [v6, v1, v5, v4, v8, cond_true, cond_false]; exact hw'))
   ·cases ho
    have v7 : Eng.upd e 7 7 = true := upd_eq
    simp only [hei, cond_true, cond_false]
    apply ofa; rfl; rfl; rfl
    apply OL.nil
    exact At.beside x (by repeat (first | exact Sub.nil | apply Sub.cons rfl | refine Sub.cons_eq rfl (by simp only [v7, cond_true, cond_false]) ?_)) (fun w' hw' => by first | exact hw' | (simp only [v7, cond_true, cond_false]; exact hw'))
   ·cases ho
    have h6 : e 6 = true := hd ⟨6, .data⟩ (by simp) rfl
    have h7 : e 7 = true := hd ⟨7, .data⟩ (by simp) rfl
    have v8 : Eng.upd e 8 8 = true := upd_eq
    have v6 : Eng.upd e 8 6 = true := upd_mono h6
    have v7 : Eng.upd e 8 7 = true := upd_mono h7
    simp only [hei, h6, h7, cond_true, cond_false]
    apply OL.storeB; rfl; rfl; exact CellsL.one rfl; rfl; rfl; rfl; exact Swap.au; exact Put.au
    apply OL.nil
    exact At.beside x (by repeat (first | exact Sub.nil | apply Sub.cons rfl | refine Sub.cons_eq rfl (by simp only [v8, v6, v7, cond_true, cond_false]) ?_)) (fun w' hw' => by first | exact hw' | (simp only [v8, v6, v7, cond_true, cond_false]; exact hw'))
  ·intro x e hall
   have hx1 := x.hb1
   have hst := x.hst
   have hxl : x.st.l.length = st1.l.length + tsz kids[j] := by
    have := congrArg List.length hst
    rw [List.length_map, List.length_append, List.length_map, lay_len] at this
    exact this
   simp only [hall 0 (by decide), hall 1 (by decide), hall 2 (by decide), hall 3 (by decide), hall 4 (by decide), hall 5 (by decide), hall 6 (by decide), hall 7 (by decide), hall 8 (by decide), cond_true, cond_false]
   have hsn : ints (roots (kids.take j) m0) ++ [.int .i64 ((x.st.l.length : Int) - 1)] = ints (roots (kids.take (j + 1)) m0) := by
    rw [roots_take hki, ints_append, hxl, hl1]
    rfl
   rw [hsn]
   with_reducible apply At.in_normal
   with_reducible apply At.next
   apply W.reg
   apply obn; rfl; rfl; rfl; apply Bin.add_in; omega
   apply omv; rfl; rfl
   apply OL.nil
   refine At.again (j + 1, x.st, ⟨x.O1, some ⟨x.g1, 0, none⟩, x.c1⟩) ⟨by simp only; omega, ?_⟩ (by simp only; omega) (by exact Sub.au) (fun w' hw' => (hw'.mv (A := [_, _, _, _, _]) (I := [_])).thin (.blk hx1 Thin.same))
   simp only
   rw [lays_take hki, ← List.append_assoc, ← hst1, hst, hl1]
 ·obtain rfl : j = kids.length := by omega
  rw [List.take_length] at hst1 hl1 ⊢
  refine W.xt ?_
  with_reducible apply At.next
  apply W.seq
  refine W.regany (X := XI (s0 :: S) st1 leaf) (fun x e => [(38, true, bif e 7 then .pointer (some ⟨bo, 0, none⟩) else x.old 38), (37, true, bif e 6 then .slice (some ⟨x.g1, 0, none⟩) (st1.l.length + 1) x.c1 else x.old 37), (36, true, bif e 5 then .slice (some ⟨x.b1, 0, none⟩) 1 1 else x.old 36), (35, true, bif e 4 then .agg [.int .i64 op, .int .i64 n, .slice y.b.1 binds.length y.b.2, .slice qk kids.length ck, .slice y.a.1 alts.length y.a.2].toArray else x.old 35), (34, true, bif e 3 then .slice st1.q st1.l.length st1.c else x.old 34), (33, true, bif e 2 then .pointer (some ⟨bo, 0, none⟩) else x.old 33), (32, true, bif e 1 then .pointer (some ⟨bo, 0, none⟩) else x.old 32), (31, true, bif e 0 then .pointer (some ⟨bo, 0, none⟩) else x.old 31), (1, true, .pointer (some ⟨bo, 0, none⟩)), (5, true, .pointer (some ⟨bx, 0, none⟩))])
   (fun x e => (row s0.heap.size Ok qk kids.length ck 3 1 (ints (roots kids m0))) :: (blk bx 43 [.int .i64 op, .int .i64 n, .slice y.b.1 binds.length y.b.2, .slice qk kids.length ck, .slice y.a.1 alts.length y.a.2]) :: (blk bo 22 [bif e 8 then .slice (some ⟨x.g1, 0, none⟩) (st1.l.length + 1) x.c1 else .slice st1.q st1.l.length st1.c]) :: (bif e 6 then row s0.heap.size x.O1 (some ⟨x.g1, 0, none⟩) (st1.l.length + 1) x.c1 43 5 (cat (exS s0).c st1.l ++ [.int .i64 op, .int .i64 n, .slice y.b.1 binds.length y.b.2, .slice qk kids.length ck, .slice y.a.1 alts.length y.a.2]) else row s0.heap.size st1.O st1.q st1.l.length st1.c 43 5 (cat (exS s0).c st1.l)) :: (pool (exS s0) s0.heap.size st1.O2 st1.l) :: (bif e 5 then blk x.b1 43 [.int .i64 op, .int .i64 n, .slice y.b.1 binds.length y.b.2, .slice qk kids.length ck, .slice y.a.1 alts.length y.a.2] else nothing) :: H)
   (fun old => ⟨st1.dummy (lay leaf st1.l.length), ST.dummy_map _ _, w.heap.size, AllLe.mk hc, 0, 0, fun _ => False, old⟩) (by kernel_rfl) (by kernel_rfl) (fun w hw => hw.drew) (fun old => by repeat (first | exact SubO.nil | apply SubO.cons rfl | refine SubO.old rfl ?_)) (fun old w' hw' => (hw'.nothing_cons).mv (A := [_]) (I := [_, _, _, _, _])) ?_ ?_
  ·intro x e i o ho hei hd hcl
   have hi : i < 9 := (List.getElem?_eq_some_iff.1 ho).1
   obtain rfl | rfl | rfl | rfl | rfl | rfl | rfl | rfl | rfl : i = 0 ∨ i = 1 ∨ i = 2 ∨ i = 3 ∨ i = 4 ∨ i = 5 ∨ i = 6 ∨ i = 7 ∨ i = 8 := by omega
   ·cases ho
    have v0 : Eng.upd e 0 0 = true := upd_eq
    simp only [hei, cond_true, cond_false]
    apply omv; rfl; rfl
    apply OL.nil
    exact At.beside x (by repeat (first | exact Sub.nil | apply Sub.cons rfl | refine Sub.cons_eq rfl (by simp only [v0, cond_true, cond_false]) ?_)) (fun w' hw' => by first | exact hw' | (simp only [v0, cond_true, cond_false]; exact hw'))
   ·cases ho
    have v1 : Eng.upd e 1 1 = true := upd_eq
    simp only [hei, cond_true, cond_false]
    apply omv; rfl; rfl
    apply OL.nil
    exact At.beside x (by repeat (first | exact Sub.nil | apply Sub.cons rfl | refine Sub.cons_eq rfl (by simp only [v1, cond_true, cond_false]) ?_)) (fun w' hw' => by first | exact hw' | (simp only [v1, cond_true, cond_false]; exact hw'))
   ·cases ho
    have h1 : e 1 = true := hd ⟨1, .data⟩ (by simp) rfl
    have v2 : Eng.upd e 2 2 = true := upd_eq
    have v1 : Eng.upd e 2 1 = true := upd_mono h1
    simp only [hei, h1, cond_true, cond_false]
    apply oop; rfl; apply Pev.nil_ptr; rfl; exact yes
    apply OL.nil
    exact At.beside x (by repeat (first | exact Sub.nil | apply Sub.cons rfl | refine Sub.cons_eq rfl (by simp only [v2, v1, cond_true, cond_false]) ?_)) (fun w' hw' => by first | exact hw' | (simp only [v2, v1, cond_true, cond_false]; exact hw'))
   ·cases ho
    have h2 : e 2 = true := hd ⟨2, .data⟩ (by simp) rfl
    have h8 : e 8 = false := hcl.not (i := 3) (j := 8) rfl hei (by kernel_rfl)
    have v3 : Eng.upd e 3 3 = true := upd_eq
    have v2 : Eng.upd e 3 2 = true := upd_mono h2
    have v8 : Eng.upd e 3 8 = false := h8
    simp only [hei, h2, h8, cond_true, cond_false]
    apply old; rfl; rfl; exact .tail _ (.tail _ (.head _)); rfl; rfl
    apply OL.nil
    exact At.beside x (by repeat (first | exact Sub.nil | apply Sub.cons rfl | refine Sub.cons_eq rfl (by simp only [v3, v2, v8, cond_true, cond_false]) ?_)) (fun w' hw' => by first | exact hw' | (simp only [v3, v2, v8, cond_true, cond_false]; exact hw'))
   ·cases ho
    have v4 : Eng.upd e 4 4 = true := upd_eq
    simp only [hei, cond_true, cond_false]
    apply oop; rfl; apply Pev.load_blkA; rfl; exact yes; exact .tail _ (.head _); rfl; exact Take.au
    apply OL.nil
    exact At.beside x (by repeat (first | exact Sub.nil | apply Sub.cons rfl | refine Sub.cons_eq rfl (by simp only [v4, cond_true, cond_false]) ?_)) (fun w' hw' => by first | exact hw' | (simp only [v4, cond_true, cond_false]; exact hw'))
   ·cases ho
    have h4 : e 4 = true := hd ⟨4, .data⟩ (by simp) rfl
    have v5 : Eng.upd e 5 5 = true := upd_eq
    have v4 : Eng.upd e 5 4 = true := upd_mono h4
    simp only [hei, h4, cond_true, cond_false]
    apply OL.buildSlice; rfl; rfl; rfl; exact Elems.au; rfl; rfl; (intro bk hbk; simp only [AllLe, and_true] at hbk)
    apply OL.nil
    exact At.beside { x with b1 := bk, hb1 := hbk } (by repeat (first | exact Sub.nil | apply Sub.cons rfl | refine Sub.cons_eq rfl (by simp only [v5, v4, cond_true, cond_false]) ?_)) (fun w' hw' => by simp only [v5, v4, cond_true, cond_false]; exact Cls.fill (p := 5) (H := _ :: _ :: _ :: _ :: _ :: _ :: H) (.s (.s (.s (.s (.s .z))))) hw')
   ·cases ho
    have h3 : e 3 = true := hd ⟨3, .data⟩ (by simp) rfl
    have h5 : e 5 = true := hd ⟨5, .data⟩ (by simp) rfl
    have h8 : e 8 = false := hcl.not (i := 6) (j := 8) rfl hei (by kernel_rfl)
    have v6 : Eng.upd e 6 6 = true := upd_eq
    have v3 : Eng.upd e 6 3 = true := upd_mono h3
    have v5 : Eng.upd e 6 5 = true := upd_mono h5
    have v8 : Eng.upd e 6 8 = false := h8
    simp only [hei, h3, h5, h8, cond_true, cond_false]
    apply OL.append
    rfl
    rfl
    rfl
    rfl
    exact Hole.au
    (repeat (first | exact List.Mem.head _ | apply List.Mem.tail))
    (repeat (first | apply Take.zero | apply Take.succ))
    rfl
    rfl
    exact ⟨s0, .head _, Nat.le_refl _⟩
    omega
    intro O1 g1 cap1
    apply OL.nil
    exact At.beside { x with g1 := g1, c1 := cap1, O1 := O1 } (by repeat (first | exact Sub.nil | apply Sub.cons rfl | refine Sub.cons_eq rfl (by simp only [v6, v3, v5, v8, cond_true, cond_false]) ?_)) (fun w' hw' => by first | exact hw' | (simp only [v6, v3, v5, v8, cond_true, cond_false]; exact hw'))
   ·cases ho
    have h0 : e 0 = true := hd ⟨0, .data⟩ (by simp) rfl
    have v7 : Eng.upd e 7 7 = true := upd_eq
    have v0 : Eng.upd e 7 0 = true := upd_mono h0
    simp only [hei, h0, cond_true, cond_false]
    apply oop; rfl; apply Pev.nil_ptr; rfl; exact yes
    apply OL.nil
    exact At.beside x (by repeat (first | exact Sub.nil | apply Sub.cons rfl | refine Sub.cons_eq rfl (by simp only [v7, v0, cond_true, cond_false]) ?_)) (fun w' hw' => by first | exact hw' | (simp only [v7, v0, cond_true, cond_false]; exact hw'))
   ·cases ho
    have h6 : e 6 = true := hd ⟨6, .data⟩ (by simp) rfl
    have h7 : e 7 = true := hd ⟨7, .data⟩ (by simp) rfl
    have v8 : Eng.upd e 8 8 = true := upd_eq
    have v6 : Eng.upd e 8 6 = true := upd_mono h6
    have v7 : Eng.upd e 8 7 = true := upd_mono h7
    simp only [hei, h6, h7, cond_true, cond_false]
    apply OL.storeB; rfl; rfl; exact CellsL.one rfl; rfl; rfl; rfl; exact Swap.au; exact Put.au
    apply OL.nil
    exact At.beside x (by repeat (first | exact Sub.nil | apply Sub.cons rfl | refine Sub.cons_eq rfl (by simp only [v8, v6, v7, cond_true, cond_false]) ?_)) (fun w' hw' => by first | exact hw' | (simp only [v8, v6, v7, cond_true, cond_false]; exact hw'))
  ·intro x e hall
   have hx1 := x.hb1
   simp only [hall 0 (by decide), hall 1 (by decide), hall 2 (by decide), hall 3 (by decide), hall 4 (by decide), hall 5 (by decide), hall 6 (by decide), hall 7 (by decide), hall 8 (by decide), cond_true, cond_false]
   with_reducible apply At.next
   apply W.sr
   apply omv; rfl; rfl
   apply oop; rfl; apply Pev.nil_ptr; rfl; exact yes
   apply old; rfl; rfl; exact .tail _ (.tail _ (.head _)); rfl; rfl
   apply oop; rfl; apply Pev.len_slice; rfl; exact yes; rfl
   apply obn; rfl; rfl; rfl; apply Bin.sub_in; omega
   apply oas; rfl; rfl
   apply OL.nx
   apply W.ret
   ((with_reducible apply At.fin1); rfl; rfl; intro w' hw')
   have hrow := hw'.item (i := row s0.heap.size Ok qk kids.length ck 3 1 (ints (roots kids m0))) (by exact mau)
   have hcap := row_cap hrow
   have h1 := (hw'.thin (.keep (.blk hbx (.keep (.keep (.keep (.blk hx1 Thin.same))))))).mv (A := [_, _, _]) (I := [_])
   have h2 := (h1.flip).pool_take (x := ⟨op, n, binds, roots kids m0, alts⟩) (y := ⟨y.b, (qk, ck), y.a⟩) (fun k hk => hk.1) ⟨by rw [roots_len]; exact ⟨hN.op, hN.n, hN.bl, hN.al, hN.kl, hN.bc, hN.ac, hN.b, hN.a⟩, by rw [roots_len]; exact hcap, fun hl => by
    obtain ⟨a, e1, e2, e3⟩ := row_at hrow (by rw [ints_length]; exact hl)
    exact ⟨a, e1, ⟨e2.1, .inr e2⟩, e3⟩⟩
   have h3 := h2.mv (A := [_]) (I := [_, _])
   refine ⟨⟨st1.l ++ [(⟨op, n, binds, roots kids m0, alts⟩, ⟨y.b, (qk, ck), y.a⟩)], x.O1, fun k => st1.O2 k ∨ (s0.heap.size ≤ k ∧ Ok k), some ⟨x.g1, 0, none⟩, x.c1⟩, ?_, ?_, ?_⟩
   ·simp only [List.length_append, List.length_singleton]
   ·rw [List.map_append, hst1, lay, List.append_assoc, ← hm0]
    rfl
   ·simp only [List.length_append, List.length_singleton]
    rw [show cat (exS s0).c (st1.l ++ [((⟨op, n, binds, roots kids m0, alts⟩ : Ex), (⟨y.b, (qk, ck), y.a⟩ : ExY))]) = cat (exS s0).c st1.l ++ [.int .i64 op, .int .i64 n, .slice y.b.1 binds.length y.b.2, .slice qk kids.length ck, .slice y.a.1 alts.length y.a.2] by rw [cat_append, cat_one]; simp only [exS, Rel.c, exC, roots_len]]
    exact h3
theorem List_calls (t : Tr) (b : Nat) (w : World) (ht : NodO w t b) (hlen : tsz t ≤ 100000) :
  Calls Tryd.prog 7 [.pointer (some ⟨b, 0, none⟩)].toArray w fun e w' => ∃ (q : Option Addr) (c : Nat) (l : List (Ex × ExY)), e = .returned (.slice q l.length c) ∧ Ext w w' ∧ l.map Prod.fst = lay t 0 ∧ l.length ≤ c ∧ Arr exR w' (low w') l q := by
 refine enter Tryd.func7 rfl Tryd.ntmps7 rfl (Cls.start w) ?_
 (simp only [argEnv, Nat.zero_add, Nat.reduceAdd])
 apply W.sr
 apply oas; rfl; rfl
 apply OL.nsr
 apply OL.alloc; rfl; rfl; exact CellsL.one rfl; (intro bk hbk; simp only [AllLe, and_true] at hbk)
 apply OL.nsr
 apply omv; rfl; rfl
 revert bk
 intro bo hbo
 have hbo0 : w.heap.size ≤ bo := hbo
 refine OL.callE (α := ST) (fun z => .int .i64 ((z.l.length : Int) - 1)) (fun z => z.l.map Prod.fst = lay t 0) (fun z => Cls (blk bo 22 [.slice z.q z.l.length z.c] :: row w.heap.size z.O z.q z.l.length z.c 43 5 (cat (exS w).c z.l) :: pool (exS w) w.heap.size z.O2 z.l :: []) [w]) rfl rfl (by exact Args.au) (fun w2 hw2 => ?_) ?_
 ·have h1 := (((hw2.row_nil w.heap.size 43 5).pool_nil (exS w) w.heap.size)).perm (List.reverse_perm _).symm
  refine (intoN_calls w bo hbo0 (tsz t) t b ⟨[], fun _ => False, fun _ => False, none, 0⟩ [] [] w2 (Nat.le_refl _) ht (by simpa using hlen) (fun k hk => NotOwned.nil) h1).mono fun e w3 ⟨z, h2, h3, h4⟩ => ⟨z, h2, by simpa using h3, h4⟩
 intro z hz
 apply OL.nsr
 apply old; rfl; rfl; exact .head _; rfl; rfl
 apply oas; rfl; rfl
 apply OL.nx
 apply W.ret
 ((with_reducible apply At.fin1); rfl; rfl; intro w' hw')
 have hsz := (hw'.kp w (.head _)).size
 have hk := hw'.same (.head _) (fun k hk => by exact NotOwned.au)
 have harr : Arr (exS w) w' (low w') z.l z.q := hw'.arr (B := w.heap.size) (O1 := z.O) (O2 := z.O2) (m := z.l.length) (cap := z.c) (e := 43) (by exact mau) (by exact mau)
 refine ⟨z.q, z.c, z.l, rfl, by (exact hw'.fr), hz, row_cap (hw'.item (i := row w.heap.size z.O z.q z.l.length z.c 43 5 (cat (exS w).c z.l)) (by exact mau)), harr.at_, fun p hp => (harr.el p hp).ok hsz hk⟩
end Go.Proofs.YtkpjndhgicbjjaaDoor.co

/- Plain: a check that finds a given expression valid by computing. No program in sight. No condition. -/
namespace Go.Co
def growF (e : List Ex) : Nat → Nat → Tr
 | 0, _ => leaf
 | f + 1, i => match e[i]? with
  | none => leaf
  | some x => .mk x.op x.n x.binds (x.kids.map fun k => growF e f k.toNat) x.alts
theorem growF_eq {e : List Ex} (hd : Down e) : ∀ {f i : Nat}, i < f → i < e.length → growF e f i = grow e i := by
 intro f
 induction f with
 | zero => intro i h; omega
 | succ f ih =>
  intro i h hi
  have hx : e[i]? = some e[i] := List.getElem?_eq_getElem hi
  rw [growF, hx, grow_eq hd hx]
  simp only [Tr.mk.injEq, true_and, and_true]
  refine List.map_congr_left fun k hk => ?_
  have := hd i _ hx k hk
  exact ih (by omega) (by omega)
def downB (e : List Ex) : Bool := (List.range e.length).all fun i => match e[i]? with
 | none => true
 | some x => x.kids.all fun k => decide (0 ≤ k) && decide (k < (i : Int))
theorem downB_down {e : List Ex} (h : downB e = true) : Down e := fun i x hx k hk => by
 unfold downB at h
 rw [List.all_eq_true] at h
 have h1 := h i (List.mem_range.2 (List.getElem?_eq_some_iff.1 hx).1)
 rw [hx] at h1
 simp only [List.all_eq_true, Bool.and_eq_true, decide_eq_true_eq] at h1
 exact h1 k hk
def treeB (e : List Ex) : Bool := decide (0 < e.length) && decide (e.length ≤ 4096) && downB e && ((List.range (e.length - 1)).all fun i => decide ((kidsAll e).count (i : Int) = 1)) && decide (high (growF e e.length (e.length - 1)) ≤ 400)
theorem treeB_tree {e : List Ex} (h : treeB e = true) : TreeP e ∧ treeE e = 0 := by
 unfold treeB at h
 simp only [Bool.and_eq_true, decide_eq_true_eq, List.all_eq_true, List.mem_range] at h
 obtain ⟨⟨⟨⟨h1, h2⟩, h3⟩, h4⟩, h5⟩ := h
 have hd := downB_down h3
 have ht : TreeP e := ⟨h1, hd, fun i hi => h4 i (by omega)⟩
 refine ⟨ht, ?_⟩
 rw [treeE_tree (by omega) ht]
 rw [growF_eq hd (by omega) (by omega)] at h5
 exact if_neg (by omega)
def okB (e : List Ex) (ps : List Int) (flat : Bool) : Bool := treeB e && (e.all fun x => !flatBad flat x.op && decide (nodeE e x = 0)) && decide (ps ++ e.flatMap bindersX).Nodup && ((fv (growF e e.length (e.length - 1)) []).all fun n => decide (n ∈ ps))
theorem okB_ok {e : List Ex} {ps : List Int} {flat : Bool} (h : okB e ps flat = true) : bodyE e ps flat = 0 := by
 unfold okB at h
 simp only [Bool.and_eq_true, decide_eq_true_eq, List.all_eq_true, Bool.not_eq_true'] at h
 obtain ⟨⟨⟨h1, h2⟩, h3⟩, h4⟩ := h
 obtain ⟨h5, h6⟩ := treeB_tree h1
 have hp : 0 < e.length := h5.1
 rw [growF_eq h5.2.1 (by omega) (by omega)] at h4
 refine BodyOk.mk2 h6 (fun x hx => ?_) h3 h4
 obtain ⟨h7, h8⟩ := h2 x hx
 unfold oneE
 rw [if_neg (by rw [h7]; simp), h8]
end Go.Co

/- The walks of the reference's builders of nodes: N, B, W, V, Print. Conditions: none. -/
namespace Go.Proofs.YtkpjndhgicbjjaaDoor.co
open Go.RowKit Go.Eng Go.Co
set_option maxRecDepth 100000
theorem N_calls (op n : Int) (ts : List Tr) (q : Option Addr) (c : Nat) (w : World) (ho : I64 op) (hn : I64 n) (hl : ts.length ≤ 4096) (hk : 0 < ts.length → ∃ a, q = some a ∧ a.block < w.heap.size ∧ NodsO w ts a) :
  Calls Tryd.prog 4 [.int .i64 op, .int .i64 n, .slice q ts.length c].toArray w fun e w' => ∃ b, e = .returned (.pointer (some ⟨b, 0, none⟩)) ∧ Ext w w' ∧ NodO w' (.mk op n [] ts []) b := by
 refine enter Tryd.func4 rfl Tryd.ntmps4 rfl (Cls.start w) ?_
 (simp only [argEnv, Nat.zero_add, Nat.reduceAdd])
 apply W.sr
 apply oas; rfl; rfl
 apply OL.nsr
 apply omv; rfl; rfl
 apply omv; rfl; rfl
 apply oop; rfl; apply Pev.build; rfl; exact CellsL.agg; rfl; exact Fill.au; rfl
 apply omv; rfl; rfl
 apply oop; rfl; apply Pev.build; rfl; exact CellsL.agg; rfl; exact Fill.au; rfl
 apply OL.box; rfl; rfl; exact CellsL.agg; (intro bk hbk; simp only [AllLe, and_true] at hbk)
 apply oas; rfl; rfl
 apply OL.nx
 apply W.ret
 ((with_reducible apply At.fin1); rfl; rfl; intro w' hw')
 have hb := hw'.item (.head _)
 refine ⟨bk, rfl, by (exact hw'.fr), ?_⟩
 simp only [NodO]
 refine ⟨⟨(none, 0), (q, c), (none, 0)⟩, blk_lt hb, fun j v hj => by rw [add_mid, blk_cell hb, Nat.zero_add]; exact hj, ⟨ho, hn, by simp, by simp, hl, by simp, by simp, IntsO.nil, ArrP.nil⟩, fun h => ?_⟩
 obtain ⟨a, h1, h2, h3⟩ := hk h
 have hsz := (hw'.kp w (by exact mau)).size
 exact ⟨a, h1, by omega, NodsO.ext hsz (hw'.same (by exact mau) (fun k hk => by exact NotOwned.au)) h2 h3⟩
theorem B_calls (op : Int) (l : List Int) (qb : Option Addr) (cb : Nat) (ts : List Tr) (q : Option Addr) (c : Nat) (w : World) (ho : I64 op) (hbl : l.length ≤ 16) (hbc : l.length ≤ cb) (hb : IntsO w (low w) l qb) (hl : ts.length ≤ 4096) (hk : 0 < ts.length → ∃ a, q = some a ∧ a.block < w.heap.size ∧ NodsO w ts a) :
  Calls Tryd.prog 5 [.int .i64 op, .slice qb l.length cb, .slice q ts.length c].toArray w fun e w' => ∃ b, e = .returned (.pointer (some ⟨b, 0, none⟩)) ∧ Ext w w' ∧ NodO w' (.mk op 0 l ts []) b := by
 refine enter Tryd.func5 rfl Tryd.ntmps5 rfl (Cls.start w) ?_
 (simp only [argEnv, Nat.zero_add, Nat.reduceAdd])
 apply W.sr
 apply oas; rfl; rfl
 apply OL.nsr
 apply omv; rfl; rfl
 apply omv; rfl; rfl
 apply oop; rfl; apply Pev.build; rfl; exact CellsL.agg; rfl; exact Fill.au; rfl
 apply omv; rfl; rfl
 apply oop; rfl; apply Pev.build; rfl; exact CellsL.agg; rfl; exact Fill.au; rfl
 apply OL.box; rfl; rfl; exact CellsL.agg; (intro bk hbk; simp only [AllLe, and_true] at hbk)
 apply oas; rfl; rfl
 apply OL.nx
 apply W.ret
 ((with_reducible apply At.fin1); rfl; rfl; intro w' hw')
 have hb2 := hw'.item (.head _)
 refine ⟨bk, rfl, by (exact hw'.fr), ?_⟩
 simp only [NodO]
 have hsz := (hw'.kp w (by exact mau)).size
 have hsm := hw'.same (List.Mem.head _) (fun k hk => by exact NotOwned.au)
 refine ⟨⟨(qb, cb), (q, c), (none, 0)⟩, blk_lt hb2, fun j v hj => by rw [add_mid, blk_cell hb2, Nat.zero_add]; exact hj, ⟨ho, by simp [I64], hbl, by simp, hl, hbc, by simp, (hb.stab hsm).mono fun k hk => Nat.lt_of_lt_of_le hk hsz, ArrP.nil⟩, fun h => ?_⟩
 obtain ⟨a, h1, h2, h3⟩ := hk h
 exact ⟨a, h1, by omega, NodsO.ext hsz hsm h2 h3⟩
theorem W_calls (n : Int) (w : World) (hn : I64 n) :
  Calls Tryd.prog 6 [.int .i64 n].toArray w fun e w' => ∃ b, e = .returned (.pointer (some ⟨b, 0, none⟩)) ∧ Ext w w' ∧ NodO w' (.mk 1 n [] [] []) b := by
 refine enter Tryd.func6 rfl Tryd.ntmps6 rfl (Cls.start w) ?_
 (simp only [argEnv, Nat.zero_add, Nat.reduceAdd])
 apply W.sr
 apply oas; rfl; rfl
 apply OL.nsr
 apply omv; rfl; rfl
 refine OL.callE (α := Nat × World) (fun z => .pointer (some ⟨z.1, 0, none⟩)) (fun z => NodO z.2 (.mk 1 n [] [] []) z.1) (fun z => Cls [] [z.2, w]) rfl rfl (by exact Args.au) (fun w2 hw2 => (N_calls 1 n [] none 0 w2 (by simp [I64]) hn (by simp) (fun h => by simp at h)).mono (fun e1 w3 ⟨b, h1, h2, h3⟩ => ⟨(b, w3), h1, h3, (hw2.ext h2).note⟩)) ?_
 rintro ⟨b, w3⟩ hN
 simp only at hN ⊢
 apply oas; rfl; rfl
 apply OL.nx
 apply W.ret
 ((with_reducible apply At.fin1); rfl; rfl; intro w' hw')
 exact ⟨b, rfl, hw'.fr (by exact mau), hN.at hw' (by exact mau) (fun k hk => NotOwned.nil)⟩
theorem kid1 {w : World} {H : List Eng.Item} {S : List World} {t : Tr} {b bk : Nat} {T : TypeId} (hw : Cls (blk bk T [.pointer (some ⟨b, 0, none⟩)] :: H) S w) (hN : NodO w t b) : 0 < [t].length → ∃ a, some (⟨bk, 0, none⟩ : Addr) = some a ∧ a.block < w.heap.size ∧ NodsO w [t] a := fun _ => by
 have hb := hw.item (.head _)
 refine ⟨_, rfl, blk_lt hb, ?_⟩
 simp only [NodsO]
 refine ⟨⟨b, ?_, hN⟩, trivial⟩
 rw [blk_cell hb]
 rfl
end Go.Proofs.YtkpjndhgicbjjaaDoor.co

/- The law FlowSays: what the fixed program's flow is; the walk of the law. Conditions: none. -/
namespace Go.Co
open Go.Eng Go.RowKit
def app3 : Tr := .mk 3 0 [] [.mk 2 0 [] [.mk 1 1 [] [] []] []] []
theorem app3_ok : okB (lay app3 0) [] false = true := by decide +kernel
def appE : List Ex := lay app3 0
theorem one_len : appE.length = 3 := by decide +kernel
def appC : FR := [[false, false, false, false], [false, true, false, false], [false, false, false, false], [false, false, false, false], [false, false, false, true]]
def closedB (n m : Nat) (ix : Int → Nat) (e : List Ex) (C : FR) : Bool :=
 decide (C.length = m) && C.all (fun r => decide (r.length = n + 1)) &&
  (List.range e.length).all fun i => match e[i]? with
   | none => true
   | some x => if x.op = 2 then hB C i i else (edges n ix e C i x).all fun p => (List.range (n + 1)).all fun f => !hB C p.2 f || hB C p.1 f
theorem closedB_ok {n m : Nat} {ix : Int → Nat} {e : List Ex} {C : FR} (h : closedB n m ix e C = true) : FClosed n m ix e C := by
 unfold closedB at h
 rw [Bool.and_eq_true, Bool.and_eq_true, decide_eq_true_eq, List.all_eq_true, List.all_eq_true] at h
 obtain ⟨⟨h1, h2⟩, h3⟩ := h
 have hrow : ∀ r ∈ C, r.length = n + 1 := fun r hr => by simpa using h2 r hr
 have h4 : ∀ i x, e[i]? = some x → (if x.op = 2 then hB C i i else (edges n ix e C i x).all fun p => (List.range (n + 1)).all fun f => !hB C p.2 f || hB C p.1 f) = true := fun i x hx => by
  have := h3 i (List.mem_range.2 (List.getElem?_eq_some_iff.1 hx).1)
  rw [hx] at this
  exact this
 refine ⟨⟨h1, hrow⟩, fun i x hx ho p hp f hf => ?_, fun i x hx ho => ?_⟩
 ·have h5 := h4 i x hx
  rw [if_neg ho, List.all_eq_true] at h5
  have h6 := h5 p hp
  rw [List.all_eq_true] at h6
  have hfl : f < n + 1 := by
   refine Nat.lt_of_not_le fun hle => ?_
   unfold hB at hf
   by_cases hpl : p.2 < C.length
   ·have h7 : (C.getD p.2 []).length = n + 1 := FDim.at ⟨h1, hrow⟩ (by omega)
    rw [List.getD_eq_getElem?_getD (l := C.getD p.2 []), List.getElem?_eq_none (by omega)] at hf
    cases hf
   ·rw [List.getD_eq_getElem?_getD (l := C), List.getElem?_eq_none (by omega)] at hf
    cases hf
  have h7 := h6 f (List.mem_range.2 hfl)
  rw [hf] at h7
  simpa using h7
 ·have h5 := h4 i x hx
  rwa [if_pos ho] at h5
theorem appC_closed : FClosed appE.length (rowsN appE) (ixF appE) appE appC := closedB_ok (by decide +kernel)
end Go.Co
namespace Go.Proofs.YtkpjndhgicbjjaaDoor.co
open Go.RowKit Go.Eng Go.Co
set_option maxRecDepth 100000
theorem one_out {R : FR} (h : Least appE R) : outF appE R appE.length = [⟨2, [1], false⟩] := by
 have hle := h.least appC appC_closed (by decide +kernel)
 have h0 : hB R 1 0 = false := by
  have := hle 1 0
  cases hx : hB R 1 0
  ·rfl
  ·exact absurd (this hx) (by decide +kernel)
 have h2 : hB R 1 2 = false := by
  have := hle 1 2
  cases hx : hB R 1 2
  ·rfl
  ·exact absurd (this hx) (by decide +kernel)
 have h3 : hB R 1 3 = false := by
  have := hle 1 3
  cases hx : hB R 1 3
  ·rfl
  ·exact absurd (this hx) (by decide +kernel)
 have he : appE = [⟨1, 1, [], [], []⟩, ⟨2, 0, [], [0], []⟩, ⟨3, 0, [], [1], []⟩] := rfl
 have h1 : hB R 1 1 = true := h.closed.lam 1 ⟨2, 0, [], [0], []⟩ (by rw [he]; rfl) rfl
 rw [one_len, he]
 simp only [outF, callF, kidN, fnsF]
 simp [h0, h1, h2, h3, List.range_succ]
theorem least_one {e : List Ex} {A B : FR} (hA : Least e A) (hB' : Least e B) : A = B := flow_one hA.closed hB'.closed hA.least hB'.least hA.on hB'.on
theorem fresh_low {w w' : World} : ∀ k, fresh w w' k → low w' k := fun k hk => hk.2
theorem one_arr {b6 b7 : Nat} {H : List Eng.Item} {S : List World} {w : World} {t6 t7 : TypeId} (hw : Cls H S w) (h6 : blk b6 t6 [.int .i64 1] ∈ H) (h7 : blk b7 t7 [.int .i64 2, .slice (some ⟨b6, 0, none⟩) 1 1, .bool false] ∈ H) :
  Arr flR w (low w) [(⟨2, [1], false⟩, (some ⟨b6, 0, none⟩, 1))] (some ⟨b7, 0, none⟩) := by
 refine ⟨fun _ => ⟨_, rfl, blk_lt (hw.item h7), fun j v hj => ?_⟩, fun p hp => ?_⟩
 ·rw [add_mid, blk_cell (hw.item h7), Nat.zero_add]
  exact hj
 ·obtain rfl := List.mem_singleton.1 hp
  exact ⟨by simp [I64], fun i hi => by rw [List.mem_singleton.1 hi]; simp [I64], by simp, fun _ => ⟨_, rfl, blk_lt (hw.item h6), fun j v hj => by rw [add_mid, blk_cell (hw.item h6), Nat.zero_add]; exact hj⟩⟩
theorem flow_law (q : Option Addr) (cap : Nat) (es : List (Ex × ExY)) (w : World) (he : Arr exR w (low w) es q) (hlen : es.length ≤ 9223372036854775807) (hcap : es.length ≤ cap) (hg : 1 < w.heap.size) (hs : arityAt w) (hTg : 0 < w.heap.size) (hT : tzAt w) :
  Calls Tryd.prog 3 #[.slice q es.length cap] w fun e w' => e = .returned (.bool true) ∧ Ext w w' := by
 refine enter Tryd.func3 rfl Tryd.ntmps3 rfl (Cls.start w) ?_
 (simp only [argEnv, Nat.zero_add, Nat.reduceAdd])
 apply W.sr
 apply oas; rfl; rfl
 apply OL.nsr
 refine OL.callE (α := Nat × World) (fun z => .pointer (some ⟨z.1, 0, none⟩)) (fun z => NodO z.2 (.mk 1 1 [] [] []) z.1) (fun z => Cls [] [z.2, w]) rfl rfl (by exact Args.au) (fun w2 hw2 => (W_calls 1 w2 (by simp [I64])).mono (fun e1 w3 ⟨b, h1, h2, h3⟩ => ⟨(b, w3), h1, h3, (hw2.ext h2).note⟩)) ?_
 rintro ⟨b, w3⟩ hN
 simp only at hN ⊢
 apply OL.buildSlice; rfl; rfl; rfl; exact Elems.au; rfl; rfl; (intro bk hbk; simp only [AllLe, and_true] at hbk)
 revert bk
 intro b2 hb2
 refine OL.callE (α := Nat × World) (fun z => .pointer (some ⟨z.1, 0, none⟩)) (fun z => NodO z.2 (.mk 2 0 [] [.mk 1 1 [] [] []] []) z.1) (fun z => Cls [] [z.2, w]) rfl rfl (by exact Args.au) (fun w2 hw2 => (B_calls 2 [] none 0 [.mk 1 1 [] [] []] (some ⟨b2, 0, none⟩) 1 w2 (by simp [I64]) (by simp) (by simp) IntsO.nil (by simp) (kid1 hw2 (hN.at hw2 (by exact mau) (fun k hk => by exact NotOwned.au)))).mono (fun e1 w4 ⟨b, h1, h2, h3⟩ => ⟨(b, w4), h1, h3, (((hw2.thin (by exact Thin.au)).forget (by simp)).ext h2).note⟩)) ?_
 rintro ⟨b3, w4⟩ hN2
 simp only at hN2 ⊢
 apply OL.buildSlice; rfl; rfl; rfl; exact Elems.au; rfl; rfl; (intro bk hbk; simp only [AllLe, and_true] at hbk)
 revert bk
 intro b4 hb4
 refine OL.callE (α := Nat × World) (fun z => .pointer (some ⟨z.1, 0, none⟩)) (fun z => NodO z.2 app3 z.1) (fun z => Cls [] [z.2, w]) rfl rfl (by exact Args.au) (fun w2 hw2 => (N_calls 3 0 [.mk 2 0 [] [.mk 1 1 [] [] []] []] (some ⟨b4, 0, none⟩) 1 w2 (by simp [I64]) (by simp [I64]) (by simp) (kid1 hw2 (hN2.at hw2 (by exact mau) (fun k hk => by exact NotOwned.au)))).mono (fun e1 w5 ⟨b, h1, h2, h3⟩ => ⟨(b, w5), h1, h3, (((hw2.thin (by exact Thin.au)).forget (by simp)).ext h2).note⟩)) ?_
 rintro ⟨b5, w5⟩ hN3
 simp only at hN3 ⊢
 refine OL.callE (α := (Option Addr × Nat × List (Ex × ExY)) × World) (fun z => .slice z.1.1 z.1.2.2.length z.1.2.1) (fun z => z.1.2.2.map Prod.fst = appE ∧ z.1.2.2.length ≤ z.1.2.1 ∧ Arr exR z.2 (low z.2) z.1.2.2 z.1.1) (fun z => Cls [] [z.2, w]) rfl rfl (by exact Args.au) (fun w2 hw2 => (List_calls _ b5 w2 (hN3.at hw2 (by exact mau) (fun k hk => NotOwned.nil)) (by simp [app3, tsz, tszs])).mono (fun e1 w4 ⟨q1, c1, l1, h1, h2, h3, h4, h5⟩ => ⟨((q1, c1, l1), w4), h1, ⟨h3, h4, h5⟩, ((hw2.forget (by simp)).ext h2).note⟩)) ?_
 rintro ⟨⟨q1, c1, l1⟩, w6⟩ ⟨hl1, hc1, ha1⟩
 simp only at hl1 hc1 ha1 ⊢
 have hb1 : bodyE appE [] false = 0 := okB_ok app3_ok
 have hll : l1.length = 3 := by
  have := congrArg List.length hl1
  rw [List.length_map, one_len] at this
  exact this
 apply oas; rfl; rfl
 apply OL.nx
 apply W.seq
 apply W.sr
 apply omv; rfl; rfl
 refine OL.callE (α := (Option Addr × Nat × List (FCall × Sc)) × World) (fun z => .tuple #[.slice z.1.1 z.1.2.2.length z.1.2.1, .int .i64 0]) (fun z => Arr flR z.2 (low z.2) z.1.2.2 z.1.1 ∧ z.1.2.2.map Prod.fst = [⟨2, [1], false⟩]) (fun z => Cls [] [z.2, w]) rfl rfl (by exact Args.au) (fun w2 hw2 => ?_) ?_
 ·have hsz := (hw2.kp w (by exact mau)).size
  refine (Of_calls l1 appE hl1 q1 c1 w2 (ha1.at hw2 (by exact mau) (fun k hk => NotOwned.nil)) (by omega) (by omega) (hs.at hg hw2 (by exact mau) (fun k hk => by exact NotOwned.au)) (hT.at hTg hw2 (by exact mau) (fun k hk => by exact NotOwned.au)) (by omega)).mono ?_
  rintro e w7 ⟨ql, cl, L, h1, h2, h3, h4, h5⟩
  obtain ⟨R, hR, hLR⟩ := h5 hb1
  rw [one_out hR] at hLR
  exact ⟨((ql, cl, L), w7), by rw [h1, hb1], ⟨h3.mono fresh_low, hLR⟩, ((hw2.forget (by simp)).ext h2).note⟩
 rintro ⟨⟨ql, cl, L⟩, w7⟩ ⟨hA7, hL7⟩
 simp only at hA7 hL7 ⊢
 have hLl : L.length = 1 := by
  have := congrArg List.length hL7
  simpa using this
 apply omv; rfl; rfl
 apply oex; rfl; rfl; rfl
 apply oex; rfl; rfl; rfl
 apply oas; rfl; rfl
 apply oas; rfl; rfl
 apply OL.nsr
 apply omv; rfl; rfl
 apply obn; rfl; rfl; rfl; apply Bin.neq
 apply omv; rfl; rfl
 apply ono; rfl; rfl; rfl; apply Pev.move; rfl; exact yes
 ((apply OL.ungate); (exact Guard.au); (decide))
 apply OL.buildSlice; rfl; rfl; rfl; exact Elems.au; rfl; rfl; (intro bk hbk; simp only [AllLe, and_true] at hbk)
 apply ono; rfl; rfl; rfl; apply Pev.build; rfl; exact CellsL.agg; rfl; exact Fill.au; rfl
 revert bk
 intro b6 hb6
 ((apply OL.ungate); (exact Guard.au); (decide))
 apply OL.buildSlice; rfl; rfl; rfl; exact Elems.au; rfl; rfl; (intro bk hbk; simp only [AllLe, and_true] at hbk)
 revert bk
 intro b7 hb7
 (((first | (with_reducible apply OL.op) | (with_reducible apply QL.op)); (exact Guard.au); rfl; rfl); (exact Pev.call (v := .bool true) rfl (by exact Args.au) (fun _ w2 hw2 => (FEqual_calls ql (some ⟨b7, 0, none⟩) cl 1 L [(⟨2, [1], false⟩, (some ⟨b6, 0, none⟩, 1))] w2 (by rw [hL7]; rfl) (by omega) (hA7.at hw2 (by exact mau) (fun k hk => by exact NotOwned.au)) (one_arr hw2 (by exact mau) (by exact mau))).mono (fun e w3 h => ⟨by rw [h.1], hw2.ext h.2⟩))))
 apply ono; rfl; rfl; rfl; apply Pev.not; rfl; exact yes
 apply oop; rfl; apply Pev.pick_or; rfl; exact yes; rfl; exact yes
 apply OL.nx
 refine W.cond rfl (fun hb => by simp at hb) (fun _ => ?_)
 apply W.sk
 apply W.sr
 apply omv; rfl; rfl
 obtain ⟨e, hee⟩ : ∃ e, es.map Prod.fst = e := ⟨_, rfl⟩
 have hel : e.length = es.length := by rw [← hee, List.length_map]
 refine OL.callE (α := (Option Addr × Nat × List (FCall × Sc)) × World) (fun z => .tuple #[.slice z.1.1 z.1.2.2.length z.1.2.1, .int .i64 (bodyE e [] false)]) (fun z => Arr flR z.2 (low z.2) z.1.2.2 z.1.1 ∧ (bodyE e [] false ≠ 0 → z.1.2.2 = []) ∧ (bodyE e [] false = 0 → ∃ R, Least e R ∧ z.1.2.2.map Prod.fst = outF e R e.length)) (fun z => Cls [] [z.2, w]) rfl rfl (by exact Args.au) (fun w2 hw2 => ?_) ?_
 ·have hsz := (hw2.kp w (by exact mau)).size
  refine (Of_calls es e hee q cap w2 (he.at hw2 (by exact mau) (fun k hk => by exact NotOwned.au)) hlen (by omega) (hs.at hg hw2 (by exact mau) (fun k hk => by exact NotOwned.au)) (hT.at hTg hw2 (by exact mau) (fun k hk => by exact NotOwned.au)) (by omega)).mono ?_
  rintro e1 w8 ⟨ql, cl, L, h1, h2, h3, h4, h5⟩
  exact ⟨((ql, cl, L), w8), h1, ⟨h3.mono fresh_low, h4, h5⟩, (((hw2.thin (by exact Thin.au)).forget (by simp)).ext h2).note⟩
 rintro ⟨⟨ql2, cl2, L2⟩, w8⟩ ⟨hA8, hc0, hc1⟩
 simp only at hA8 hc0 hc1 ⊢
 apply omv; rfl; rfl
 apply oex; rfl; rfl; rfl
 apply oex; rfl; rfl; rfl
 apply oas; rfl; rfl
 apply oas; rfl; rfl
 apply OL.nx
 apply W.seq
 apply W.sr
 apply omv; rfl; rfl
 (((first | (with_reducible apply OL.op) | (with_reducible apply QL.op)); (exact Guard.au); rfl; rfl); (exact Pev.call (v := .int .i64 (bodyE e [] false)) rfl (by exact Args.au) (fun _ w2 hw2 => (Fault_calls es q cap w2 (he.at hw2 (by exact mau) (fun k hk => by exact NotOwned.au)) hlen).mono (fun e1 w5 h => ⟨by rw [h.1, hee], hw2.ext h.2⟩))))
 apply oas; rfl; rfl
 apply OL.nsr
 apply omv; rfl; rfl
 apply obn; rfl; rfl; rfl; apply Bin.neq
 apply OL.nx
 (refine W.cnd (fun hf => ?_) (fun hf => ?_)) <;> (try (exfalso; first | omega | exact hf trivial | contradiction))
 ·have h0 := hc0 (by simpa using hf)
  subst h0
  apply W.sr
  apply omv; rfl; rfl
  apply omv; rfl; rfl
  apply obn; rfl; rfl; rfl; apply Bin.eql
  apply omv; rfl; rfl
  apply oy; rfl; rfl; rfl; apply Pev.move; rfl; exact yes
  apply oy; rfl; rfl; rfl; apply Pev.len_slice; rfl; exact fun h => h; rfl
  apply oy; rfl; rfl; rfl; apply Pev.bin; rfl; exact fun h => h; rfl; exact yes; intro hcond; apply Bin.eql
  apply oop; rfl; apply Pev.pick_and; rfl; exact yes; rfl; exact fun h => h
  apply oas; rfl; rfl
  apply OL.nx
  refine W.rt ?_
  ((with_reducible apply At.fin1); rfl; rfl; intro w' hw')
  exact ⟨by simp, hw'.fr (by exact mau)⟩
 have hf0 : bodyE e [] false = 0 := by simpa using hf
 obtain ⟨R, hR, hLR⟩ := hc1 hf0
 have hL2 : L2.length ≤ e.length := by
  have h1 := outF_len e R e.length
  rw [← hLR, List.length_map] at h1
  exact h1
 have hF := FOk.of hf0
 have hl4 := hF.len
 rw [hf0]
 apply W.sk
 apply W.sr
 apply omv; rfl; rfl
 apply obn; rfl; rfl; rfl; apply Bin.eql
 apply omv; rfl; rfl
 apply oy; rfl; rfl; rfl; apply Pev.move; rfl; exact yes
 apply oy; rfl; rfl; rfl; apply Pev.move; rfl; exact yes
 ((apply OL.ungate); (exact Guard.au); (decide))
 refine OL.callE (α := (Option Addr × Nat × List (FCall × Sc)) × World) (fun z => .slice z.1.1 z.1.2.2.length z.1.2.1) (fun z => Arr flR z.2 (low z.2) z.1.2.2 z.1.1 ∧ z.1.2.2.map Prod.fst = outF e R e.length) (fun z => Cls [] [z.2, w8, w]) rfl rfl (by exact Args.au) (fun w2 hw2 => ?_) ?_
 ·refine (FlowsOf_calls es e hee hf0 q cap w2 (he.at hw2 (by exact mau) (fun k hk => by exact NotOwned.au))).mono ?_
  rintro e1 w9 ⟨ql, cl, L, R', h1, h2, h3, h4, h5⟩
  rw [least_one h4 hR] at h5
  exact ⟨((ql, cl, L), w9), h1, ⟨h3.mono fresh_low, h5⟩, (hw2.ext h2).note⟩
 rintro ⟨⟨ql3, cl3, L3⟩, w9⟩ ⟨hA9, hL9⟩
 simp only at hA9 hL9 ⊢
 (((first | (with_reducible apply OL.op) | (with_reducible apply QL.op)); (exact Guard.au); rfl; rfl); (exact Pev.call (v := .bool true) rfl (by exact Args.au) (fun _ w2 hw2 => (FEqual_calls ql2 ql3 cl2 cl3 L2 L3 w2 (by rw [hLR, hL9]) (by omega) (hA8.at hw2 (by exact mau) (fun k hk => by exact NotOwned.au)) (hA9.at hw2 (by exact mau) (fun k hk => by exact NotOwned.au))).mono (fun e w3 h => ⟨by rw [h.1], hw2.ext h.2⟩))))
 apply oop; rfl; apply Pev.pick_and; rfl; exact yes; rfl; exact yes
 apply oas; rfl; rfl
 apply OL.nx
 apply W.ret
 ((with_reducible apply At.fin1); rfl; rfl; intro w' hw')
 exact ⟨by simp, hw'.fr (by exact mau)⟩
end Go.Proofs.YtkpjndhgicbjjaaDoor.co

/- Readings with the reach: what a slice's and a struct's parts are, and how much they weigh at most. General. No condition. -/
namespace Go.Eng
open Go.RowKit Go.ChangeShapes Go.WideShapes Go.ChangeAt
section
variable {H : Type} {enc : TypeId × Value → H} {P : Program} {w : World} {spare : Nat → Bool} {held : Bool}
def Lt (P : Program) (t : TypeId) (d : DataW H) : Prop := ∀ n ∈ d.weights P t, n ≤ reachBytes
theorem weightsAll_mem {e : TypeId} : ∀ {ds : List (DataW H)} {d : DataW H}, d ∈ ds → ∀ n ∈ d.weights P e, n ∈ DataW.weightsAll P e ds
 | x :: ds, d, hd, n, hn => by
  simp only [DataW.weightsAll, List.mem_append]
  rcases List.mem_cons.1 hd with rfl | hd
  ·exact .inl hn
  ·exact .inr (weightsAll_mem hd n hn)
theorem Lt.arg {ts : List TypeId} {ds : List (DataW H)} (h : (DataW.weightsEach P ts ds).all (· ≤ reachBytes) = true) {j : Nat} {t : TypeId} {d : DataW H} (ht : ts[j]? = some t) (hd : ds[j]? = some d) : Lt P t d := fun n hn => by
 have := List.all_eq_true.1 h _ (DataW.weights_mem_each ht hd n hn)
 simpa using this
theorem rd_struct {t : TypeId} {fs : Array Field} {fuel : Nat} {cs : List Value} {x : DataW H × List MemPlace} (ht : P.underlying t = some (.struct fs)) (h : DataW.trod enc P w 0 spare held fuel t cs = some x) (hw : Lt P t x.1) :
  cs.length = P.cellsOf t ∧ ∃ n, n < fuel ∧ ∀ (i : Nat) (f : Field), fs[i]? = some f → ∃ y, DataW.trod enc P w 0 spare held n f.type ((cs.drop f.offset).take (P.cellsOf f.type)) = some y ∧ Lt P f.type y.1 := by
 obtain ⟨xs, n, hfu, rfl, hlen, hxl, hf⟩ := DataW.trod_struct ht h
 refine ⟨hlen, n, by omega, fun i f hi => ?_⟩
 have hlt : i < xs.length := by rw [hxl]; exact (Array.getElem?_eq_some_iff.1 hi).1
 refine ⟨xs[i], by rw [hf i f hi, List.getElem?_eq_getElem hlt], fun k hk => hw k ?_⟩
 simp only [DataW.weights, ht]
 exact DataW.weights_mem_each (j := i) (t := f.type) (d := xs[i].1) (by simpa using ⟨f, by simpa using hi, rfl⟩) (by simp [hlt]) k hk
theorem rd_slice0 {t e : TypeId} {sz fuel : Nat} {cs : List Value} {x : DataW H × List MemPlace} (ht : P.underlying t = some (.slice e)) (hs : P.cellsOf e = sz) (h : DataW.trod enc P w 0 spare held fuel t cs = some x) (hw : Lt P t x.1) :
  ∃ (q : Option Addr) (len cap : Nat), cs = [.slice q len cap] ∧ len ≤ cap ∧ cap ≤ maxLen ∧ len * P.bytesOf e ≤ reachBytes ∧ (q = none → len = 0) ∧
   ∃ n, n < fuel ∧ ∀ a, q = some a → ∀ i, i < len → ∃ cs' y, CellsAt w (a.add (i * sz)) cs' ∧ cs'.length = sz ∧ DataW.trod enc P w 0 spare held n e cs' = some y ∧ Lt P e y.1 := by
 rcases DataW.trod_slice ht h with ⟨rfl, _⟩ | ⟨a, len, cap, elems, rest, n, hf, rfl, rfl, _, hl, hm, hlen, hel, _, _⟩
 ·refine ⟨none, 0, 0, rfl, Nat.le_refl _, by simp [maxLen], by simp, fun _ => rfl, 0, ?_, fun a ha => by cases ha⟩
  cases fuel with
  | zero => simp [DataW.trod] at h
  | succ n => omega
 ·have hwt : len * P.bytesOf e ≤ reachBytes := by
   have h1 := hw ((elems.map (·.1)).length * P.bytesOf e + (rest.map (·.1)).length * P.bytesOf e) (by simp [DataW.weights, ht, Nat.add_mul])
   rw [List.length_map, hlen] at h1
   omega
  refine ⟨some a, len, cap, rfl, hl, hm, hwt, (fun hn => by cases hn), n, by omega, fun a' ha i hi => ?_⟩
  obtain rfl := Option.some.inj ha
  have h1 := hel i hi
  rw [List.getElem?_eq_getElem (by omega)] at h1
  rw [hs] at h1
  obtain ⟨cs', hc, ht'⟩ := Option.bind_eq_some_iff.1 h1
  obtain ⟨h2, h3⟩ := cellsAt_of hc
  refine ⟨cs', _, h2, h3, ht', fun k hk => hw k ?_⟩
  simp only [DataW.weights, ht]
  exact List.mem_cons_of_mem _ (List.mem_append_left _ (weightsAll_mem (d := elems[i].1) (List.mem_map.2 ⟨_, List.getElem_mem (by omega), rfl⟩) k hk))
variable {α : Type} {f : α → List Value} {sz : Nat} {R : α → Prop}
theorem rd_slice {t e : TypeId} {fuel : Nat} {cs : List Value} {x : DataW H × List MemPlace} (ht : P.underlying t = some (.slice e)) (hs : P.cellsOf e = sz) (hsz : 0 < sz) (hf : ∀ x, (f x).length = sz)
  (he : ∀ (n : Nat) (cs' : List Value) (y : DataW H × List MemPlace), n < fuel → DataW.trod enc P w 0 spare held n e cs' = some y → Lt P e y.1 → ∃ u : α, cs' = f u ∧ R u)
  (h : DataW.trod enc P w 0 spare held fuel t cs = some x) (hw : Lt P t x.1) :
  ∃ (q : Option Addr) (l : List α) (cap : Nat), cs = [.slice q l.length cap] ∧ l.length ≤ cap ∧ cap ≤ maxLen ∧ l.length * P.bytesOf e ≤ reachBytes ∧ SlAt w w.heap.size q (cat f l) ∧ ∀ u ∈ l, R u := by
 obtain ⟨q, len, cap, rfl, hle, hcap, hwt, hq0, m, hm, hel⟩ := rd_slice0 ht hs h hw
 cases q with
 | none =>
  obtain rfl := hq0 rfl
  exact ⟨none, [], cap, rfl, hle, hcap, by simp, SlAt.nil, fun u hu => by cases hu⟩
 | some a =>
  obtain ⟨l, hl, hr⟩ := list_of (fun i (u : α) => CellsAt w (a.add (i * sz)) (f u) ∧ R u) len (fun i hi => by
   obtain ⟨cs', y, hc, hl1, ht', hy⟩ := hel a rfl i hi
   obtain ⟨u, rfl, hR⟩ := he m cs' y hm ht' hy
   exact ⟨u, hc, hR⟩)
  subst hl
  refine ⟨some a, l, cap, rfl, hle, hcap, hwt, fun hv => ⟨a, rfl, ?_, fun j v hj => ?_⟩, fun u hu => ?_⟩
  ·rw [cat_length hf] at hv
   have hl0 : 0 < l.length := Nat.pos_of_mul_pos_right hv
   have h0 := (hr 0 _ (List.getElem?_eq_getElem hl0)).1
   rw [Nat.zero_mul, add_zero_] at h0
   have hz : 0 < (f l[0]).length := by rw [hf]; exact hsz
   have := h0 0 _ (List.getElem?_eq_getElem hz)
   rw [add_zero_] at this
   exact cell_lt this
  ·have hjl := (List.getElem?_eq_some_iff.1 hj).1
   rw [cat_length hf] at hjl
   have hi : j / sz < l.length := Nat.div_lt_of_lt_mul (by rwa [Nat.mul_comm] at hjl)
   have h0 := (hr (j / sz) _ (List.getElem?_eq_getElem hi)).1
   have hm' : j % sz < (f l[j / sz]).length := by rw [hf]; exact Nat.mod_lt _ hsz
   have h1 := cat_get hf (List.getElem?_eq_getElem hi) (j % sz) _ (List.getElem?_eq_getElem hm')
   have ej : j / sz * sz + j % sz = j := by rw [Nat.mul_comm]; exact Nat.div_add_mod j sz
   rw [ej, hj] at h1
   have h2 := h0 (j % sz) _ (List.getElem?_eq_getElem hm')
   rw [add_add, ej] at h2
   rw [h2, h1]
  ·obtain ⟨i, hi, rfl⟩ := List.getElem_of_mem hu
   exact (hr i _ (List.getElem?_eq_getElem hi)).2
end
end Go.Eng

/- Readings with the reach, as relations. General. No condition. Readings of core expressions. No condition. -/
namespace Go.Eng
open Go.RowKit Go.ChangeShapes Go.WideShapes Go.ChangeAt
section
variable {H : Type} {enc : TypeId × Value → H} {P : Program} {w : World} {spare : Nat → Bool} {held : Bool} {α μ : Type} {R : Rel α μ}
theorem rd_arrL {t e : TypeId} {fuel : Nat} {cs : List Value} {x : DataW H × List MemPlace} (ht : P.underlying t = some (.slice e)) (hs : P.cellsOf e = R.sz)
  (he : ∀ (n : Nat) (cs' : List Value) (y : DataW H × List MemPlace), n < fuel → DataW.trod enc P w 0 spare held n e cs' = some y → Lt P e y.1 → ∃ u : α × μ, cs' = R.c u ∧ R.ok w (low w) u.1 u.2)
  (h : DataW.trod enc P w 0 spare held fuel t cs = some x) (hw : Lt P t x.1) :
  ∃ (q : Option Addr) (l : List (α × μ)) (cap : Nat), cs = [.slice q l.length cap] ∧ l.length ≤ cap ∧ cap ≤ maxLen ∧ l.length * P.bytesOf e ≤ reachBytes ∧ Arr R w (low w) l q := by
 obtain ⟨q, l, cap, e1, h1, h2, h3, h4, h5⟩ := rd_slice (α := α × μ) (f := R.c) (R := fun u => R.ok w (low w) u.1 u.2) ht hs R.pos R.clen he h hw
 exact ⟨q, l, cap, e1, h1, h2, h3, fun hl => h4 (by rw [cat_length (f := R.c) R.clen]; exact Nat.mul_pos hl R.pos), h5⟩
end
end Go.Eng
namespace Go.Proofs.YtkpjndhgicbjjaaDoor.co
open Go.RowKit Go.Eng Go.Co Go.ChangeShapes Go.WideShapes Go.ChangeAt
set_option maxRecDepth 100000
section
variable {H : Type} {enc : TypeId × Value → H} {w : World} {spare : Nat → Bool} {held : Bool}
theorem list2 {α : Type} {l : List α} (h : l.length = 2) : ∃ a b, l = [a, b] := by
 match l, h with
 | [a, b], _ => exact ⟨a, b, rfl⟩
theorem list5 {α : Type} {l : List α} (h : l.length = 5) : ∃ a b c d e, l = [a, b, c, d, e] := by
 match l, h with
 | [a, b, c, d, e], _ => exact ⟨a, b, c, d, e, rfl⟩
theorem reach47 : reachBytes ≤ 140737488355328 := by decide
theorem cat_ints (l : List Int) : cat (fun x : Int => [Value.int .i64 x]) l = ints l := by
 induction l with
 | nil => rfl
 | cons x r ih =>
  show [Value.int .i64 x] ++ cat (fun x : Int => [Value.int .i64 x]) r = _
  rw [ih]
  rfl
theorem ints_rd {fuel : Nat} {cs : List Value} {x : DataW H × List MemPlace} (h : DataW.trod enc Tryd.prog w 0 spare held fuel 33 cs = some x) (hw : Lt Tryd.prog 33 x.1) :
  ∃ (q : Option Addr) (l : List Int) (cap : Nat), cs = [.slice q l.length cap] ∧ l.length ≤ cap ∧ l.length ≤ 140737488355328 ∧ IntsO w (low w) l q ∧ ∀ n ∈ l, I64 n := by
 obtain ⟨q, l, cap, e1, h1, h2, h3, h4, h5⟩ := rd_slice (α := Int) (f := fun x => [Value.int .i64 x]) (R := fun n => I64 n) Tryd.underlying33 (by kernel_rfl) (by decide) (fun _ => rfl) (fun n cs' y _ hy _ => by
  obtain ⟨k, e1, hk⟩ := DataW.trod_int Tryd.underlying3 hy
  exact ⟨k, e1, wf_i64 hk.2⟩) h hw
 rw [cat_ints] at h4
 have hb : Tryd.prog.bytesOf 3 = 8 := by kernel_rfl
 rw [hb] at h3
 have := reach47
 exact ⟨q, l, cap, e1, h1, by omega, fun hl => h4 (by rw [ints_length]; exact hl), h5⟩
theorem alt_rd {fuel : Nat} {cs : List Value} {x : DataW H × List MemPlace} (h : DataW.trod enc Tryd.prog w 0 spare held fuel 79 cs = some x) (hw : Lt Tryd.prog 79 x.1) : ∃ u : Al × Sc, cs = altR_.c u ∧ altR_.ok w (low w) u.1 u.2 := by
 obtain ⟨hlen, n, hn, hf⟩ := rd_struct Tryd.underlying79 h hw
 rw [show Tryd.prog.cellsOf 79 = 2 by kernel_rfl] at hlen
 obtain ⟨a0, a1, rfl⟩ := list2 hlen
 obtain ⟨y0, g0, w0⟩ := hf 0 _ rfl
 obtain ⟨y1, g1, w1⟩ := hf 1 _ rfl
 change DataW.trod enc Tryd.prog w 0 spare held n 3 ((List.drop 0 [a0, a1]).take (Tryd.prog.cellsOf 3)) = some y0 at g0
 change DataW.trod enc Tryd.prog w 0 spare held n 33 ((List.drop 1 [a0, a1]).take (Tryd.prog.cellsOf 33)) = some y1 at g1
 rw [show Tryd.prog.cellsOf 3 = 1 by kernel_rfl] at g0
 rw [show Tryd.prog.cellsOf 33 = 1 by kernel_rfl] at g1
 obtain ⟨k, e0, hk⟩ := DataW.trod_int Tryd.underlying3 g0
 obtain ⟨q, l, cap, e1, h1, h2, h3, h4⟩ := ints_rd g1 w1
 simp at e0 e1
 exact ⟨(⟨k, l⟩, (q, cap)), by rw [e0, e1]; rfl, wf_i64 hk.2, ⟨h2, h1⟩, h3⟩
theorem expr_rd {fuel : Nat} {cs : List Value} {x : DataW H × List MemPlace} (h : DataW.trod enc Tryd.prog w 0 spare held fuel 43 cs = some x) (hw : Lt Tryd.prog 43 x.1) : ∃ u : Ex × ExY, cs = exR.c u ∧ exR.ok w (low w) u.1 u.2 := by
 obtain ⟨hlen, n, hn, hf⟩ := rd_struct Tryd.underlying43 h hw
 rw [show Tryd.prog.cellsOf 43 = 5 by kernel_rfl] at hlen
 obtain ⟨a0, a1, a2, a3, a4, rfl⟩ := list5 hlen
 obtain ⟨y0, g0, w0⟩ := hf 0 _ rfl
 obtain ⟨y1, g1, w1⟩ := hf 1 _ rfl
 obtain ⟨y2, g2, w2⟩ := hf 2 _ rfl
 obtain ⟨y3, g3, w3⟩ := hf 3 _ rfl
 obtain ⟨y4, g4, w4⟩ := hf 4 _ rfl
 change DataW.trod enc Tryd.prog w 0 spare held n 3 ((List.drop 0 [a0, a1, a2, a3, a4]).take (Tryd.prog.cellsOf 3)) = some y0 at g0
 change DataW.trod enc Tryd.prog w 0 spare held n 3 ((List.drop 1 [a0, a1, a2, a3, a4]).take (Tryd.prog.cellsOf 3)) = some y1 at g1
 change DataW.trod enc Tryd.prog w 0 spare held n 33 ((List.drop 2 [a0, a1, a2, a3, a4]).take (Tryd.prog.cellsOf 33)) = some y2 at g2
 change DataW.trod enc Tryd.prog w 0 spare held n 33 ((List.drop 3 [a0, a1, a2, a3, a4]).take (Tryd.prog.cellsOf 33)) = some y3 at g3
 change DataW.trod enc Tryd.prog w 0 spare held n 41 ((List.drop 4 [a0, a1, a2, a3, a4]).take (Tryd.prog.cellsOf 41)) = some y4 at g4
 rw [show Tryd.prog.cellsOf 3 = 1 by kernel_rfl] at g0 g1
 rw [show Tryd.prog.cellsOf 33 = 1 by kernel_rfl] at g2 g3
 rw [show Tryd.prog.cellsOf 41 = 1 by kernel_rfl] at g4
 obtain ⟨op, e0, hop⟩ := DataW.trod_int Tryd.underlying3 g0
 obtain ⟨nn, e1, hnn⟩ := DataW.trod_int Tryd.underlying3 g1
 obtain ⟨qb, lb, cb, e2, b1, b2, b3, b4⟩ := ints_rd g2 w2
 obtain ⟨qk, lk, ck, e3, k1, k2, k3, k4⟩ := ints_rd g3 w3
 obtain ⟨qa, la, ca, e4, a1, a2, a3, a4⟩ := rd_arrL (R := altR_) Tryd.underlying41 (by kernel_rfl) (fun n cs' y _ hy hwy => alt_rd hy hwy) g4 w4
 have hb : Tryd.prog.bytesOf 79 = 32 := by kernel_rfl
 rw [hb] at a3
 have := reach47
 simp at e0 e1 e2 e3 e4
 refine ⟨(⟨op, nn, lb, lk, la.map Prod.fst⟩, ⟨(qb, cb), (qk, ck), (qa, ca)⟩), by rw [e0, e1, e2, e3, e4]; simp [Rel.c, exR, exC], ?_⟩
 exact ⟨wf_i64 hop.2, wf_i64 hnn.2, b2, k2, by simp only [List.length_map]; omega, b1, k1, by simp only [List.length_map]; exact a1, b3, k3, ⟨la, rfl, a4⟩⟩
theorem exprs_rd2 {fuel : Nat} {cs : List Value} {x : DataW H × List MemPlace} (h : DataW.trod enc Tryd.prog w 0 spare held fuel 22 cs = some x) (hw : Lt Tryd.prog 22 x.1) :
  ∃ (q : Option Addr) (l : List (Ex × ExY)) (cap : Nat), cs = [.slice q l.length cap] ∧ l.length ≤ 9223372036854775807 ∧ l.length ≤ cap ∧ Arr exR w (low w) l q := by
 obtain ⟨q, l, cap, e1, h1, h2, h3, h4⟩ := rd_arrL (R := exR) Tryd.underlying22 (by kernel_rfl) (fun n cs' y _ hy hwy => expr_rd hy hwy) h hw
 unfold maxLen at h2
 exact ⟨q, l, cap, e1, by omega, h1, h4⟩
end
end Go.Proofs.YtkpjndhgicbjjaaDoor.co
