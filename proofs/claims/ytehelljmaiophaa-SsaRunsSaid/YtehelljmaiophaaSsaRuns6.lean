/- Texts of the proof of SsaRuns, part 6: rules of a calculus for walking, plain laws, and walks of the functions that the law reaches. No condition. -/
import Derived.SizedLaws
import Derived.Test.YtehelljmaiophaaProg
import Derived.Test.YtehelljmaiophaaSsaRuns5
set_option linter.unusedVariables false
set_option linter.unusedSimpArgs false
/- The walk of ssa.Run. Conditions: none. -/
namespace Go.Proofs.Ytehelljmaiophaa.ss
set_option maxRecDepth 100000
open Go.Eng Go.RowKit Go.Ss
def m0 (fs : List Go.Ss.Fn) (main : Int) (fuel : Nat) : Go.Ss.Mch := ⟨[newF fs main [] 0], [], [], fuel⟩
def RunPost (fs : List Go.Ss.Fn) (main fuel : Int) (w : World) (e : Ending) (w' : World) : Prop :=
 (unitE fs main ≠ 0 ∧ e = .returned (.tuple #[.agg #[.slice none 0 0, .int .i64 0, .int .i64 0], .int .i64 0, .int .i64 (unitE fs main)]) ∧ Cls [] [w] w') ∨
 (unitE fs main = 0 ∧ fuel < 1 ∧ e = .returned (.tuple #[.agg #[.slice none 0 0, .int .i64 0, .int .i64 0], .int .i64 0, .int .i64 4]) ∧ Cls [] [w] w') ∨
 (unitE fs main = 0 ∧ 1 ≤ fuel ∧ ∃ f, Go.Ss.Ends fs (m0 fs main fuel.toNat) f ∧ PerfPost w fuel f e w')
def perfV (fuel : Int) (f : Go.Ss.Fin) (q : Option Addr) (c : Nat) : Value := match f with
 | .short => .tuple #[.agg #[.slice none 0 0, .int .i64 0, .int .i64 0], .int .i64 0, .int .i64 13]
 | .done en va out left => .tuple #[.agg #[.slice q out.length c, .int .i64 en, .int .i64 va], .int .i64 (fuel - left), .int .i64 0]
def perfI (B : Nat) (f : Go.Ss.Fin) (O : Nat → Prop) (q : Option Addr) (c : Nat) : List Eng.Item := match f with
 | .short => []
 | .done en va out left => [row B O q out.length c 3 1 (ints out)]
theorem Run_calls (fns : List (Go.Ss.Fn × FnY)) (q : Option Addr) (c : Nat) (main fuel : Int) (hf : fuel ≤ 100000) (hl6 : fns.length ≤ 140737488355328) (hm : I64 main) (w : World) (hu : Arr fnR w (low w) fns q) :
  Calls Try.prog 24 [.agg #[.slice q fns.length c, .int .i64 main], .int .i64 fuel].toArray w fun e w' => RunPost (fns.map Prod.fst) main fuel w e w' := by
 obtain ⟨er, her⟩ : ∃ er, unitE (fns.map Prod.fst) main = er := ⟨_, rfl⟩
 unfold RunPost
 rw [her]
 refine enter Try.func24 rfl Try.ntmps24 rfl (Cls.start w) (zen ?_)
 apply W.sr
 apply OL.box; rfl; rfl; exact CellsL.agg; (intro bk hbk; simp only [AllLe, and_true] at hbk)
 apply OL.alloc; rfl; rfl; exact CellsL.agg; (intro bk hbk; simp only [AllLe, and_true] at hbk)
 refine zgs ?_
 (((first | apply OL.op | apply QL.op); exact Guard.au; rfl; rfl); (exact Pev.call (v := .int .i64 er) rfl (by exact Args.au) (fun _ w2 hw2 => (Check_calls fns q c main w2 (hu.at hw2 (by exact mau) (fun k hk => by exact NotOwned.au)) hl6 hm).mono (fun e w3 h => ⟨by rw [h.1, her], hw2.ext h.2⟩))))
 refine zgs ?_
 rename_i bU hbU
 revert hbk
 revert bk
 intro bR hbR
 have hbU' : w.heap.size ≤ bU := hbU
 have hbR' : w.heap.size ≤ bR := hbR
 refine W.cnd ?_ ?_ <;> intro h1 <;> try exact zwx h1
 ·refine zgs ?_
  refine At.finCTT (b := bR) (cs := [.slice none 0 0, .int .i64 0, .int .i64 0]) rfl rfl (by exact mau) rfl rfl rfl rfl (fun w' hw' => .inl ⟨h1, rfl, hw'.thin (.any (fun k hk => by rw [show k = bR from hk]; exact ⟨hbR', trivial⟩) (.any (fun k hk => by rw [show k = bU from hk]; exact ⟨hbU', trivial⟩) Thin.nil))⟩)
 obtain rfl : er = 0 := by omega
 refine zgs ?_
 (((first | apply OL.op | apply QL.op); exact Guard.au; rfl; rfl); (exact Pev.call (v := .bool (decide (1 ≤ fuel) && decide (fuel ≤ 1000000))) rfl (by exact Args.au) (fun _ w2 hw2 => (within_calls fuel 1 1000000 w2).mono (fun e w3 h => ⟨h.1, hw2.ext h.2⟩))))
 refine zgs ?_
 refine W.cond rfl (fun h3 => ?_) (fun h3 => ?_)
 ·refine zgs ?_
  refine At.finCTT (b := bR) (cs := [.slice none 0 0, .int .i64 0, .int .i64 0]) rfl rfl (by exact mau) rfl rfl rfl rfl (fun w' hw' => .inr (.inl ⟨rfl, by simp at h3; omega, rfl, hw'.thin (.any (fun k hk => by rw [show k = bR from hk]; exact ⟨hbR', trivial⟩) (.any (fun k hk => by rw [show k = bU from hk]; exact ⟨hbU', trivial⟩) Thin.nil))⟩))
 have hf1 : 1 ≤ fuel := by simp at h3; omega
 obtain ⟨hU, hm0, hml, h256, hp0⟩ := unitE_zero her
 rw [List.length_map] at hml h256
 obtain ⟨mn, rfl⟩ : ∃ mn : Nat, main = (mn : Int) := ⟨main.toNat, by omega⟩
 obtain ⟨fu, rfl⟩ : ∃ fu : Nat, fuel = (fu : Int) := ⟨fuel.toNat, by omega⟩
 rw [Int.toNat_natCast] at hp0
 refine zgs ?_
 refine OL.callE (α := Go.Ss.Fin × (Nat → Prop) × Option Addr × Nat) (fun z => perfV fu z.1 z.2.2.1 z.2.2.2) (fun z => Go.Ss.Ends (fns.map Prod.fst) (m0 (fns.map Prod.fst) mn fu) z.1) (fun z => Cls (perfI w.heap.size z.1 z.2.1 z.2.2.1 z.2.2.2 ++ [blk bR 58 [.slice none 0 0, .int .i64 0, .int .i64 0], blk bU 55 [.slice q fns.length c, .int .i64 (mn : Int)]]) [w]) rfl rfl (by exact Args.au) (fun w2 hw2 => (Perform_calls fns q c mn fu hU (by omega) (by omega) (by omega) (by omega) hp0 w2 (hu.at hw2 (by exact mau) (fun k hk => by exact NotOwned.au))).mono fun e w3 ⟨f, h1, h2⟩ => ?_) ?_
 ·have hsz : w.heap.size ≤ w2.heap.size := (hw2.kp w (.head _)).size
  cases f with
  | short => exact ⟨⟨.short, fun _ => False, none, 0⟩, h2.1, h1, hw2.ext (h2.2.toExt (.head _) (fun k hk => NotOwned.nil))⟩
  | done en va out left =>
   obtain ⟨O, q', c', h3, h4⟩ := h2
   exact ⟨⟨.done en va out left, fun k => w2.heap.size ≤ k ∧ O k, q', c'⟩, h3, h1, (hw2.plus h4 (fun k hk => hk.1)).row_base hsz⟩
 rintro ⟨f, O, q', c'⟩ hE
 simp only at hE ⊢
 cases f with
 | short =>
  simp only [perfV, perfI, List.nil_append]
  refine zgs ?_
  exact At.finCTT (b := bR) (cs := [.slice none 0 0, .int .i64 0, .int .i64 0]) rfl rfl (by exact mau) rfl rfl rfl rfl (fun w' hw' => .inr (.inr ⟨trivial, hf1, .short, by rw [Int.toNat_natCast]; exact hE, rfl, hw'.thin (.any (fun k hk => by rw [show k = bR from hk]; exact ⟨hbR', trivial⟩) (.any (fun k hk => by rw [show k = bU from hk]; exact ⟨hbU', trivial⟩) Thin.nil))⟩))
 | done en va out left =>
  simp only [perfV, perfI, List.cons_append, List.nil_append]
  refine zgs ?_
  exact At.finCTT (b := bR) (cs := [.slice q' out.length c', .int .i64 en, .int .i64 va]) rfl rfl (by exact mau) rfl rfl rfl rfl (fun w' hw' => .inr (.inr ⟨trivial, hf1, .done en va out left, by rw [Int.toNat_natCast]; exact hE, O, q', c', rfl, hw'.thin (.keep (.any (fun k hk => by rw [show k = bR from hk]; exact ⟨hbR', trivial⟩) (.any (fun k hk => by rw [show k = bU from hk]; exact ⟨hbU', trivial⟩) Thin.nil)))⟩))
end Go.Proofs.Ytehelljmaiophaa.ss

/- The walk of the reference's Run. Conditions: none. -/
namespace Go.Proofs.Ytehelljmaiophaa.ss
set_option maxRecDepth 100000
open Go.Eng Go.RowKit Go.Ss
theorem call_all (fns : List (Go.Ss.Fn × FnY)) (bm : Nat) (s0 : World) (n : Nat) : CallS fns bm s0 n := Nat.strongRecOn n (fun n ih => call_step fns bm s0 n ih)
def rrunV (fuel : Int) (f : Go.Ss.Fin) (q : Option Addr) (c : Nat) : Value := match f with
 | .short => .tuple #[.agg #[.slice none 0 0, .int .i64 0, .int .i64 0], .int .i64 0, .bool false]
 | .done en va out left => .tuple #[.agg #[.slice q out.length c, .int .i64 en, .int .i64 va], .int .i64 (fuel - left), .bool true]
theorem start_rI {B bm : Nat} {cs : List Value} {H : List Eng.Item} {S : List World} {w : World} (m : RS) (hm : m.c = cs) (hA : m.qa = none ∧ m.na = 0 ∧ m.ca = 0) (hO : m.qo = none ∧ m.no = 0 ∧ m.co = 0) (h : Cls (blk bm 110 cs :: H) S w) : Cls (rI B bm ⟨m, [], fun _ => False, fun _ => False, [], fun _ => False, []⟩ H) S w := by
 have h1 := (((h.row_nil B 3 1).row_nil B 111 1).pool_nil (pvR rF) B).bag_nil B
 have h2 := h1.perm (List.Perm.append_right H (List.reverse_perm [blk bm 110 cs, row B (fun _ => False) none 0 0 3 1 [], row B (fun _ => False) none 0 0 111 1 [], pool (pvR rF) B (fun _ => False) [], bag B []]))
 unfold rI
 simp only
 rw [hm, hA.1, hA.2.1, hA.2.2, hO.1, hO.2.1, hO.2.2]
 exact h2
theorem end_rI {bm b8 b4 b2 : Nat} {y : YS} {t8 t4 t2 : TypeId} {c8 c4 c2 : List Value} {w0 w : World} (hbm : w0.heap.size ≤ bm) (h8 : w0.heap.size ≤ b8) (h4 : w0.heap.size ≤ b4) (h2 : w0.heap.size ≤ b2) (h : Cls (blk b8 t8 c8 :: rI w0.heap.size bm y [blk b4 t4 c4, blk b2 t2 c2]) [w0] w) : Cls [row w0.heap.size y.Oo y.m.qo y.m.no y.m.co 3 1 (ints y.out)] [w0] w := by
 have hb : ∀ {b : Nat} {t : TypeId} {c : List Value}, w0.heap.size ≤ b → ∀ k, (blk b t c).own k → AllLe [w0] k := fun {b t c} h k hk => by rw [show k = b from hk]; exact ⟨h, trivial⟩
 exact h.thin (.any (hb h8) (.any (hb hbm) (.keep (.any (fun k hk => ⟨hk.1, trivial⟩) (.any (fun k hk => ⟨hk.1, trivial⟩) (.any (fun k hk => ⟨hk.1, trivial⟩) (.any (hb h4) (.any (hb h2) .nil))))))))
theorem RRun_calls (fns : List (Go.Ss.Fn × FnY)) (q : Option Addr) (c : Nat) (main fuel : Int) (hf1 : 1 ≤ fuel) (hf : fuel ≤ 100000) (hU0 : unitE (fns.map Prod.fst) main = 0) (w : World) (hu : Arr fnR w (low w) fns q) :
  Calls Try.prog 27 [.agg #[.slice q fns.length c, .int .i64 main], .int .i64 fuel].toArray w fun e w' => ∃ f, Go.Ss.Ends (fns.map Prod.fst) (m0 (fns.map Prod.fst) main fuel.toNat) f ∧ ∃ O q' c', e = .returned (rrunV fuel f q' c') ∧ Cls (perfI w.heap.size f O q' c') [w] w' := by
 obtain ⟨hU, hm0, hml, h256, hp0⟩ := unitE_zero hU0
 refine enter Try.func27 rfl Try.ntmps27 rfl (Cls.start w) (zen ?_)
 apply W.sr
 apply OL.box; rfl; rfl; exact CellsL.agg; (intro bk hbk; simp only [AllLe, and_true] at hbk)
 apply OL.alloc; rfl; rfl; exact CellsL.agg; (intro bk hbk; simp only [AllLe, and_true] at hbk)
 refine zgs ?_
 apply OL.box; rfl; rfl; exact CellsL.agg; (intro bk hbk; simp only [AllLe, and_true] at hbk)
 refine zgs ?_
 rename_i b2 hb2 b4 hb4
 revert hbk
 revert bk
 intro bm hbm
 have hb2 : w.heap.size ≤ b2 := hb2
 have hb4 : w.heap.size ≤ b4 := hb4
 have hbm : w.heap.size ≤ bm := hbm
 obtain ⟨y0, hy0⟩ : ∃ y0 : YS, y0 = ⟨⟨q, fns.length, c, main, none, 0, 0, 0, fuel, none, 0, 0, 0, 0, false⟩, [], fun _ => False, fun _ => False, [], fun _ => False, []⟩ := ⟨_, rfl⟩
 have hok0 : YOk y0 [] := by
  rw [hy0]
  exact ⟨rfl, Nat.zero_le _, rfl, rfl, fun j a h => (by simp at h), fun a h => (by cases h), fun a h => (by cases h), rfl, Int.le_refl _, (show (0 : Int) ≤ fuel by omega), hf, Int.le_refl _, rfl⟩
 have hl0 : y0.left = fuel.toNat := by
  rw [hy0]
  show (fuel - 0).toNat = _
  rw [Int.sub_zero]
 refine OL.callE (α := PV × YS × CR) (fun z => .agg #[.int .i64 z.1.k, .int .i64 z.1.n, .slice z.1.q z.1.l.length z.1.cap]) (fun z => RunsN (fns.map Prod.fst) main [] [] [] fuel.toNat z.2.2 ∧ CallR z.2.2 y0 z.2.1 z.1) (fun z => Cls (rI w.heap.size bm z.2.1 [blk b4 58 [.slice none 0 0, .int .i64 0, .int .i64 0], blk b2 55 [.slice q fns.length c, .int .i64 main]]) [w]) rfl rfl (by exact Args.au) (fun w2 hw2 => ?_) ?_
 ·have h1 := start_rI (B := w.heap.size) y0.m (by rw [hy0]; rfl) (by rw [hy0]; exact ⟨rfl, rfl, rfl⟩) (by rw [hy0]; exact ⟨rfl, rfl, rfl⟩) hw2
  have h2 := call_all fns bm w fuel.toNat y0 [] main [] [] none 0 [blk b4 58 [.slice none 0 0, .int .i64 0, .int .i64 0], blk b2 55 [.slice q fns.length c, .int .i64 main]] [w] w2 hl0 ⟨hok0, hm0, hml, by rw [hp0]; rfl, Ers.nil, .inl rfl, fun v hv => (by cases hv), fun l hl => (by cases hl), fun l hl => (by cases hl)⟩ ⟨by rw [hy0]; exact hu, by rw [hy0], hU, hbm, fun k hk => NotOwned.blk (by omega) (NotOwned.blk (by omega) NotOwned.nil)⟩ (.head _) (by rw [hy0] at h1 ⊢; exact h1)
  rw [hy0] at h2 ⊢
  exact h2.mono fun e w3 ⟨v, y', r, h1, h2, h3, h4⟩ => ⟨(v, y', r), h1, ⟨h2, h3⟩, h4⟩
 rintro ⟨v, y', r⟩ ⟨hR, hC⟩
 simp only at hR hC
 have hS : RSame y0.m y'.m := by
  cases r with
  | ret => exact hC.2.2.1
  | fin => exact hC.2
 have hfu : y'.m.fuel = fuel := by rw [hS.fuel, hy0]
 have hva0 : y'.m.va = 0 := by rw [hS.va, hy0]
 simp only
 unfold rI RS.c
 apply OL.alloc; rfl; rfl; exact CellsL.agg; (intro bk hbk; simp only [AllLe, and_true] at hbk)
 refine zgs ?_
 apply W.regd0; decide +kernel; kernel_rfl; decide +kernel; exact fun w hw => hw.drew
 refine zgs ?_
 revert hbk
 revert bk
 intro b8 hb8
 have hb8 : w.heap.size ≤ b8 := hb8
 cases r with
 | fin f =>
  cases f with
  | short =>
   obtain ⟨⟨hed, hlt⟩, _⟩ := hC
   refine W.cond rfl (fun _ => ?_) (fun hh => by simp at hh; omega)
   refine zgs ?_
   exact At.finCTT (b := b4) (cs := [.slice none 0 0, .int .i64 0, .int .i64 0]) rfl rfl (by exact mau) rfl rfl rfl rfl (fun w' hw' => ⟨.short, RunsN.main_fin hR, fun _ => False, none, 0, rfl, (end_rI (y := y') hbm hb8 hb4 hb2 hw').thin (.any (fun k hk => ⟨hk.1, trivial⟩) .nil)⟩)
  | done en va out left =>
   obtain ⟨⟨hed, hva, hen, hout, hno, hst, hlf⟩, _⟩ := hC
   refine W.cond rfl (fun hh => by simp at hh; omega) (fun _ => ?_)
   rw [hed]
   refine zgs ?_
   refine W.cond rfl (fun hh => by simp at hh) (fun _ => ?_)
   refine zgs ?_
   refine W.regzC (C0 := Cls [blk bm 110 [.slice y'.m.qF y'.m.nF y'.m.cF, .int .i64 y'.m.main, .slice y'.m.qa y'.m.na y'.m.ca, .int .i64 y'.m.steps, .int .i64 y'.m.fuel, .slice y'.m.qo y'.m.no y'.m.co, .int .i64 y'.m.en, .int .i64 y'.m.va, .bool true]] []) (by (repeat (first | exact ZSplit.nil | apply ZSplit.pure rfl | apply ZSplit.tail))) (by kernel_rfl) (by decide +kernel) (fun w hw => hw.drew) (fun w hw => hw.onlyI (by exact mau)) ?_
   refine zgs ?_
   refine At.tk (fun w hw => hw.onlyI (by exact mau)) ?_
   refine zgs ?_
   have e1 : y'.m.steps = fuel - (left : Int) := by omega
   subst hout hen hva
   refine At.finCTT (b := b4) (cs := [.slice y'.m.qo y'.m.no y'.m.co, .int .i64 y'.m.en, .int .i64 y'.m.va]) rfl rfl (by exact mau) rfl rfl rfl rfl (fun w' hw' => ⟨Go.Ss.Fin.done y'.m.en 0 y'.out left, RunsN.main_fin hR, y'.Oo, y'.m.qo, y'.m.co, ?_, ?_⟩)
   ·show _ = Ending.returned (.tuple #[.agg #[.slice y'.m.qo y'.out.length y'.m.co, .int .i64 y'.m.en, .int .i64 0], .int .i64 (fuel - (left : Int)), .bool true])
    rw [← hno, ← e1, hva0]
   ·have h3 := end_rI (y := { y' with m := { y'.m with ed := true } }) hbm hb8 hb4 hb2 hw'
    simp only at h3
    rw [hno] at h3
    exact h3
 | ret sv A out left =>
  obtain ⟨hok, hout, _, hlf, hev, _, _⟩ := hC
  have h1 := hok.s1
  have hlf : (y'.m.fuel - y'.m.steps).toNat = left := hlf
  refine W.cond rfl (fun hh => by simp at hh; omega) (fun _ => ?_)
  rw [hok.ed]
  refine zgs ?_
  have e1 : y'.m.steps = fuel - (left : Int) := by omega
  subst hout
  by_cases hkk : v.k = 0 ∨ v.k = 1
  ·refine W.cond rfl (fun _ => ?_) (fun hh => by simp at hh; omega)
   refine zgs ?_
   refine W.regzC (C0 := Cls [blk bm 110 [.slice y'.m.qF y'.m.nF y'.m.cF, .int .i64 y'.m.main, .slice y'.m.qa y'.m.na y'.m.ca, .int .i64 y'.m.steps, .int .i64 y'.m.fuel, .slice y'.m.qo y'.m.no y'.m.co, .int .i64 y'.m.en, .int .i64 v.n, .bool false]] []) (by (repeat (first | exact ZSplit.nil | apply ZSplit.pure rfl | apply ZSplit.tail))) (by kernel_rfl) (by decide +kernel) (fun w hw => hw.drew) (fun w hw => hw.onlyI (by exact mau)) ?_
   refine zgs ?_
   refine At.tk (fun w hw => hw.onlyI (by exact mau)) ?_
   refine zgs ?_
   refine At.finCTT (b := b4) (cs := [.slice y'.m.qo y'.m.no y'.m.co, .int .i64 y'.m.en, .int .i64 v.n]) rfl rfl (by exact mau) rfl rfl rfl rfl (fun w' hw' => ⟨Go.Ss.Fin.done 0 sv.n y'.out left, by
    have h4 := RunsN.main hR
    rw [if_pos (by rw [← hev.k]; exact hkk)] at h4
    exact h4, y'.Oo, y'.m.qo, y'.m.co, ?_, ?_⟩)
   ·show _ = Ending.returned (.tuple #[.agg #[.slice y'.m.qo y'.out.length y'.m.co, .int .i64 0, .int .i64 sv.n], .int .i64 (fuel - (left : Int)), .bool true])
    rw [← hok.no, ← e1, hok.en, hev.nr]
   ·have h3 := end_rI (y := { y' with m := { y'.m with ed := false, va := v.n } }) hbm hb8 hb4 hb2 hw'
    simp only at h3
    rw [hok.no] at h3
    exact h3
  ·refine W.cond rfl (fun hh => by simp at hh; omega) (fun _ => ?_)
   refine zgs ?_
   refine W.regzC (C0 := Cls [blk bm 110 [.slice y'.m.qF y'.m.nF y'.m.cF, .int .i64 y'.m.main, .slice y'.m.qa y'.m.na y'.m.ca, .int .i64 y'.m.steps, .int .i64 y'.m.fuel, .slice y'.m.qo y'.m.no y'.m.co, .int .i64 y'.m.en, .int .i64 y'.m.va, .bool false]] []) (by (repeat (first | exact ZSplit.nil | apply ZSplit.pure rfl | apply ZSplit.tail))) (by kernel_rfl) (by decide +kernel) (fun w hw => hw.drew) (fun w hw => hw.onlyI (by exact mau)) ?_
   refine zgs ?_
   refine At.tk (fun w hw => hw.onlyI (by exact mau)) ?_
   refine zgs ?_
   refine At.finCTT (b := b4) (cs := [.slice y'.m.qo y'.m.no y'.m.co, .int .i64 y'.m.en, .int .i64 y'.m.va]) rfl rfl (by exact mau) rfl rfl rfl rfl (fun w' hw' => ⟨Go.Ss.Fin.done 0 0 y'.out left, by
    have h4 := RunsN.main hR
    rw [if_neg (by rw [← hev.k]; exact hkk)] at h4
    exact h4, y'.Oo, y'.m.qo, y'.m.co, ?_, ?_⟩)
   ·show _ = Ending.returned (.tuple #[.agg #[.slice y'.m.qo y'.out.length y'.m.co, .int .i64 0, .int .i64 0], .int .i64 (fuel - (left : Int)), .bool true])
    rw [← hok.no, ← e1, hok.en, hva0]
   ·have h3 := end_rI (y := { y' with m := { y'.m with ed := false } }) hbm hb8 hb4 hb2 hw'
    simp only at h3
    rw [hok.no] at h3
    exact h3
end Go.Proofs.Ytehelljmaiophaa.ss


/- The walks of slices.IndexFunc and ContainsFunc at blocks and instructions, of live's defined and of the reference's Defines. Conditions: none. -/
namespace Go.Ss
open Go.Eng Go.RowKit
end Go.Ss
namespace Go.Proofs.Ytehelljmaiophaa.ss
set_option maxRecDepth 100000
open Go.Eng Go.RowKit Go.Ss
end Go.Proofs.Ytehelljmaiophaa.ss

/- The walks of ssa.Pure, of the reference's SameResult, and of the law's two, small and vast. Conditions: none. -/
namespace Go.Ss
open Go.Eng Go.RowKit
def twoF : Go.Ss.Fn := ⟨-1, [⟨[], [⟨1, 0, 7, []⟩, ⟨2, 15, 0, [1]⟩, ⟨3, 0, 5, []⟩], ⟨0, 3, 0, [], []⟩⟩]⟩
theorem twoF_ok : funcE twoF = 0 := by
 have h1 : DefAt twoF.blocks 1 0 1 := ⟨_, rfl, .inr ⟨0, _, rfl, rfl, rfl⟩⟩
 have h3 : DefAt twoF.blocks 3 0 3 := ⟨_, rfl, .inr ⟨2, _, rfl, rfl, rfl⟩⟩
 have hu : ∀ (k : Nat) b, twoF.blocks[k]? = some b → UsesB twoF.blocks k b := by
  intro k b hb
  obtain rfl : k = 0 := by
   have := (List.getElem?_eq_some_iff.1 hb).1
   simp [twoF] at this
   omega
  obtain rfl := Option.some.inj hb
  refine ⟨fun n i hi v hv => ?_, fun v hv => ?_⟩
  ·match n, hi with
   | 0, hi =>
    obtain rfl := Option.some.inj hi
    cases hv
   | 1, hi =>
    obtain rfl := Option.some.inj hi
    obtain rfl := List.mem_singleton.1 hv
    exact ⟨0, 1, h1, .inl ⟨rfl, by decide⟩⟩
   | 2, hi =>
    obtain rfl := Option.some.inj hi
    cases hv
   | n + 3, hi => simp at hi
  ·obtain rfl : v = 3 := by simpa [operT] using hv
   exact ⟨0, 3, h3, .inl ⟨rfl, by decide⟩⟩
 have hs : shapeE twoF.blocks = 0 := by decide
 unfold funcE
 rw [if_neg (by decide), if_neg (by decide), if_neg (by decide), if_neg (fun h => h hs), if_pos hu]
theorem two_unit : unitE [twoF] 0 = 0 := by
 have h1 : firstE funcE [twoF] = 0 := firstE_zero.2 fun x hx => by
  obtain rfl := List.mem_singleton.1 hx
  exact twoF_ok
 unfold unitE
 rw [if_neg (by decide), if_neg (by decide), if_neg (by decide), if_neg (by rw [h1]; simp), if_neg (by decide)]
 decide
theorem two_fresh : freshF twoF.blocks = 4 := by decide
theorem two_run4 {f : Go.Ss.Fin} (h : Go.Ss.Ends [twoF] ⟨[newF [twoF] 0 [] 0], [], [], 4⟩ f) : f = .done 0 5 [7] 0 :=
 h.det ⟨_, .step (by rfl) (.step (by rfl) (.step (by rfl) (.refl _))), by rfl⟩
theorem two_run3 {f : Go.Ss.Fin} (h : Go.Ss.Ends [twoF] ⟨[newF [twoF] 0 [] 0], [], [], 3⟩ f) : f = .short :=
 h.det ⟨_, .step (by rfl) (.step (by rfl) (.step (by rfl) (.refl _))), by rfl⟩
end Go.Ss
namespace Go.Proofs.Ytehelljmaiophaa.ss
set_option maxRecDepth 100000
open Go.Eng Go.RowKit Go.Ss
theorem SameResult_calls (q q2 : Option Addr) (c c2 : Nat) (l m : List Int) (en va en2 va2 : Int) (w : World) (hl : l.length ≤ 9223372036854775807) (hm : m.length ≤ 9223372036854775807) (h : IntsO w (low w) l q) (h2 : IntsO w (low w) m q2) :
  Calls Try.prog 26 [.agg #[.slice q l.length c, .int .i64 en, .int .i64 va], .agg #[.slice q2 m.length c2, .int .i64 en2, .int .i64 va2]].toArray w fun e w' => e = .returned (.bool (decide (en = en2 ∧ va = va2 ∧ l = m))) ∧ Ext w w' := by
 refine enter Try.func26 rfl Try.ntmps26 rfl (Cls.start w) (zen ?_)
 apply W.sr
 apply OL.box; rfl; rfl; exact CellsL.agg; (intro bk hbk; simp only [AllLe, and_true] at hbk)
 apply OL.box; rfl; rfl; exact CellsL.agg; (intro bk hbk; simp only [AllLe, and_true] at hbk)
 refine zgs ?_
 obtain ⟨g, hg⟩ : ∃ g, (decide (en = en2) && decide (va = va2)) = g := ⟨_, rfl⟩
 rw [hg]
 cases g with
 | false =>
  have hd : decide (en = en2 ∧ va = va2 ∧ l = m) = false := decide_eq_false (fun ⟨h1, h2, _⟩ => by simp [h1, h2] at hg)
  rw [hd]
  refine zgs ?_
  (refine zfn ?_; intro w' hw')
  exact ⟨rfl, by (exact hw'.fr)⟩
 | true =>
  skip
  have hd : decide (en = en2 ∧ va = va2 ∧ l = m) = decide (l = m) := by
   simp at hg
   simp [hg.1, hg.2]
  rw [hd]
  (((first | apply OL.op | apply QL.op); exact Guard.au; rfl; rfl); (exact Pev.call (v := .bool (decide (l = m))) rfl (by exact Args.au) (fun _ w2 hw2 => (SameInts_calls q q2 c c2 l m w2 hl hm (h.at hw2 (by exact mau) (fun k hk => by exact NotOwned.au)) (h2.at hw2 (by exact mau) (fun k hk => by exact NotOwned.au))).mono (fun e w3 h => ⟨h.1, hw2.ext h.2⟩))))
  refine zgs ?_
  (refine zfn ?_; intro w' hw')
  exact ⟨rfl, by (exact hw'.fr)⟩
theorem two_calls (w : World) : Calls Try.prog 68 #[] w fun e w' => ∃ (y : FnY) (q : Option Addr) (c : Nat), e = .returned (.agg #[.slice q 1 c, .int .i64 0]) ∧ Ext w w' ∧ Arr fnR w' (low w') [(twoF, y)] q := by
 refine enter Try.func68 rfl Try.ntmps68 rfl (Cls.start w) (zen ?_)
 apply W.sr
 apply OL.alloc; rfl; rfl; exact CellsL.agg; (intro bk hbk; simp only [AllLe, and_true] at hbk)
 refine zgs ?_
 apply OL.buildSlice; rfl; rfl; rfl; exact Elems.au; rfl; rfl; (intro bk hbk; simp only [AllLe, and_true] at hbk)
 refine zgs ?_
 apply OL.buildSlice; rfl; rfl; rfl; exact Elems.au; rfl; rfl; (intro bk hbk; simp only [AllLe, and_true] at hbk)
 refine zgs ?_
 apply OL.buildSlice; rfl; rfl; rfl; exact Elems.au; rfl; rfl; (intro bk hbk; simp only [AllLe, and_true] at hbk)
 refine zgs ?_
 apply OL.buildSlice; rfl; rfl; rfl; exact Elems.au; rfl; rfl; (intro bk hbk; simp only [AllLe, and_true] at hbk)
 refine zgs ?_
 rename_i b0 hb0 b2 hb2 b5 hb5 b8 hb8
 revert bk
 intro b10 hb10
 refine At.finC (b := b0) (cs := [.slice (some ⟨b10, 0, none⟩) 1 1, .int .i64 0]) rfl rfl (by exact mau) rfl rfl (fun w' hw' => ?_)
 have h5 : ArrP inR w' (low w') [⟨1, 0, 7, []⟩, ⟨2, 15, 0, [1]⟩, ⟨3, 0, 5, []⟩] (some ⟨b5, 0, none⟩) := ⟨[(⟨1, 0, 7, []⟩, (none, 0)), (⟨2, 15, 0, [1]⟩, (some ⟨b2, 0, none⟩, 1)), (⟨3, 0, 5, []⟩, (none, 0))], rfl, arrBlk (e := 85) (hw'.item (by exact mau)) (fun p hp => by
  rcases List.mem_cons.1 hp with rfl | hp
  ·exact ⟨by simp [I64], by simp [I64], by simp [I64], by simp, by simp, nilS _ _, fun n hn => (by cases hn)⟩
  rcases List.mem_cons.1 hp with rfl | hp
  ·exact ⟨by simp [I64], by simp [I64], by simp [I64], by simp, by simp, blkInts (e := 3) (hw'.item (by exact mau)), fun n hn => by
    obtain rfl := List.mem_singleton.1 hn
    simp [I64]⟩
  obtain rfl := List.mem_singleton.1 hp
  exact ⟨by simp [I64], by simp [I64], by simp [I64], by simp, by simp, nilS _ _, fun n hn => (by cases hn)⟩)⟩
 refine ⟨⟨some ⟨b8, 0, none⟩, 1⟩, some ⟨b10, 0, none⟩, 1, rfl, by (exact hw'.fr), arrBlk (e := 24) (hw'.item (by exact mau)) (fun p hp => ?_)⟩
 obtain rfl := List.mem_singleton.1 hp
 refine ⟨by simp [twoF, I64], by simp [twoF], by simp [twoF], ⟨[(⟨[], [⟨1, 0, 7, []⟩, ⟨2, 15, 0, [1]⟩, ⟨3, 0, 5, []⟩], ⟨0, 3, 0, [], []⟩⟩, ⟨(none, 0), (some ⟨b5, 0, none⟩, 3), ⟨(none, 0), (none, 0)⟩⟩)], rfl, arrBlk (e := 41) (hw'.item (by exact mau)) (fun p hp => ?_)⟩⟩
 obtain rfl := List.mem_singleton.1 hp
 exact ⟨by simp, by simp, by simp, by simp, nilS _ _, fun n hn => (by cases hn), h5, ⟨by simp [I64], by simp [I64], by simp [I64], by simp, by simp, by simp, by simp, nilS _ _, fun n hn => (by cases hn), ArrP.nil⟩⟩
end Go.Proofs.Ytehelljmaiophaa.ss

/- Rows of marks in memory; the walks of ssa.Fresh, slices.Clone and slices.Equal at []bool, and live's list. Conditions: none. -/
namespace Go.Ss
open Go.Eng Go.RowKit
def BoolsO (w : World) (O : Nat → Prop) (l : List Bool) (q : Option Addr) : Prop := 0 < l.length → ∃ a, q = some a ∧ O a.block ∧ CellsAt w a (bls l)
theorem BoolsO.stab {w w' : World} {O : Nat → Prop} {l : List Bool} {q : Option Addr} (hk : ∀ k, O k → w'.heap[k]? = w.heap[k]?) (h : BoolsO w O l q) : BoolsO w' O l q := fun hl => by
 obtain ⟨a, h1, h2, h3⟩ := h hl
 exact ⟨a, h1, h2, cells_stab (hk _ h2) h3⟩
theorem BoolsO.mono {w : World} {O O' : Nat → Prop} {l : List Bool} {q : Option Addr} (hk : ∀ k, O k → O' k) (h : BoolsO w O l q) : BoolsO w O' l q := fun hl => by
 obtain ⟨a, h1, h2, h3⟩ := h hl
 exact ⟨a, h1, hk _ h2, h3⟩
theorem BoolsO.nil {w : World} {O : Nat → Prop} {q : Option Addr} : BoolsO w O [] q := fun h => by simp at h
theorem BoolsO.get {w : World} {O : Nat → Prop} {l : List Bool} {q : Option Addr} (h : BoolsO w O l q) {i : Nat} (hi : i < l.length) : ∃ a u, q = some a ∧ O a.block ∧ l[i]? = some u ∧ w.cell? (a.add (i * 1)) = some (.bool u) := by
 obtain ⟨a, h1, h2, h3⟩ := h (by omega)
 have hu : l[i]? = some l[i] := List.getElem?_eq_getElem hi
 exact ⟨a, l[i], h1, h2, hu, by rw [Nat.mul_one]; exact h3 i _ (bls_get hu)⟩
theorem BoolsO.slAt {w : World} {l : List Bool} {q : Option Addr} (h : BoolsO w (low w) l q) : SlAt w w.heap.size q (bls l) := fun hv => by
 rw [bls_length] at hv
 exact h hv
theorem BoolsO.at {w w' : World} {l : List Bool} {q : Option Addr} {H : List Eng.Item} {S : List World} (h : BoolsO w (low w) l q) (hw : Cls H S w') (hs : w ∈ S) (hno : ∀ k, k < w.heap.size → NotOwned H k) : BoolsO w' (low w') l q :=
 BoolsO.mono (hw.up hs) (BoolsO.stab (hw.same hs hno) h)
theorem BoolsO.ext {w w' : World} {l : List Bool} {q : Option Addr} (h : BoolsO w (low w) l q) (hx : Ext w w') : BoolsO w' (low w') l q :=
 BoolsO.mono (fun k hk => Nat.lt_of_lt_of_le hk hx.size) (BoolsO.stab (fun k hk => hx.block k hk id) h)
end Go.Ss
namespace Go.Proofs.Ytehelljmaiophaa.ss
set_option maxRecDepth 100000
open Go.Eng Go.RowKit Go.Ss
theorem Fresh1_calls (bn : Nat) (a v : Int) (H : List Eng.Item) (S : List World) (w : World) (hc : Cls (blk bn 3 [.int .i64 a] :: H) S w) :
  Calls Try.prog 82 [.int .i64 v, .pointer (some ⟨bn, 0, none⟩)].toArray w fun e w' => e = .returned (.tuple #[]) ∧ Cls (blk bn 3 [.int .i64 (wmax a v)] :: H) S w' := by
 refine enter Try.func82 rfl Try.ntmps82 rfl hc (zen ?_)
 refine zgs ?_
 refine At.end_ (At.fin0 rfl (fun w' hw' => ⟨rfl, ?_⟩))
 unfold wmax
 exact hw'
theorem values_calls (bn : Nat) (es : List (Bk × BkY)) (q : Option Addr) (cap : Nat) (nm : Int) (s0 : World) (he : Arr bkR s0 (low s0) es q) (hlen : es.length ≤ 140737488355328) (S : List World) (hs0 : s0 ∈ S) (hbn : s0.heap.size ≤ bn) (w : World) (hc : Cls [blk bn 3 [.int .i64 0]] S w) :
  Calls Try.prog 81 [.agg #[.int .i64 nm, .slice q es.length cap], .func (.func 82) ([] : List Value).toArray [.pointer (some ⟨bn, 0, none⟩)].toArray].toArray w fun e w' => e = .returned (.tuple #[]) ∧ Cls [blk bn 3 [.int .i64 (freshF (es.map Prod.fst))]] S w' := by
 obtain ⟨bs, hbs⟩ : ∃ bs, es.map Prod.fst = bs := ⟨_, rfl⟩
 have hbl : bs.length = es.length := by rw [← hbs, List.length_map]
 rw [hbs]
 refine enter Try.func81 rfl Try.ntmps81 rfl hc (zen ?_)
 apply W.sr
 apply OL.box; rfl; rfl; exact CellsL.agg; (intro bk hbk; have hbk0 := hbk.mem s0 hs0)
 refine zgs ?_
 have hbF : AllLe S bk := by first | exact hbk | exact AllLe.mk hc
 refine W.loop (G := Nat) (fun k => k ≤ es.length) (fun k => es.length - k)
  (fun k => [(1, true, .func (.func 82) ([] : List Value).toArray [.pointer (some ⟨bn, 0, none⟩)].toArray), (11, true, .slice q es.length cap), (12, true, .int .i64 (es.length : Int)), (13, true, .int .i64 (k : Int))])
  (fun k => Cls [blk bn 3 [.int .i64 (freshF (bs.take k))]] S) 0 (by omega) (by exact Sub.au) (fun w' hw' => hw'.thin (.any (fun k hk => by rw [show k = bk from hk]; exact hbF) Thin.same)) ?_
 rintro k hk
 refine zgs ?_
 refine W.cnd ?_ ?_ <;> intro hlt <;> try exact zwx hlt
 ·have hkl : k < es.length := by omega
  obtain ⟨a, p, hqa, hab, hp, hcell, hok⟩ := he.get hkl
  have hab : a.block < s0.heap.size := hab
  have hcell : CellsAt s0 (a.add (k * 7)) [.slice p.2.p.1 p.1.params.length p.2.p.2, .slice p.2.i.1 p.1.ins.length p.2.i.2, .int .i64 p.1.term.kind, .int .i64 p.1.term.arg, .int .i64 p.1.term.n, .slice p.2.t.c.1 p.1.term.cases.length p.2.t.c.2, .slice p.2.t.t.1 p.1.term.to_.length p.2.t.t.2] := hcell
  have hbsk : bs[k]? = some p.1 := by rw [← hbs, List.getElem?_map, hp]; rfl
  have hpl := hok.pl
  have hil := hok.il
  obtain ⟨pi, hpi, hiarr⟩ := hok.i
  have hpil : p.1.ins.length = pi.length := by rw [← hpi, List.length_map]
  have hnx : freshF (bs.take (k + 1)) = freshB (freshF (bs.take k)) p.1 := by
   unfold freshF
   rw [List.take_add_one, hbsk, Option.toList_some, List.foldl_append]
   rfl
  unfold freshB at hnx
  generalize freshF (bs.take k) = z0 at *
  rw [hqa]
  refine zgs ?_
  apply OL.alloc; rfl; rfl; exact CellsL.agg; (intro bk hbk; have hbk0 := hbk.mem s0 hs0)
  refine zgs ?_
  revert bk
  intro b5 hb5 hb50
  have hb51 : AllLe S b5 := by first | exact hb5 | exact hb5.1
  have hb52 : s0.heap.size ≤ b5 := hb51.mem s0 hs0
  have hFr := fun a v => Fresh1_calls bn a v
  refine W.loop (G := Nat) (fun j => j ≤ p.1.params.length) (fun j => p.1.params.length - j)
   (fun j => [(1, true, .func (.func 82) ([] : List Value).toArray [.pointer (some ⟨bn, 0, none⟩)].toArray), (5, true, .pointer (some ⟨b5, 0, none⟩)), (11, true, .slice (some a) es.length cap), (12, true, .int .i64 (es.length : Int)), (13, true, .int .i64 (k : Int)), (18, true, .slice p.2.p.1 p.1.params.length p.2.p.2), (19, true, .int .i64 (p.1.params.length : Int)), (20, true, .int .i64 (j : Int))])
   (fun j => Cls [blk b5 41 [.slice p.2.p.1 p.1.params.length p.2.p.2, .slice p.2.i.1 p.1.ins.length p.2.i.2, .int .i64 p.1.term.kind, .int .i64 p.1.term.arg, .int .i64 p.1.term.n, .slice p.2.t.c.1 p.1.term.cases.length p.2.t.c.2, .slice p.2.t.t.1 p.1.term.to_.length p.2.t.t.2], blk bn 3 [.int .i64 ((p.1.params.take j).foldl wmax z0)]] S) 0 (by omega) (by exact Sub.au) (fun w' hw' => hw') ?_
  rintro j hj
  refine zgs ?_
  refine W.cnd ?_ ?_ <;> intro hlt1 <;> try exact zwx hlt1
  ·obtain ⟨av, v, hqv, habv, hv, hcv⟩ := hok.p.get (show j < p.1.params.length by omega)
   have habv : av.block < s0.heap.size := habv
   have hn1 : (p.1.params.take (j + 1)).foldl wmax z0 = wmax ((p.1.params.take j).foldl wmax z0) v := by
    rw [List.take_add_one, hv, Option.toList_some, List.foldl_append]
    rfl
   rw [hqv]
   refine zgs ?_
   refine OL.callvE (α := Unit) (first := []) (cap := [.pointer (some ⟨bn, 0, none⟩)]) (vs := [.int .i64 v]) (fun _ => .tuple #[]) (fun _ => True) (fun _ => Cls [blk b5 41 [.slice (some av) p.1.params.length p.2.p.2, .slice p.2.i.1 p.1.ins.length p.2.i.2, .int .i64 p.1.term.kind, .int .i64 p.1.term.arg, .int .i64 p.1.term.n, .slice p.2.t.c.1 p.1.term.cases.length p.2.t.c.2, .slice p.2.t.t.1 p.1.term.to_.length p.2.t.t.2], blk bn 3 [.int .i64 (wmax ((p.1.params.take j).foldl wmax z0) v)]] S) rfl rfl rfl (by exact Args.au) (fun w2 hw2 => (hFr _ v _ _ w2 hw2.flip).mono fun e w3 h => ⟨(), h.1, trivial, h.2.flip⟩) ?_
   intro _ _
   refine zgs ?_
   exact At.again (j + 1) (by omega) (by omega) (by exact Sub.au) (fun w' hw' => by simp only [hn1]; exact hw')
  obtain rfl : j = p.1.params.length := by omega
  rw [List.take_length]
  generalize p.1.params.foldl wmax z0 = z1 at *
  refine zgs ?_
  refine W.loop (G := Nat) (fun j => j ≤ pi.length) (fun j => pi.length - j)
   (fun j => [(1, true, .func (.func 82) ([] : List Value).toArray [.pointer (some ⟨bn, 0, none⟩)].toArray), (11, true, .slice (some a) es.length cap), (12, true, .int .i64 (es.length : Int)), (13, true, .int .i64 (k : Int)), (29, true, .slice p.2.i.1 pi.length p.2.i.2), (30, true, .int .i64 (pi.length : Int)), (31, true, .int .i64 (j : Int))])
   (fun j => Cls [blk bn 3 [.int .i64 (((p.1.ins.map In.to_).take j).foldl wmax z1)]] S) 0 (by omega) (by rw [← hpil]; exact Sub.au) (fun w' hw' => hw'.thin (.any (fun k hk => by rw [show k = b5 from hk]; exact hb51) Thin.same)) ?_
  rintro j hj
  refine zgs ?_
  refine W.cnd ?_ ?_ <;> intro hlt2 <;> try exact zwx hlt2
  ·obtain ⟨ai, u, hqi, haib, hu, hcu, hoku⟩ := hiarr.get (show j < pi.length by omega)
   have haib : ai.block < s0.heap.size := haib
   have hcu : CellsAt s0 (ai.add (j * 4)) [.int .i64 u.1.to_, .int .i64 u.1.op, .int .i64 u.1.n, .slice u.2.1 u.1.args.length u.2.2] := hcu
   have hui : (p.1.ins.map In.to_)[j]? = some u.1.to_ := by rw [← hpi]; simp [hu]
   have hn1 : ((p.1.ins.map In.to_).take (j + 1)).foldl wmax z1 = wmax (((p.1.ins.map In.to_).take j).foldl wmax z1) u.1.to_ := by
    rw [List.take_add_one, hui, Option.toList_some, List.foldl_append]
    rfl
   rw [hqi]
   refine zgs ?_
   apply OL.alloc; rfl; rfl; exact CellsL.agg; (intro bk hbk; have hbk0 := hbk.mem s0 hs0)
   refine zgs ?_
   have hb9 : AllLe S bk := by first | exact hbk | exact hbk.1
   refine OL.callvE (α := Unit) (first := []) (cap := [.pointer (some ⟨bn, 0, none⟩)]) (vs := [.int .i64 u.1.to_]) (fun _ => .tuple #[]) (fun _ => True) (fun _ => Cls [blk bk 85 [.int .i64 u.1.to_, .int .i64 u.1.op, .int .i64 u.1.n, .slice u.2.1 u.1.args.length u.2.2], blk bn 3 [.int .i64 (wmax (((p.1.ins.map In.to_).take j).foldl wmax z1) u.1.to_)]] S) rfl rfl rfl (by exact Args.au) (fun w2 hw2 => (hFr _ u.1.to_ _ _ w2 hw2.flip).mono fun e w3 h => ⟨(), h.1, trivial, h.2.flip⟩) ?_
   intro _ _
   refine zgs ?_
   exact At.again (j + 1) (by omega) (by omega) (by exact Sub.au) (fun w' hw' => by simp only [hn1]; exact hw'.thin (.any (fun k hk => by rw [show k = bk from hk]; exact hb9) Thin.same))
  obtain rfl : j = pi.length := by omega
  rw [show (p.1.ins.map In.to_).take pi.length = p.1.ins.map In.to_ by rw [List.take_of_length_le]; simp [hpil]]
  rw [← hnx]
  refine zgs ?_
  exact At.again (k + 1) (by omega) (by omega) (by exact Sub.au) (fun w' hw' => hw')
 obtain rfl : k = es.length := by omega
 rw [← hbl, List.take_length]
 refine zgs ?_
 exact At.end_ (At.fin0 rfl (fun w' hw' => ⟨rfl, hw'⟩))
theorem SFresh_calls (es : List (Bk × BkY)) (q : Option Addr) (cap : Nat) (nm : Int) (w : World) (he : Arr bkR w (low w) es q) (hlen : es.length ≤ 140737488355328) :
  Calls Try.prog 31 [.agg #[.int .i64 nm, .slice q es.length cap]].toArray w fun e w' => e = .returned (.int .i64 (freshF (es.map Prod.fst))) ∧ Ext w w' := by
 refine enter Try.func31 rfl Try.ntmps31 rfl (Cls.start w) (zen ?_)
 apply W.sr
 apply OL.box; rfl; rfl; exact CellsL.agg; (intro bk hbk; simp only [AllLe, and_true] at hbk)
 refine zgs ?_
 apply OL.alloc; rfl; rfl; exact CellsL.one rfl; (intro bk hbk; simp only [AllLe, and_true] at hbk)
 refine zgs ?_
 have hbn : w.heap.size ≤ bk := by first | exact hbk | exact hbk.1
 refine OL.callE (α := Unit) (fun _ => .tuple #[]) (fun _ => True) (fun _ => Cls [blk bk 3 [.int .i64 (freshF (es.map Prod.fst))]] [w]) rfl rfl (by exact Args.au) (fun w2 hw2 => (values_calls bk es q cap nm w he hlen [w] (.head _) hbn w2 (hw2.thin (.keep (.any (fun k hk => by rw [show k = _ from hk]; exact ⟨by assumption, trivial⟩) Thin.nil)))).mono fun e w3 h => ⟨(), h.1, trivial, h.2⟩) ?_
 intro _ _
 refine zgs ?_
 (refine zfn ?_; intro w' hw')
 exact ⟨rfl, (hw'.thin (.any (fun k hk => by rw [show k = bk from hk]; exact ⟨hbn, trivial⟩) Thin.nil)).fr (by exact mau) (fun k hk => NotOwned.nil)⟩
end Go.Proofs.Ytehelljmaiophaa.ss

/- The walk of the law's ssaWorks. Conditions: none. -/
namespace Go.Eng
open Go.RowKit
section
variable {P : Program} {n : Nat} {Q : Exit → Act → World → Prop} {l : Env} {C : World → Prop}
theorem OL.frz {ops : Array Oper} {rest : List Oper} {C' : World → World → Prop} (hc : ∀ w0, C w0 → C' w0 w0) (h : ∀ w0, C w0 → OL P n ops Q rest l (C' w0)) : OL P n ops Q rest l C := ⟨fun a w s c => (h w c).run a w s (hc w c)⟩
end
end Go.Eng
namespace Go.Proofs.Ytehelljmaiophaa.ss
set_option maxRecDepth 100000
open Go.Eng Go.RowKit Go.Ss
theorem ssaWorks_calls (w : World) : Calls Try.prog 22 #[] w fun e w' => e = .returned (.bool true) ∧ Ext w w' := by
 refine enter Try.func22 rfl Try.ntmps22 rfl (Cls.start w) (zen ?_)
 refine zgs ?_
 refine OL.callE (α := (FnY × Option Addr × Nat) × World) (fun z => .agg #[.slice z.1.2.1 1 z.1.2.2, .int .i64 0]) (fun z => Arr fnR z.2 (low z.2) [(twoF, z.1.1)] z.1.2.1) (fun z => Cls [] [z.2, w]) rfl rfl (by exact Args.au) (fun w2 hw2 => (two_calls w2).mono fun e w3 ⟨y, q, c, h1, h2, h3⟩ => ⟨((y, q, c), w3), h1, h3, (hw2.ext h2).note⟩) ?_
 rintro ⟨⟨y1, q1, c1⟩, w1⟩ hu1
 simp only at hu1 ⊢
 skip
 refine OL.callE (α := (Option Addr × Nat) × World) (fun z => .tuple #[.agg #[.slice z.1.1 1 z.1.2, .int .i64 0, .int .i64 5], .int .i64 4, .int .i64 0]) (fun z => IntsO z.2 (low z.2) [7] z.1.1) (fun z => Cls [] [z.2, w]) rfl rfl (by exact Args.au) (fun w2 hw2 => (Run_calls [(twoF, y1)] q1 c1 0 4 (by decide) (by simp) (by simp [I64]) w2 (hu1.at hw2 (by exact mau) (fun k hk => NotOwned.nil))).mono fun e w3 h => ?_) ?_
 ·rcases h with ⟨h1, _⟩ | ⟨_, h1, _⟩ | ⟨_, _, f, h1, h2⟩
  ·exact absurd two_unit h1
  ·exact absurd h1 (by decide)
  ·obtain rfl := two_run4 h1
   obtain ⟨O, q, c, h3, h4⟩ := h2
   exact ⟨((q, c), w3), h3, rowIntsL h4 (.head _), ((hw2.ext ((h4.thin (.any (fun k hk => ⟨hk.1, trivial⟩) Thin.nil)).fr (by exact mau) (fun k hk => NotOwned.nil))).forget (by simp)).note⟩
 rintro ⟨⟨q2, c2⟩, w2⟩ hI2
 simp only at hI2 ⊢
 refine zgs ?_
 apply OL.alloc; rfl; rfl; exact CellsL.agg; (intro bk hbk; simp only [AllLe, and_true] at hbk)
 refine zgs ?_
 revert bk
 intro bR hbR
 have hbR2 : w2.heap.size ≤ bR := by first | exact hbR.1 | exact hbR
 have hbRw : w.heap.size ≤ bR := by first | exact hbR.2.1 | exact hbR.2 | omega
 refine OL.frz (C' := fun w0 w' => Cls [] [w0, w2, w] w') (fun w0 hc0 => (hc0.thin (.any (fun k hk => by rw [show k = bR from hk]; exact ⟨hbR2, hbRw, trivial⟩) Thin.nil)).note) ?_
 intro wF hcF
 have hcR : CellsAt wF ⟨bR, 0, none⟩ [.slice q2 1 c2, .int .i64 0, .int .i64 5] := fun j v hj => by rw [add_mid, blk_cell (hcF.item (.head _)), Nat.zero_add]; exact hj
 have hbF : bR < wF.heap.size := blk_lt (hcF.item (.head _))
 have hIF : IntsO wF (low wF) [7] q2 := hI2.at hcF (.head _) (fun k hk => NotOwned.blk (by omega) NotOwned.nil)
 clear hcF
 refine OL.callE (α := (FnY × Option Addr × Nat) × World) (fun z => .agg #[.slice z.1.2.1 1 z.1.2.2, .int .i64 0]) (fun z => Arr fnR z.2 (low z.2) [(twoF, z.1.1)] z.1.2.1) (fun z => Cls [] [z.2, wF, w]) rfl rfl (by exact Args.au) (fun w3 hw3 => (two_calls w3).mono fun e w4 ⟨y, q, c, h1, h2, h3⟩ => ⟨((y, q, c), w4), h1, h3, ((hw3.ext h2).forget (by simp)).note⟩) ?_
 rintro ⟨⟨y3, q3, c3⟩, w3⟩ hu3
 simp only at hu3 ⊢
 skip
 refine OL.callE (α := Unit) (fun z => .tuple #[.agg #[.slice none 0 0, .int .i64 0, .int .i64 0], .int .i64 0, .int .i64 13]) (fun z => True) (fun z => Cls [] [wF, w]) rfl rfl (by exact Args.au) (fun w4 hw4 => (Run_calls [(twoF, y3)] q3 c3 0 3 (by decide) (by simp) (by simp [I64]) w4 (hu3.at hw4 (by exact mau) (fun k hk => NotOwned.nil))).mono fun e w5 h => ?_) ?_
 ·rcases h with ⟨h1, _⟩ | ⟨_, h1, _⟩ | ⟨_, _, f, h1, h2⟩
  ·exact absurd two_unit h1
  ·exact absurd h1 (by decide)
  ·obtain rfl := two_run3 h1
   exact ⟨(), h2.1, trivial, (hw4.ext (h2.2.fr (by exact mau) (fun k hk => NotOwned.nil))).forget (by simp)⟩
 intro _ _
 refine zgs ?_
 apply OL.alloc; rfl; rfl; exact CellsL.agg; (intro bk hbk; simp only [AllLe, and_true] at hbk)
 refine zgs ?_
 ((apply OL.ungate); (exact Guard.au); (decide))
 apply OL.buildSlice; rfl; rfl; rfl; exact Elems.au; rfl; rfl; (intro bk hbk; simp only [AllLe, and_true] at hbk)
 refine zgs ?_
 rename_i b4 hb4
 revert bk
 intro b27 hb27
 have hb271 : wF.heap.size ≤ b27 := by first | exact hb27.1 | exact hb27 | omega
 have hb41 : wF.heap.size ≤ b4 := by first | exact hb4.1 | exact hb4 | omega
 (((first | apply OL.op | apply QL.op); exact Guard.au; rfl; rfl); (exact Pev.call (v := .bool true) rfl (by exact Args.au) (fun _ w5 hw5 => (SameResult_calls q2 (some ⟨b27, 0, none⟩) c2 1 [7] [7] 0 5 0 5 w5 (by simp) (by simp) (hIF.at hw5 (by exact mau) (fun k hk => by exact NotOwned.au)) (blkInts (hw5.item (.head _)))).mono (fun e w6 h => ⟨by rw [h.1]; rfl, hw5.ext h.2⟩))))
 refine zgs ?_
 (((first | apply OL.op | apply QL.op); exact Guard.au; rfl; rfl); (exact Pev.call (v := .int .i64 3) rfl (by exact Args.au) (fun _ w5 hw5 => (Check_calls [] none 0 0 w5 Arr.nil (by simp) (by simp [I64])).mono (fun e w6 h => ⟨by rw [h.1]; rfl, hw5.ext h.2⟩))))
 refine zgs ?_
 ((apply OL.ungate); (exact Guard.au); (decide))
 refine OL.callE (α := (FnY × Option Addr × Nat) × World) (fun z => .agg #[.slice z.1.2.1 1 z.1.2.2, .int .i64 0]) (fun z => Arr fnR z.2 (low z.2) [(twoF, z.1.1)] z.1.2.1) (fun z => Cls [] [z.2, w]) rfl rfl (by exact Args.au) (fun w5 hw5 => (two_calls w5).mono fun e w6 ⟨y, q, c, h1, h2, h3⟩ => ⟨((y, q, c), w6), h1, h3, (((hw5.ext h2).thin (.any (fun k hk => by rw [show k = b27 from hk]; exact ⟨hb271, by first | exact hb27.2 | exact ⟨hb27.2, trivial⟩⟩) (.any (fun k hk => by rw [show k = b4 from hk]; exact ⟨hb41, by first | exact hb4.2 | exact ⟨hb4.2, trivial⟩⟩) Thin.nil))).forget (by simp)).note⟩) ?_
 rintro ⟨⟨y6, q6, c6⟩, w6⟩ hu6
 dsimp only at hu6 ⊢
 refine zgs ?_
 obtain ⟨a, x, hqa, hab, hx, hcF, hok⟩ := hu6.get (show 0 < [(twoF, y6)].length by simp)
 obtain rfl := Option.some.inj hx
 have hab : a.block < w6.heap.size := hab
 have hcF : CellsAt w6 (a.add (0 * 2)) [.int .i64 (-1), .slice y6.q 1 y6.c] := hcF
 have hbb : ArrP bkR w6 (low w6) twoF.blocks y6.q := hok.b
 obtain ⟨es, hes, he⟩ := hbb
 have hel : es.length = 1 := by rw [← List.length_map (f := Prod.fst), hes]; rfl
 rw [hqa]
 ((apply OL.ungate); (exact Guard.au); (decide))
 refine zgs ?_
 have hFr : ∀ (H : List Eng.Item) (S : List World) (w7 : World), Cls H S w7 → w6 ∈ S → (∀ k, k < w6.heap.size → NotOwned H k) → Calls Try.prog 31 [.agg #[.int .i64 (-1), .slice y6.q 1 y6.c]].toArray w7 fun e w' => e = .returned (.int .i64 4) ∧ Ext w7 w' := fun H S w7 h7 hs hno => by
  have h := SFresh_calls es y6.q y6.c (-1) w7 (he.at h7 hs hno) (by omega)
  rw [hel, hes, two_fresh] at h
  exact h
 (((first | apply OL.op | apply QL.op); exact Guard.au; rfl; rfl); (exact Pev.call (v := .int .i64 4) rfl (by exact Args.au) (fun _ w7 hw7 => (hFr _ _ w7 hw7 (by exact mau) (fun k hk => NotOwned.nil)).mono (fun e w8 h => ⟨h.1, hw7.ext h.2⟩))))
 refine zgs ?_
 (refine zfn ?_; intro w' hw')
 exact ⟨rfl, hw'.fr (by exact mau) (fun k hk => NotOwned.nil)⟩
end Go.Proofs.Ytehelljmaiophaa.ss

/- The walks of slices.ContainsFunc at functions and at ints, and of the law's small and vast. Conditions: none. -/
namespace Go.Ss
open Go.Eng Go.RowKit
end Go.Ss
namespace Go.Proofs.Ytehelljmaiophaa.ss
set_option maxRecDepth 100000
open Go.Eng Go.RowKit Go.Ss
theorem small_calls (fns : List (Go.Ss.Fn × FnY)) (q : Option Addr) (c : Nat) (main : Int) (w : World) (hu : Arr fnR w (low w) fns q) (hl6 : fns.length ≤ 140737488355328) :
  Calls Try.prog 23 [.agg #[.slice q fns.length c, .int .i64 main]].toArray w fun e w' => ∃ b : Bool, e = .returned (.bool b) ∧ (b = true → fns.length ≤ 8 ∧ ∀ p ∈ fns, p.1.blocks.length ≤ 40 ∧ freshF p.1.blocks ≤ 300) ∧ Ext w w' := by
 refine enter Try.func23 rfl Try.ntmps23 rfl (Cls.start w) (zen ?_)
 apply W.sr
 apply OL.box; rfl; rfl; exact CellsL.agg; (intro bk hbk; simp only [AllLe, and_true] at hbk)
 refine zgs ?_
 revert hbk
 revert bk
 intro bU hbU
 have hbU' : w.heap.size ≤ bU := hbU
 refine W.loop (G := Nat) (fun k => k ≤ fns.length ∧ ∀ (j : Nat) p, j < k → fns[j]? = some p → p.1.blocks.length ≤ 40 ∧ freshF p.1.blocks ≤ 300) (fun k => fns.length - k)
  (fun k => [(1, true, .pointer (some ⟨bU, 0, none⟩)), (6, true, .slice q fns.length c), (7, true, .int .i64 (fns.length : Int)), (8, true, .int .i64 (k : Int))])
  (fun _ => Cls [blk bU 55 [.slice q fns.length c, .int .i64 main]] [w]) 0 ⟨by omega, fun j p h => by omega⟩ (by exact Sub.au) (fun w' hw' => hw') ?_
 rintro k ⟨hk, hkE⟩
 refine zgs ?_
 refine W.cnd ?_ ?_ <;> intro hlt <;> try exact zwx hlt
 ·have hkl : k < fns.length := by omega
  obtain ⟨a, x, hqa, hab, hx, hcF, hok⟩ := hu.get hkl
  have hab : a.block < w.heap.size := hab
  have hcF : CellsAt w (a.add (k * 2)) [.int .i64 x.1.name, .slice x.2.q x.1.blocks.length x.2.c] := hcF
  have hok : FnOk w (low w) x.1 x.2 := hok
  obtain ⟨es, hes, he⟩ := hok.b
  have hel : x.1.blocks.length = es.length := by rw [← hes, List.length_map]
  have hbl := hok.bl
  rw [hel] at hcF
  rw [hqa]
  refine zgs ?_
  apply OL.alloc; rfl; rfl; exact CellsL.agg; (intro bk hbk; simp only [AllLe, and_true] at hbk)
  refine zgs ?_
  (((first | apply OL.op | apply QL.op); exact Guard.au; rfl; rfl); (exact Pev.call (v := .int .i64 (freshF x.1.blocks)) rfl (by exact Args.au) (fun _ w2 hw2 => (Fresh_calls es x.2.q x.2.c x.1.name w2 (he.at hw2 (by exact mau) (fun k hk => by exact NotOwned.au)) (by omega)).mono (fun e w3 h => ⟨by rw [h.1, hes], hw2.ext h.2⟩))))
  refine zgs ?_
  refine W.cond rfl (fun h => ?_) (fun h => ?_)
  ·refine zgs ?_
   (refine zfn ?_; intro w' hw')
   exact ⟨false, rfl, (fun h => absurd h (by decide)), by (exact hw'.fr)⟩
  ·have hs : x.1.blocks.length ≤ 40 ∧ freshF x.1.blocks ≤ 300 := by
    simp at h
    omega
   refine zgs ?_
   exact At.again (k + 1) ⟨by omega, fun j p hj hp => by
    by_cases e : j = k
    ·subst e
     rw [hx] at hp
     obtain rfl := Option.some.inj hp
     exact hs
    ·exact hkE j p (by omega) hp⟩ (by omega) (by exact Sub.au) (fun w' hw' => hw'.thin (by exact Thin.au))
 obtain rfl : k = fns.length := by omega
 refine zgs ?_
 (refine zfn ?_; intro w' hw')
 refine ⟨_, rfl, fun h => ⟨by have := of_decide_eq_true h; omega, fun p hp => ?_⟩, by (exact hw'.fr)⟩
 obtain ⟨j, hj, hjp⟩ := List.mem_iff_getElem.1 hp
 exact hkE j p hj (by rw [← hjp]; exact List.getElem?_eq_getElem hj)
end Go.Proofs.Ytehelljmaiophaa.ss

/- The walk of the law SsaRuns. Conditions: none. -/
namespace Go.Proofs.Ytehelljmaiophaa.ss
set_option maxRecDepth 100000
open Go.Eng Go.RowKit Go.Ss
structure RV where
 out : List Int
 q : Option Addr
 c : Nat
 en : Int
 va : Int
 st : Int
def RV.v (z : RV) : Value := .agg #[.slice z.q z.out.length z.c, .int .i64 z.en, .int .i64 z.va]
def rv0 : RV := ⟨[], none, 0, 0, 0, 0⟩
def RunS (fs : List Go.Ss.Fn) (main fuel : Int) (z : RV) (er : Int) : Prop :=
 (z = rv0 ∧ (unitE fs main ≠ 0 ∧ er = unitE fs main ∨ unitE fs main = 0 ∧ fuel < 1 ∧ er = 4)) ∨
 (unitE fs main = 0 ∧ 1 ≤ fuel ∧ z = rv0 ∧ er = 13 ∧ Go.Ss.Ends fs (m0 fs main fuel.toNat) .short) ∨
 (unitE fs main = 0 ∧ 1 ≤ fuel ∧ er = 0 ∧ ∃ left : Nat, z.st = fuel - (left : Int) ∧ Go.Ss.Ends fs (m0 fs main fuel.toNat) (.done z.en z.va z.out left))
def RunT (fs : List Go.Ss.Fn) (main fuel : Int) (z : RV) (is : Bool) : Prop :=
 (z = rv0 ∧ is = false ∧ Go.Ss.Ends fs (m0 fs main fuel.toNat) .short) ∨
 (is = true ∧ ∃ left : Nat, z.st = fuel - (left : Int) ∧ Go.Ss.Ends fs (m0 fs main fuel.toNat) (.done z.en z.va z.out left))
theorem row_len {w : World} {base m cap size : Nat} {O : Nat → Prop} {q : Option Addr} {e : TypeId} {xs : List Value} (h : (row base O q m cap e size xs).holds w) : m ≤ 9223372036854775807 := by
 rcases h.2.2 with ⟨_, h2⟩ | ⟨g, cap', cur, h3, _, _, h4, h5, _⟩
 ·omega
 ·simp only [Value.slice.injEq] at h3
  obtain ⟨_, _, rfl⟩ := h3
  exact Nat.le_trans h4 h5
theorem run_inn {H : List Eng.Item} {S : List World} {w2 w3 : World} {q : Option Addr} {c : Nat} {out : List Int} {O : Nat → Prop} (h : Cls H S w2) (h4 : Cls [row w2.heap.size O q out.length c 3 1 (ints out)] [w2] w3) : IntsO w3 (low w3) out q ∧ out.length ≤ 9223372036854775807 ∧ Cls H S w3 :=
 ⟨rowIntsL h4 (.head _), row_len (h4.item (.head _)), h.ext ((h4.thin (.any (fun k hk => ⟨hk.1, trivial⟩) Thin.nil)).fr (by exact mau) (fun k hk => NotOwned.nil))⟩
theorem rrun_out {H : List Eng.Item} {S : List World} {fs : List Go.Ss.Fn} {main fu : Int} {w2 w3 : World} {e : Ending} (hw2 : Cls H S w2) (h : ∃ f, Go.Ss.Ends fs (m0 fs main fu.toNat) f ∧ ∃ O q' c', e = .returned (rrunV fu f q' c') ∧ Cls (perfI w2.heap.size f O q' c') [w2] w3) :
  ∃ z : (RV × Bool) × World, e = .returned (.tuple #[z.1.1.v, .int .i64 z.1.1.st, .bool z.1.2]) ∧ (RunT fs main fu z.1.1 z.1.2 ∧ IntsO z.2 (low z.2) z.1.1.out z.1.1.q ∧ z.1.1.out.length ≤ 9223372036854775807) ∧ Cls H (z.2 :: S) w3 := by
 obtain ⟨f, h1, O, q', c', h2, h3⟩ := h
 cases f with
 | short => exact ⟨((rv0, false), w3), h2, ⟨.inl ⟨rfl, rfl, h1⟩, IntsO.nil, Nat.zero_le _⟩, (hw2.ext (h3.fr (by exact mau) (fun k hk => NotOwned.nil))).note⟩
 | done en va out left =>
  obtain ⟨h6, h8, h7⟩ := run_inn hw2 h3
  exact ⟨((⟨out, q', c', en, va, fu - left⟩, true), w3), h2, ⟨.inr ⟨rfl, left, rfl, h1⟩, h6, h8⟩, h7.note⟩
theorem ssaRuns_law (fns : List (Go.Ss.Fn × FnY)) (q : Option Addr) (c : Nat) (main fuel : Int) (w : World) (hu : Arr fnR w (low w) fns q) (hl6 : fns.length ≤ 140737488355328) (hm : I64 main) :
  Calls Try.prog 5 [.agg #[.slice q fns.length c, .int .i64 main], .int .i64 fuel].toArray w fun e w' => e = .returned (.bool true) ∧ Ext w w' := by
 refine enter Try.func5 rfl Try.ntmps5 rfl (Cls.start w) (zen ?_)
 apply W.sr
 apply OL.box; rfl; rfl; exact CellsL.agg; (intro bk hbk; simp only [AllLe, and_true] at hbk)
 refine zgs ?_
 revert hbk
 revert bk
 intro bU hbU
 have hbU' : w.heap.size ≤ bU := hbU
 refine OL.frz (C' := fun w0 w' => Cls [] [w0, w] w') (fun w0 hc0 => (hc0.thin (.any (fun k hk => by rw [show k = bU from hk]; exact ⟨hbU', trivial⟩) Thin.nil)).note) ?_
 intro wF hcF
 have hcU : CellsAt wF ⟨bU, 0, none⟩ [.slice q fns.length c, .int .i64 main] := fun j v hj => by rw [add_mid, blk_cell (hcF.item (.head _)), Nat.zero_add]; exact hj
 have hbF : bU < wF.heap.size := blk_lt (hcF.item (.head _))
 have huF : Arr fnR wF (low wF) fns q := hu.at hcF (.head _) (fun k hk => NotOwned.blk (by omega) NotOwned.nil)
 clear hcF
 (((first | apply OL.op | apply QL.op); exact Guard.au; rfl; rfl); (exact Pev.call (v := .bool true) rfl (by exact Args.au) (fun _ w2 hw2 => (ssaWorks_calls w2).mono (fun e w3 h => ⟨h.1, hw2.ext h.2⟩))))
 refine zgs ?_
 refine W.cond rfl (fun h => absurd h (by decide)) (fun _ => ?_)
 refine zgs ?_
 refine OL.callE (α := Bool) (fun b => .bool b) (fun b => True) (fun _ => Cls [] [wF, w]) rfl rfl (by exact Args.au) (fun w2 hw2 => (small_calls fns q c main w2 (huF.at hw2 (by exact mau) (fun k hk => NotOwned.nil)) hl6).mono fun e w3 ⟨b, h1, h2, h3⟩ => ⟨b, h1, trivial, hw2.ext h3⟩) ?_
 intro b _
 cases b with
 | false =>
  refine zgs ?_
  refine W.cond rfl (fun _ => ?_) (fun h => absurd h (by decide))
  refine zgs ?_
  (refine zfn ?_; intro w' hw')
  exact ⟨rfl, hw'.fr (by exact mau) (fun k hk => NotOwned.nil)⟩
 | true =>
  refine zgs ?_
  refine W.cond rfl (fun h => absurd h (by decide)) (fun _ => ?_)
  refine zgs ?_
  refine W.joinx (G := Int) (fun fu => fu ≤ 1500) (fun fu => [(1, true, .int .i64 fu), (2, true, .pointer (some ⟨bU, 0, none⟩))]) (fun _ => Cls [] [wF, w]) ?_ ?_
  ·refine W.cnd ?_ ?_ <;> intro hf0 <;> try exact zwx hf0
   ·refine zgs ?_
    exact At.joinedx (1 + fuel % 1500) (by omega) (by exact Sub.au) (fun w' hw' => hw')
   ·apply W.skip
    exact At.joinedx fuel (by omega) (by exact Sub.au) (fun w' hw' => hw')
  intro fu hfu
  refine zgs ?_
  refine OL.callE (α := (RV × Int) × World) (fun z => .tuple #[z.1.1.v, .int .i64 z.1.1.st, .int .i64 z.1.2]) (fun z => RunS (fns.map Prod.fst) main fu z.1.1 z.1.2 ∧ IntsO z.2 (low z.2) z.1.1.out z.1.1.q ∧ z.1.1.out.length ≤ 9223372036854775807) (fun z => Cls [] [z.2, wF, w]) rfl rfl (by exact Args.au) (fun w2 hw2 => (Run_calls fns q c main fu (by omega) hl6 hm w2 (huF.at hw2 (by exact mau) (fun k hk => NotOwned.nil))).mono fun e w3 h => ?_) ?_
  ·rcases h with ⟨h1, h2, h3⟩ | ⟨h0, h1, h2, h3⟩ | ⟨h0, h1, f, h2, h3⟩
   ·exact ⟨((rv0, unitE (fns.map Prod.fst) main), w3), h2, ⟨.inl ⟨rfl, .inl ⟨h1, rfl⟩⟩, IntsO.nil, Nat.zero_le _⟩, (hw2.ext (h3.fr (by exact mau) (fun k hk => NotOwned.nil))).note⟩
   ·exact ⟨((rv0, 4), w3), h2, ⟨.inl ⟨rfl, .inr ⟨h0, h1, rfl⟩⟩, IntsO.nil, Nat.zero_le _⟩, (hw2.ext (h3.fr (by exact mau) (fun k hk => NotOwned.nil))).note⟩
   ·cases f with
    | short => exact ⟨((rv0, 13), w3), h3.1, ⟨.inr (.inl ⟨h0, h1, rfl, rfl, h2⟩), IntsO.nil, Nat.zero_le _⟩, (hw2.ext (h3.2.fr (by exact mau) (fun k hk => NotOwned.nil))).note⟩
    | done en va out left =>
     obtain ⟨O, q', c', h4, h5⟩ := h3
     obtain ⟨h6, h8, h7⟩ := run_inn hw2 h5
     exact ⟨((⟨out, q', c', en, va, fu - left⟩, 0), w3), h4, ⟨.inr (.inr ⟨h0, h1, rfl, left, rfl, h2⟩), h6, h8⟩, h7.note⟩
  rintro ⟨⟨⟨o1, q1, c1, en1, va1, st1⟩, er⟩, w1⟩ ⟨hR1, hI1, hl1⟩
  simp only [RV.v] at hR1 hI1 hl1 ⊢
  refine zgs ?_
  apply OL.alloc; rfl; rfl; exact CellsL.agg; (intro bk hbk; simp only [AllLe, and_true] at hbk)
  refine zgs ?_
  revert hbk
  revert bk
  intro b5 hb5
  have hb51 : w1.heap.size ≤ b5 := by first | exact hb5.1 | exact hb5
  have hb5F : wF.heap.size ≤ b5 := by first | exact hb5.2.1 | exact hb5.2 | omega
  have hb5w : w.heap.size ≤ b5 := by first | exact hb5.2.2.1 | exact hb5.2.2 | omega
  clear hb5
  refine OL.frz (C' := fun w0 w' => Cls [] [w0, w1, wF, w] w') (fun w0 hc0 => (hc0.thin (.any (fun k hk => by rw [show k = b5 from hk]; exact ⟨hb51, hb5F, hb5w, trivial⟩) Thin.nil)).note) ?_
  intro w5 hc5
  have hcR : CellsAt w5 ⟨b5, 0, none⟩ [.slice q1 o1.length c1, .int .i64 en1, .int .i64 va1] := fun j v hj => by rw [add_mid, blk_cell (hc5.item (.head _)), Nat.zero_add]; exact hj
  have hb5l : b5 < w5.heap.size := blk_lt (hc5.item (.head _))
  clear hc5
  obtain ⟨u, hun⟩ : ∃ u, unitE (fns.map Prod.fst) main = u := ⟨_, rfl⟩
  (((first | apply OL.op | apply QL.op); exact Guard.au; rfl; rfl); (exact Pev.call (v := .int .i64 u) rfl (by exact Args.au) (fun _ w2 hw2 => (UnitErr_calls fns q c main w2 (huF.at hw2 (by exact mau) (fun k hk => NotOwned.nil)) hl6 hm).mono (fun e w3 h => ⟨by rw [h.1, hun], hw2.ext h.2⟩))))
  refine zgs ?_
  unfold RunS at hR1
  rw [hun] at hR1
  rcases hR1 with ⟨hz, hE⟩ | ⟨h0, h1, hz, her, hEnd⟩ | ⟨h0, h1, her, left, hst, hEnd⟩
  ·simp only [rv0, RV.mk.injEq] at hz
   obtain ⟨rfl, rfl, rfl, rfl, rfl, rfl⟩ := hz
   refine W.cond rfl (fun _ => ?_) (fun hh => by (try simp at hh); (try omega))
   rcases hE with ⟨hu0, rfl⟩ | ⟨rfl, hlt, rfl⟩
   ·refine zgs ?_
    refine W.cond rfl (fun hh => absurd (by simp at hh) hu0) (fun _ => ?_)
    refine zgs ?_
    rw [decide_eq_true (rfl : er = er)]
    refine zgs ?_
    (((first | apply OL.op | apply QL.op); exact Guard.au; rfl; rfl); (exact Pev.call (v := .bool true) rfl (by exact Args.au) (fun _ w2 hw2 => (SameResult_calls none none 0 0 [] [] 0 0 0 0 w2 (by simp) (by simp) IntsO.nil IntsO.nil).mono (fun e w3 h => ⟨by rw [h.1]; rfl, hw2.ext h.2⟩))))
    refine zgs ?_
    (refine zfn ?_; intro w' hw')
    exact ⟨rfl, hw'.toExt (by exact mau) (fun k hk => by exact NotOwned.au)⟩
   ·refine zgs ?_
    refine W.cond rfl (fun _ => ?_) (fun hh => absurd hh (by decide))
    refine zgs ?_
    (((first | apply OL.op | apply QL.op); exact Guard.au; rfl; rfl); (exact Pev.call (v := .bool true) rfl (by exact Args.au) (fun _ w2 hw2 => (SameResult_calls none none 0 0 [] [] 0 0 0 0 w2 (by simp) (by simp) IntsO.nil IntsO.nil).mono (fun e w3 h => ⟨by rw [h.1]; rfl, hw2.ext h.2⟩))))
    refine zgs ?_
    (refine zfn ?_; intro w' hw')
    exact ⟨rfl, hw'.toExt (by exact mau) (fun k hk => by exact NotOwned.au)⟩
  ·subst h0
   simp only [rv0, RV.mk.injEq] at hz
   obtain ⟨rfl, rfl, rfl, rfl, rfl, rfl⟩ := hz
   subst her
   refine W.cond rfl (fun hh => by simp at hh <;> omega) (fun _ => ?_)
   refine zgs ?_
   refine OL.callE (α := (RV × Bool) × World) (fun z => .tuple #[z.1.1.v, .int .i64 z.1.1.st, .bool z.1.2]) (fun z => RunT (fns.map Prod.fst) main fu z.1.1 z.1.2 ∧ IntsO z.2 (low z.2) z.1.1.out z.1.1.q ∧ z.1.1.out.length ≤ 9223372036854775807) (fun z => Cls [] [z.2, w5, w1, wF, w]) rfl rfl (by exact Args.au) (fun w2 hw2 => (RRun_calls fns q c main fu h1 (by omega) hun w2 (huF.at hw2 (by exact mau) (fun k hk => NotOwned.nil))).mono fun e w3 h => rrun_out hw2 h) ?_
   rintro ⟨⟨⟨o2, q2, c2, en2, va2, st2⟩, is⟩, w2⟩ ⟨hR2, hI2, hl2⟩
   simp only [RV.v] at hR2 hI2 ⊢
   rcases hR2 with ⟨hz, his, _⟩ | ⟨_, left, _, hE2⟩
   ·simp only [rv0, RV.mk.injEq] at hz
    obtain ⟨rfl, rfl, rfl, rfl, rfl, rfl⟩ := hz
    subst his
    refine zgs ?_
    apply OL.alloc; rfl; rfl; exact CellsL.agg; (intro bk hbk; simp only [AllLe, and_true] at hbk)
    refine zgs ?_
    refine W.cond rfl (fun _ => ?_) (fun hh => absurd hh (by decide))
    refine zgs ?_
    (((first | apply OL.op | apply QL.op); exact Guard.au; rfl; rfl); (exact Pev.call (v := .bool true) rfl (by exact Args.au) (fun _ w2 hw2 => (SameResult_calls none none 0 0 [] [] 0 0 0 0 w2 (by simp) (by simp) IntsO.nil IntsO.nil).mono (fun e w3 h => ⟨by rw [h.1]; rfl, hw2.ext h.2⟩))))
    refine zgs ?_
    (refine zfn ?_; intro w' hw')
    exact ⟨by simp, hw'.toExt (by exact mau) (fun k hk => by exact NotOwned.au)⟩
   ·exact absurd (Go.Ss.Ends.det hEnd hE2) (by simp)
  ·subst h0 her
   refine W.cond rfl (fun hh => by simp at hh <;> omega) (fun _ => ?_)
   refine zgs ?_
   refine OL.callE (α := (RV × Bool) × World) (fun z => .tuple #[z.1.1.v, .int .i64 z.1.1.st, .bool z.1.2]) (fun z => RunT (fns.map Prod.fst) main fu z.1.1 z.1.2 ∧ IntsO z.2 (low z.2) z.1.1.out z.1.1.q ∧ z.1.1.out.length ≤ 9223372036854775807) (fun z => Cls [] [z.2, w5, w1, wF, w]) rfl rfl (by exact Args.au) (fun w2 hw2 => (RRun_calls fns q c main fu h1 (by omega) hun w2 (huF.at hw2 (by exact mau) (fun k hk => NotOwned.nil))).mono fun e w3 h => rrun_out hw2 h) ?_
   rintro ⟨⟨⟨o2, q2, c2, en2, va2, st2⟩, is⟩, w2⟩ ⟨hR2, hI2, hl2⟩
   simp only [RV.v] at hR2 hI2 hst hEnd ⊢
   rcases hR2 with ⟨_, _, hE2⟩ | ⟨his, left2, hst2, hE2⟩
   ·exact absurd (Go.Ss.Ends.det hEnd hE2) (by simp)
   ·simp only at hst2 hE2
    have hd := Go.Ss.Ends.det hEnd hE2
    simp only [Go.Ss.Fin.done.injEq] at hd
    obtain ⟨rfl, rfl, rfl, rfl⟩ := hd
    subst his
    obtain rfl : st1 = st2 := by rw [hst, hst2]
    refine zgs ?_
    apply OL.alloc; rfl; rfl; exact CellsL.agg; (intro bk hbk; simp only [AllLe, and_true] at hbk)
    refine zgs ?_
    refine W.cond rfl (fun hh => absurd hh (by decide)) (fun _ => ?_)
    refine zgs ?_
    rename_i b9 hb9
    (((first | apply OL.op | apply QL.op); exact Guard.au; rfl; rfl); (exact Pev.call (v := .bool true) rfl (by exact Args.au) (fun _ w3 hw3 => (SameResult_calls q1 q2 c1 c2 o1 o1 en1 va1 en1 va1 w3 (by omega) (by omega) (hI1.at hw3 (by exact mau) (fun k hk => by exact NotOwned.au)) (hI2.at hw3 (by exact mau) (fun k hk => by exact NotOwned.au))).mono (fun e w4 h => ⟨by rw [h.1]; simp, hw3.ext h.2⟩))))
    refine zgs ?_
    (refine zfn ?_; intro w' hw')
    exact ⟨by simp, hw'.toExt (by exact mau) (fun k hk => by exact NotOwned.au)⟩
end Go.Proofs.Ytehelljmaiophaa.ss

/- Readings with the reach: what a slice's and a struct's parts are, and how much they weigh at most. General. No condition. -/
namespace Go.Eng
open Go.RowKit Go.ChangeShapes Go.WideShapes Go.ChangeAt
section
variable {H : Type} {enc : TypeId × Value → H} {P : Program} {w : World} {spare : Nat → Bool} {held : Bool}
def Lt (P : Program) (t : TypeId) (d : DataW H) : Prop := ∀ n ∈ d.weights P t, n ≤ reachBytes
theorem weightsAll_mem {e : TypeId} : ∀ {ds : List (DataW H)} {d : DataW H}, d ∈ ds → ∀ n ∈ d.weights P e, n ∈ DataW.weightsAll P e ds
 | x :: ds, d, hd, n, hn => by
  simp only [DataW.weightsAll, List.mem_append]
  rcases List.mem_cons.1 hd with rfl | hd
  ·exact .inl hn
  ·exact .inr (weightsAll_mem hd n hn)
theorem Lt.arg {ts : List TypeId} {ds : List (DataW H)} (h : (DataW.weightsEach P ts ds).all (· ≤ reachBytes) = true) {j : Nat} {t : TypeId} {d : DataW H} (ht : ts[j]? = some t) (hd : ds[j]? = some d) : Lt P t d := fun n hn => by
 have := List.all_eq_true.1 h _ (DataW.weights_mem_each ht hd n hn)
 simpa using this
theorem rd_struct {t : TypeId} {fs : Array Field} {fuel : Nat} {cs : List Value} {x : DataW H × List MemPlace} (ht : P.underlying t = some (.struct fs)) (h : DataW.trod enc P w 0 spare held fuel t cs = some x) (hw : Lt P t x.1) :
  cs.length = P.cellsOf t ∧ ∃ n, n < fuel ∧ ∀ (i : Nat) (f : Field), fs[i]? = some f → ∃ y, DataW.trod enc P w 0 spare held n f.type ((cs.drop f.offset).take (P.cellsOf f.type)) = some y ∧ Lt P f.type y.1 := by
 obtain ⟨xs, n, hfu, rfl, hlen, hxl, hf⟩ := DataW.trod_struct ht h
 refine ⟨hlen, n, by omega, fun i f hi => ?_⟩
 have hlt : i < xs.length := by rw [hxl]; exact (Array.getElem?_eq_some_iff.1 hi).1
 refine ⟨xs[i], by rw [hf i f hi, List.getElem?_eq_getElem hlt], fun k hk => hw k ?_⟩
 simp only [DataW.weights, ht]
 exact DataW.weights_mem_each (j := i) (t := f.type) (d := xs[i].1) (by simpa using ⟨f, by simpa using hi, rfl⟩) (by simp [hlt]) k hk
theorem rd_slice0 {t e : TypeId} {sz fuel : Nat} {cs : List Value} {x : DataW H × List MemPlace} (ht : P.underlying t = some (.slice e)) (hs : P.cellsOf e = sz) (h : DataW.trod enc P w 0 spare held fuel t cs = some x) (hw : Lt P t x.1) :
  ∃ (q : Option Addr) (len cap : Nat), cs = [.slice q len cap] ∧ len ≤ cap ∧ cap ≤ maxLen ∧ len * P.bytesOf e ≤ reachBytes ∧ (q = none → len = 0) ∧
   ∃ n, n < fuel ∧ ∀ a, q = some a → ∀ i, i < len → ∃ cs' y, CellsAt w (a.add (i * sz)) cs' ∧ cs'.length = sz ∧ DataW.trod enc P w 0 spare held n e cs' = some y ∧ Lt P e y.1 := by
 rcases DataW.trod_slice ht h with ⟨rfl, _⟩ | ⟨a, len, cap, elems, rest, n, hf, rfl, rfl, _, hl, hm, hlen, hel, _, _⟩
 ·refine ⟨none, 0, 0, rfl, Nat.le_refl _, by simp [maxLen], by simp, fun _ => rfl, 0, ?_, fun a ha => by cases ha⟩
  cases fuel with
  | zero => simp [DataW.trod] at h
  | succ n => omega
 ·have hwt : len * P.bytesOf e ≤ reachBytes := by
   have h1 := hw ((elems.map (·.1)).length * P.bytesOf e + (rest.map (·.1)).length * P.bytesOf e) (by simp [DataW.weights, ht, Nat.add_mul])
   rw [List.length_map, hlen] at h1
   omega
  refine ⟨some a, len, cap, rfl, hl, hm, hwt, (fun hn => by cases hn), n, by omega, fun a' ha i hi => ?_⟩
  obtain rfl := Option.some.inj ha
  have h1 := hel i hi
  rw [List.getElem?_eq_getElem (by omega)] at h1
  rw [hs] at h1
  obtain ⟨cs', hc, ht'⟩ := Option.bind_eq_some_iff.1 h1
  obtain ⟨h2, h3⟩ := cellsAt_of hc
  refine ⟨cs', _, h2, h3, ht', fun k hk => hw k ?_⟩
  simp only [DataW.weights, ht]
  exact List.mem_cons_of_mem _ (List.mem_append_left _ (weightsAll_mem (d := elems[i].1) (List.mem_map.2 ⟨_, List.getElem_mem (by omega), rfl⟩) k hk))
variable {α : Type} {f : α → List Value} {sz : Nat} {R : α → Prop}
theorem rd_slice {t e : TypeId} {fuel : Nat} {cs : List Value} {x : DataW H × List MemPlace} (ht : P.underlying t = some (.slice e)) (hs : P.cellsOf e = sz) (hsz : 0 < sz) (hf : ∀ x, (f x).length = sz)
  (he : ∀ (n : Nat) (cs' : List Value) (y : DataW H × List MemPlace), n < fuel → DataW.trod enc P w 0 spare held n e cs' = some y → Lt P e y.1 → ∃ u : α, cs' = f u ∧ R u)
  (h : DataW.trod enc P w 0 spare held fuel t cs = some x) (hw : Lt P t x.1) :
  ∃ (q : Option Addr) (l : List α) (cap : Nat), cs = [.slice q l.length cap] ∧ l.length ≤ cap ∧ cap ≤ maxLen ∧ l.length * P.bytesOf e ≤ reachBytes ∧ SlAt w w.heap.size q (cat f l) ∧ ∀ u ∈ l, R u := by
 obtain ⟨q, len, cap, rfl, hle, hcap, hwt, hq0, m, hm, hel⟩ := rd_slice0 ht hs h hw
 cases q with
 | none =>
  obtain rfl := hq0 rfl
  exact ⟨none, [], cap, rfl, hle, hcap, by simp, SlAt.nil, fun u hu => by cases hu⟩
 | some a =>
  obtain ⟨l, hl, hr⟩ := list_of (fun i (u : α) => CellsAt w (a.add (i * sz)) (f u) ∧ R u) len (fun i hi => by
   obtain ⟨cs', y, hc, hl1, ht', hy⟩ := hel a rfl i hi
   obtain ⟨u, rfl, hR⟩ := he m cs' y hm ht' hy
   exact ⟨u, hc, hR⟩)
  subst hl
  refine ⟨some a, l, cap, rfl, hle, hcap, hwt, fun hv => ⟨a, rfl, ?_, fun j v hj => ?_⟩, fun u hu => ?_⟩
  ·rw [cat_length hf] at hv
   have hl0 : 0 < l.length := Nat.pos_of_mul_pos_right hv
   have h0 := (hr 0 _ (List.getElem?_eq_getElem hl0)).1
   rw [Nat.zero_mul, add_zero_] at h0
   have hz : 0 < (f l[0]).length := by rw [hf]; exact hsz
   have := h0 0 _ (List.getElem?_eq_getElem hz)
   rw [add_zero_] at this
   exact cell_lt this
  ·have hjl := (List.getElem?_eq_some_iff.1 hj).1
   rw [cat_length hf] at hjl
   have hi : j / sz < l.length := Nat.div_lt_of_lt_mul (by rwa [Nat.mul_comm] at hjl)
   have h0 := (hr (j / sz) _ (List.getElem?_eq_getElem hi)).1
   have hm' : j % sz < (f l[j / sz]).length := by rw [hf]; exact Nat.mod_lt _ hsz
   have h1 := cat_get hf (List.getElem?_eq_getElem hi) (j % sz) _ (List.getElem?_eq_getElem hm')
   have ej : j / sz * sz + j % sz = j := by rw [Nat.mul_comm]; exact Nat.div_add_mod j sz
   rw [ej, hj] at h1
   have h2 := h0 (j % sz) _ (List.getElem?_eq_getElem hm')
   rw [add_add, ej] at h2
   rw [h2, h1]
  ·obtain ⟨i, hi, rfl⟩ := List.getElem_of_mem hu
   exact (hr i _ (List.getElem?_eq_getElem hi)).2
end
end Go.Eng

/- Readings with the reach, as relations. General. No condition. Readings of functions in single assignment form. No condition. (Printed by ssw.py.) -/
namespace Go.Eng
open Go.RowKit Go.ChangeShapes Go.WideShapes Go.ChangeAt
section
variable {H : Type} {enc : TypeId × Value → H} {P : Program} {w : World} {spare : Nat → Bool} {held : Bool} {α μ : Type} {R : Rel α μ}
theorem rd_arrL {t e : TypeId} {fuel : Nat} {cs : List Value} {x : DataW H × List MemPlace} (ht : P.underlying t = some (.slice e)) (hs : P.cellsOf e = R.sz)
  (he : ∀ (n : Nat) (cs' : List Value) (y : DataW H × List MemPlace), n < fuel → DataW.trod enc P w 0 spare held n e cs' = some y → Lt P e y.1 → ∃ u : α × μ, cs' = R.c u ∧ R.ok w (low w) u.1 u.2)
  (h : DataW.trod enc P w 0 spare held fuel t cs = some x) (hw : Lt P t x.1) :
  ∃ (q : Option Addr) (l : List (α × μ)) (cap : Nat), cs = [.slice q l.length cap] ∧ l.length ≤ cap ∧ cap ≤ maxLen ∧ l.length * P.bytesOf e ≤ reachBytes ∧ Arr R w (low w) l q := by
 obtain ⟨q, l, cap, e1, h1, h2, h3, h4, h5⟩ := rd_slice (α := α × μ) (f := R.c) (R := fun u => R.ok w (low w) u.1 u.2) ht hs R.pos R.clen he h hw
 exact ⟨q, l, cap, e1, h1, h2, h3, fun hl => h4 (by rw [cat_length (f := R.c) R.clen]; exact Nat.mul_pos hl R.pos), h5⟩
end
end Go.Eng
namespace Go.Proofs.Ytehelljmaiophaa.ss
open Go.RowKit Go.Eng Go.Ss Go.ChangeShapes Go.WideShapes Go.ChangeAt
set_option maxRecDepth 100000
section
variable {H : Type} {enc : TypeId × Value → H} {w : World} {spare : Nat → Bool} {held : Bool}
theorem list2 {α : Type} {l : List α} (h : l.length = 2) : ∃ a0 a1, l = [a0, a1] := by
 match l, h with
 | [a0, a1], _ => exact ⟨a0, a1, rfl⟩
theorem list4 {α : Type} {l : List α} (h : l.length = 4) : ∃ a0 a1 a2 a3, l = [a0, a1, a2, a3] := by
 match l, h with
 | [a0, a1, a2, a3], _ => exact ⟨a0, a1, a2, a3, rfl⟩
theorem list5 {α : Type} {l : List α} (h : l.length = 5) : ∃ a0 a1 a2 a3 a4, l = [a0, a1, a2, a3, a4] := by
 match l, h with
 | [a0, a1, a2, a3, a4], _ => exact ⟨a0, a1, a2, a3, a4, rfl⟩
theorem list7 {α : Type} {l : List α} (h : l.length = 7) : ∃ a0 a1 a2 a3 a4 a5 a6, l = [a0, a1, a2, a3, a4, a5, a6] := by
 match l, h with
 | [a0, a1, a2, a3, a4, a5, a6], _ => exact ⟨a0, a1, a2, a3, a4, a5, a6, rfl⟩
theorem reach47 : reachBytes ≤ 140737488355328 := by decide
theorem cat_ints (l : List Int) : cat (fun x : Int => [Value.int .i64 x]) l = ints l := by
 induction l with
 | nil => rfl
 | cons x r ih =>
  show [Value.int .i64 x] ++ cat (fun x : Int => [Value.int .i64 x]) r = _
  rw [ih]
  rfl
theorem ints_rd {fuel : Nat} {cs : List Value} {x : DataW H × List MemPlace} (h : DataW.trod enc Try.prog w 0 spare held fuel 35 cs = some x) (hw : Lt Try.prog 35 x.1) :
  ∃ (q : Option Addr) (l : List Int) (cap : Nat), cs = [.slice q l.length cap] ∧ l.length ≤ cap ∧ l.length ≤ 140737488355328 ∧ IntsO w (low w) l q ∧ ∀ n ∈ l, I64 n := by
 obtain ⟨q, l, cap, e1, h1, h2, h3, h4, h5⟩ := rd_slice (α := Int) (f := fun x => [Value.int .i64 x]) (R := fun n => I64 n) Try.underlying35 (by kernel_rfl) (by decide) (fun _ => rfl) (fun n cs' y _ hy _ => by
  obtain ⟨k, e1, hk⟩ := DataW.trod_int Try.underlying3 hy
  exact ⟨k, e1, wf_i64 hk.2⟩) h hw
 rw [cat_ints] at h4
 have hb : Try.prog.bytesOf 3 = 8 := by kernel_rfl
 rw [hb] at h3
 have := reach47
 exact ⟨q, l, cap, e1, h1, by omega, fun hl => h4 (by rw [ints_length]; exact hl), h5⟩
theorem ed_rd {fuel : Nat} {cs : List Value} {x : DataW H × List MemPlace} (h : DataW.trod enc Try.prog w 0 spare held fuel 105 cs = some x) (hw : Lt Try.prog 105 x.1) : ∃ u : Ed × Sc, cs = edC u.1 u.2 ∧ edR.ok w (low w) u.1 u.2 := by
 obtain ⟨hlen, n, hn, hf⟩ := rd_struct Try.underlying105 h hw
 rw [show Try.prog.cellsOf 105 = 2 by kernel_rfl] at hlen
 obtain ⟨a0, a1, rfl⟩ := list2 hlen
 obtain ⟨y0, g0, w0⟩ := hf 0 _ rfl
 obtain ⟨y1, g1, w1⟩ := hf 1 _ rfl
 change DataW.trod enc Try.prog w 0 spare held n 3 ((List.drop 0 [a0, a1]).take (Try.prog.cellsOf 3)) = some y0 at g0
 change DataW.trod enc Try.prog w 0 spare held n 35 ((List.drop 1 [a0, a1]).take (Try.prog.cellsOf 35)) = some y1 at g1
 rw [show Try.prog.cellsOf 3 = 1 by kernel_rfl] at g0
 rw [show Try.prog.cellsOf 35 = 1 by kernel_rfl] at g1
 obtain ⟨i0, e0, j0⟩ := DataW.trod_int Try.underlying3 g0
 obtain ⟨q1, l1, c1, e1, b1, m1, n1, o1⟩ := ints_rd g1 w1
 have h47 := reach47
 simp [tmC] at e0 e1
 refine ⟨(⟨i0, l1⟩, (q1, c1)), ?_, ⟨wf_i64 j0.2, ⟨m1, b1⟩, n1, o1⟩⟩
 simp [edC, e0, e1]
theorem tm_rd {fuel : Nat} {cs : List Value} {x : DataW H × List MemPlace} (h : DataW.trod enc Try.prog w 0 spare held fuel 39 cs = some x) (hw : Lt Try.prog 39 x.1) : ∃ u : Tm × TmY, cs = tmC u.1 u.2 ∧ TmOk w (low w) u.1 u.2 := by
 obtain ⟨hlen, n, hn, hf⟩ := rd_struct Try.underlying39 h hw
 rw [show Try.prog.cellsOf 39 = 5 by kernel_rfl] at hlen
 obtain ⟨a0, a1, a2, a3, a4, rfl⟩ := list5 hlen
 obtain ⟨y0, g0, w0⟩ := hf 0 _ rfl
 obtain ⟨y1, g1, w1⟩ := hf 1 _ rfl
 obtain ⟨y2, g2, w2⟩ := hf 2 _ rfl
 obtain ⟨y3, g3, w3⟩ := hf 3 _ rfl
 obtain ⟨y4, g4, w4⟩ := hf 4 _ rfl
 change DataW.trod enc Try.prog w 0 spare held n 3 ((List.drop 0 [a0, a1, a2, a3, a4]).take (Try.prog.cellsOf 3)) = some y0 at g0
 change DataW.trod enc Try.prog w 0 spare held n 3 ((List.drop 1 [a0, a1, a2, a3, a4]).take (Try.prog.cellsOf 3)) = some y1 at g1
 change DataW.trod enc Try.prog w 0 spare held n 3 ((List.drop 2 [a0, a1, a2, a3, a4]).take (Try.prog.cellsOf 3)) = some y2 at g2
 change DataW.trod enc Try.prog w 0 spare held n 35 ((List.drop 3 [a0, a1, a2, a3, a4]).take (Try.prog.cellsOf 35)) = some y3 at g3
 change DataW.trod enc Try.prog w 0 spare held n 37 ((List.drop 4 [a0, a1, a2, a3, a4]).take (Try.prog.cellsOf 37)) = some y4 at g4
 rw [show Try.prog.cellsOf 3 = 1 by kernel_rfl] at g0 g1 g2
 rw [show Try.prog.cellsOf 35 = 1 by kernel_rfl] at g3
 rw [show Try.prog.cellsOf 37 = 1 by kernel_rfl] at g4
 obtain ⟨i0, e0, j0⟩ := DataW.trod_int Try.underlying3 g0
 obtain ⟨i1, e1, j1⟩ := DataW.trod_int Try.underlying3 g1
 obtain ⟨i2, e2, j2⟩ := DataW.trod_int Try.underlying3 g2
 obtain ⟨q3, l3, c3, e3, b3, m3, n3, o3⟩ := ints_rd g3 w3
 obtain ⟨q4, l4, c4, e4, b4, m4, n4, o4⟩ := rd_arrL (R := edR) Try.underlying37 (by kernel_rfl) (fun n cs' y _ hy hwy => ed_rd hy hwy) g4 w4
 rw [show Try.prog.bytesOf 105 = 32 by kernel_rfl] at n4
 have h47 := reach47
 simp [tmC] at e0 e1 e2 e3 e4
 refine ⟨(⟨i0, i1, i2, l3, l4.map Prod.fst⟩, ⟨(q3, c3), (q4, c4)⟩), ?_, ⟨wf_i64 j0.2, wf_i64 j1.2, wf_i64 j2.2, m3, by simp only [List.length_map]; omega, b3, by simp only [List.length_map]; exact b4, n3, o3, ⟨l4, rfl, o4⟩⟩⟩
 simp [tmC, e0, e1, e2, e3, e4]
theorem in_rd {fuel : Nat} {cs : List Value} {x : DataW H × List MemPlace} (h : DataW.trod enc Try.prog w 0 spare held fuel 85 cs = some x) (hw : Lt Try.prog 85 x.1) : ∃ u : In × Sc, cs = inC u.1 u.2 ∧ InOk w (low w) u.1 u.2 := by
 obtain ⟨hlen, n, hn, hf⟩ := rd_struct Try.underlying85 h hw
 rw [show Try.prog.cellsOf 85 = 4 by kernel_rfl] at hlen
 obtain ⟨a0, a1, a2, a3, rfl⟩ := list4 hlen
 obtain ⟨y0, g0, w0⟩ := hf 0 _ rfl
 obtain ⟨y1, g1, w1⟩ := hf 1 _ rfl
 obtain ⟨y2, g2, w2⟩ := hf 2 _ rfl
 obtain ⟨y3, g3, w3⟩ := hf 3 _ rfl
 change DataW.trod enc Try.prog w 0 spare held n 3 ((List.drop 0 [a0, a1, a2, a3]).take (Try.prog.cellsOf 3)) = some y0 at g0
 change DataW.trod enc Try.prog w 0 spare held n 3 ((List.drop 1 [a0, a1, a2, a3]).take (Try.prog.cellsOf 3)) = some y1 at g1
 change DataW.trod enc Try.prog w 0 spare held n 3 ((List.drop 2 [a0, a1, a2, a3]).take (Try.prog.cellsOf 3)) = some y2 at g2
 change DataW.trod enc Try.prog w 0 spare held n 35 ((List.drop 3 [a0, a1, a2, a3]).take (Try.prog.cellsOf 35)) = some y3 at g3
 rw [show Try.prog.cellsOf 3 = 1 by kernel_rfl] at g0 g1 g2
 rw [show Try.prog.cellsOf 35 = 1 by kernel_rfl] at g3
 obtain ⟨i0, e0, j0⟩ := DataW.trod_int Try.underlying3 g0
 obtain ⟨i1, e1, j1⟩ := DataW.trod_int Try.underlying3 g1
 obtain ⟨i2, e2, j2⟩ := DataW.trod_int Try.underlying3 g2
 obtain ⟨q3, l3, c3, e3, b3, m3, n3, o3⟩ := ints_rd g3 w3
 have h47 := reach47
 simp [tmC] at e0 e1 e2 e3
 refine ⟨(⟨i0, i1, i2, l3⟩, (q3, c3)), ?_, ⟨wf_i64 j0.2, wf_i64 j1.2, wf_i64 j2.2, m3, b3, n3, o3⟩⟩
 simp [inC, e0, e1, e2, e3]
theorem bk_rd {fuel : Nat} {cs : List Value} {x : DataW H × List MemPlace} (h : DataW.trod enc Try.prog w 0 spare held fuel 41 cs = some x) (hw : Lt Try.prog 41 x.1) : ∃ u : Bk × BkY, cs = bkC u.1 u.2 ∧ BkOk w (low w) u.1 u.2 := by
 obtain ⟨hlen, n, hn, hf⟩ := rd_struct Try.underlying41 h hw
 rw [show Try.prog.cellsOf 41 = 7 by kernel_rfl] at hlen
 obtain ⟨a0, a1, a2, a3, a4, a5, a6, rfl⟩ := list7 hlen
 obtain ⟨y0, g0, w0⟩ := hf 0 _ rfl
 obtain ⟨y1, g1, w1⟩ := hf 1 _ rfl
 obtain ⟨y2, g2, w2⟩ := hf 2 _ rfl
 change DataW.trod enc Try.prog w 0 spare held n 35 ((List.drop 0 [a0, a1, a2, a3, a4, a5, a6]).take (Try.prog.cellsOf 35)) = some y0 at g0
 change DataW.trod enc Try.prog w 0 spare held n 36 ((List.drop 1 [a0, a1, a2, a3, a4, a5, a6]).take (Try.prog.cellsOf 36)) = some y1 at g1
 change DataW.trod enc Try.prog w 0 spare held n 39 ((List.drop 2 [a0, a1, a2, a3, a4, a5, a6]).take (Try.prog.cellsOf 39)) = some y2 at g2
 rw [show Try.prog.cellsOf 35 = 1 by kernel_rfl] at g0
 rw [show Try.prog.cellsOf 36 = 1 by kernel_rfl] at g1
 rw [show Try.prog.cellsOf 39 = 5 by kernel_rfl] at g2
 obtain ⟨q0, l0, c0, e0, b0, m0, n0, o0⟩ := ints_rd g0 w0
 obtain ⟨q1, l1, c1, e1, b1, m1, n1, o1⟩ := rd_arrL (R := inR) Try.underlying36 (by kernel_rfl) (fun n cs' y _ hy hwy => in_rd hy hwy) g1 w1
 rw [show Try.prog.bytesOf 85 = 48 by kernel_rfl] at n1
 obtain ⟨u2, e2, o2⟩ := tm_rd g2 w2
 have h47 := reach47
 simp [tmC] at e0 e1 e2
 refine ⟨(⟨l0, l1.map Prod.fst, u2.1⟩, ⟨(q0, c0), (q1, c1), u2.2⟩), ?_, ⟨m0, by simp only [List.length_map]; omega, b0, by simp only [List.length_map]; exact b1, n0, o0, ⟨l1, rfl, o1⟩, o2⟩⟩
 simp [bkC, e0, e1, e2]
theorem fn_rd {fuel : Nat} {cs : List Value} {x : DataW H × List MemPlace} (h : DataW.trod enc Try.prog w 0 spare held fuel 24 cs = some x) (hw : Lt Try.prog 24 x.1) : ∃ u : Go.Ss.Fn × FnY, cs = fnC u.1 u.2 ∧ FnOk w (low w) u.1 u.2 := by
 obtain ⟨hlen, n, hn, hf⟩ := rd_struct Try.underlying24 h hw
 rw [show Try.prog.cellsOf 24 = 2 by kernel_rfl] at hlen
 obtain ⟨a0, a1, rfl⟩ := list2 hlen
 obtain ⟨y0, g0, w0⟩ := hf 0 _ rfl
 obtain ⟨y1, g1, w1⟩ := hf 1 _ rfl
 change DataW.trod enc Try.prog w 0 spare held n 3 ((List.drop 0 [a0, a1]).take (Try.prog.cellsOf 3)) = some y0 at g0
 change DataW.trod enc Try.prog w 0 spare held n 22 ((List.drop 1 [a0, a1]).take (Try.prog.cellsOf 22)) = some y1 at g1
 rw [show Try.prog.cellsOf 3 = 1 by kernel_rfl] at g0
 rw [show Try.prog.cellsOf 22 = 1 by kernel_rfl] at g1
 obtain ⟨i0, e0, j0⟩ := DataW.trod_int Try.underlying3 g0
 obtain ⟨q1, l1, c1, e1, b1, m1, n1, o1⟩ := rd_arrL (R := bkR) Try.underlying22 (by kernel_rfl) (fun n cs' y _ hy hwy => bk_rd hy hwy) g1 w1
 rw [show Try.prog.bytesOf 41 = 120 by kernel_rfl] at n1
 have h47 := reach47
 simp [tmC] at e0 e1
 refine ⟨(⟨i0, l1.map Prod.fst⟩, ⟨q1, c1⟩), ?_, ⟨wf_i64 j0.2, by simp only [List.length_map]; omega, by simp only [List.length_map]; exact b1, ⟨l1, rfl, o1⟩⟩⟩
 simp [fnC, e0, e1]
end
end Go.Proofs.Ytehelljmaiophaa.ss

/- Readings of units. No condition. -/
namespace Go.Proofs.Ytehelljmaiophaa.ss
open Go.RowKit Go.Eng Go.Ss Go.ChangeShapes Go.WideShapes Go.ChangeAt
set_option maxRecDepth 100000
section
variable {H : Type} {enc : TypeId × Value → H} {w : World} {spare : Nat → Bool} {held : Bool}
theorem unit_rd {fuel : Nat} {cs : List Value} {x : DataW H × List MemPlace} (h : DataW.trod enc Try.prog w 0 spare held fuel 55 cs = some x) (hw : Lt Try.prog 55 x.1) : ∃ (q : Option Addr) (l : List (Go.Ss.Fn × FnY)) (c : Nat) (main : Int), cs = [.slice q l.length c, .int .i64 main] ∧ l.length ≤ 140737488355328 ∧ I64 main ∧ Arr fnR w (low w) l q := by
 obtain ⟨hlen, n, hn, hf⟩ := rd_struct Try.underlying55 h hw
 rw [show Try.prog.cellsOf 55 = 2 by kernel_rfl] at hlen
 obtain ⟨a0, a1, rfl⟩ := list2 hlen
 obtain ⟨y0, g0, w0⟩ := hf 0 _ rfl
 obtain ⟨y1, g1, w1⟩ := hf 1 _ rfl
 change DataW.trod enc Try.prog w 0 spare held n 53 ((List.drop 0 [a0, a1]).take (Try.prog.cellsOf 53)) = some y0 at g0
 change DataW.trod enc Try.prog w 0 spare held n 3 ((List.drop 1 [a0, a1]).take (Try.prog.cellsOf 3)) = some y1 at g1
 rw [show Try.prog.cellsOf 3 = 1 by kernel_rfl] at g1
 rw [show Try.prog.cellsOf 53 = 1 by kernel_rfl] at g0
 obtain ⟨i1, e1, j1⟩ := DataW.trod_int Try.underlying3 g1
 obtain ⟨q0, l0, c0, e0, b0, m0, n0, o0⟩ := rd_arrL (R := fnR) Try.underlying53 (by kernel_rfl) (fun n cs' y _ hy hwy => fn_rd hy hwy) g0 w0
 rw [show Try.prog.bytesOf 24 = 32 by kernel_rfl] at n0
 have h47 := reach47
 simp [tmC] at e0 e1
 refine ⟨q0, l0, c0, i1, ?_, by omega, wf_i64 j1.2, o0⟩
 simp [e0, e1]
end
end Go.Proofs.Ytehelljmaiophaa.ss
