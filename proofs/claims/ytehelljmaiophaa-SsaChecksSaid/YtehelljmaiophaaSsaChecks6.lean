/- Texts of the proof of SsaChecks, part 6: rules of a calculus for walking, plain laws, and walks of the functions that the law reaches. No condition. -/
import Derived.SizedLaws
import Derived.Test.YtehelljmaiophaaProg
import Derived.Test.YtehelljmaiophaaSsaChecks5
set_option linter.unusedVariables false
set_option linter.unusedSimpArgs false
/- The checks of a unit: plain form and the program's walk. Conditions: none. -/
namespace Go.Ss
open Go.Eng Go.RowKit
def callE (fs : List Fn) (i : In) : Int :=
  if i.op ≠ 13 ∧ i.op ≠ 9 then 0
  else if (fs.length : Int) ≤ i.n then 4
  else if (i.op = 13 ∧ (parB fs i.n.toNat 0).length ≠ i.args.length) ∨ (i.op = 9 ∧ (parB fs i.n.toNat 0).length = 0) then 3
  else 0
noncomputable def unitE (fs : List Fn) (main : Int) : Int :=
  if fs.length = 0 then 3
  else if 256 < fs.length then 2
  else if ¬ (0 ≤ main ∧ main < (fs.length : Int)) then 4
  else if firstE funcE fs ≠ 0 then firstE funcE fs
  else if (parB fs main.toNat 0).length ≠ 0 then 3
  else firstE (fun f => firstE (fun b => firstE (callE fs) b.ins) f.blocks) fs
theorem callE_zero {fs : List Fn} {i : In} (h : callE fs i = 0) (hi : i.op = 13 ∨ i.op = 9) : i.n < (fs.length : Int) ∧ (i.op = 13 → (parB fs i.n.toNat 0).length = i.args.length) ∧ (i.op = 9 → (parB fs i.n.toNat 0).length ≠ 0) := by
  unfold callE at h
  rw [if_neg (by omega)] at h
  split at h
  · cases h
  · split at h
    · cases h
    · rename_i h1 h2
      refine ⟨by omega, fun e => Decidable.byContradiction fun hc => h2 (.inl ⟨e, hc⟩), fun e hc => h2 (.inr ⟨e, hc⟩)⟩
theorem firstE_nx {α : Type} {f : α → Int} {l : List α} {k : Nat} {x : α} (h : l[k]? = some x) (hz : firstE f l = firstE f (l.drop k)) : (f x = 0 → firstE f l = firstE f (l.drop (k + 1))) ∧ (f x ≠ 0 → firstE f l = f x) := by
  obtain ⟨h1, h2⟩ := List.getElem?_eq_some_iff.1 h
  rw [List.drop_eq_getElem_cons h1, firstE, h2] at hz
  constructor
  · intro h0
    rw [hz, if_pos h0]
  · intro h0
    rw [hz, if_neg h0]
theorem unitE_zero {fs : List Fn} {main : Int} (h : unitE fs main = 0) : UOk fs ∧ 0 ≤ main ∧ main < (fs.length : Int) ∧ fs.length ≤ 256 ∧ parB fs main.toNat 0 = [] := by
  unfold unitE at h
  split at h
  · cases h
  split at h
  · cases h
  split at h
  · cases h
  split at h
  · contradiction
  split at h
  · cases h
  rename_i h1 h2 h3 h4 h5
  have h4' : firstE funcE fs = 0 := Decidable.not_not.1 h4
  refine ⟨⟨fun f hf => firstE_zero.1 h4' f hf, fun f hf b hb i hi hio => callE_zero (firstE_zero.1 (firstE_zero.1 (firstE_zero.1 h f hf) b hb) i hi) hio⟩, by omega, by omega, by omega, ?_⟩
  exact List.length_eq_zero_iff.1 (Decidable.not_not.1 h5)
end Go.Ss
namespace Go.Proofs.Ytehelljmaiophaa.ss
set_option maxRecDepth 100000
open Go.Eng Go.RowKit Go.Ss
theorem Calls_calls (fns : List (Go.Ss.Fn × FnY)) (q : Option Addr) (c : Nat) (main : Int) (i : Go.Ss.In) (iy : Sc) (w : World) (hu : Arr fnR w (low w) fns q) (hl6 : fns.length ≤ 256) (hb : ∀ (k : Nat) p, fns[k]? = some p → 0 < p.1.blocks.length) (hn : i.op = 13 ∨ i.op = 9 → 0 ≤ i.n) :
    Calls Try.prog 83 [.agg #[.slice q fns.length c, .int .i64 main], .agg (inC i iy).toArray].toArray w fun e w' => e = .returned (.int .i64 (callE (fns.map Prod.fst) i)) ∧ Ext w w' := by
  refine enter Try.func83 rfl Try.ntmps83 rfl (Cls.start w) ?_
  (simp only [argEnv, Nat.zero_add, Nat.reduceAdd])
  unfold inC
  apply W.sr
  apply OL.box; rfl; rfl; exact CellsL.agg; (intro bk hbk; simp only [AllLe, and_true] at hbk)
  apply OL.box; rfl; rfl; exact CellsL.agg; (intro bk hbk; simp only [AllLe, and_true] at hbk)
  apply oas; rfl; rfl
  apply OL.nx
  apply W.seq
  apply W.sr
  apply ofa; rfl; rfl; rfl
  apply old; rfl; rfl; exact .head _; rfl; rfl
  apply obn; rfl; rfl; rfl; apply Bin.neq
  apply omv; rfl; rfl
  apply oy; rfl; rfl; rfl; apply Pev.fld; rfl; exact yes; rfl
  apply oy; rfl; rfl; rfl; apply Pev.load_blk; rfl; exact fun h => h; exact .head _; rfl; rfl
  apply oy; rfl; rfl; rfl; apply Pev.bin; rfl; exact fun h => h; rfl; exact yes; intro hcond; apply Bin.neq
  apply oop; rfl; apply Pev.pick_and; rfl; exact yes; rfl; exact fun h => h
  apply OL.nx
  by_cases hop : i.op = 13 ∨ i.op = 9
  · refine W.cond rfl (fun h => by simp at h; omega) (fun _ => ?_)
    have hn0 := hn hop
    obtain ⟨k, hk⟩ : ∃ k : Nat, i.n = (k : Int) := ⟨i.n.toNat, by omega⟩
    have hE : callE (fns.map Prod.fst) i = if (fns.length : Int) ≤ (k : Int) then 4 else if (i.op = 13 ∧ (parB (fns.map Prod.fst) k 0).length ≠ i.args.length) ∨ (i.op = 9 ∧ (parB (fns.map Prod.fst) k 0).length = 0) then 3 else 0 := by
      unfold callE
      rw [if_neg (by omega), List.length_map, hk, Int.toNat_natCast]
    rw [hk]
    apply W.sk
    apply W.seq
    apply W.sr
    apply ofa; rfl; rfl; rfl
    apply old; rfl; rfl; exact .head _; rfl; rfl
    apply ofa; rfl; rfl; rfl
    apply old; rfl; rfl; exact .tail _ (.head _); rfl; rfl
    apply oop; rfl; apply Pev.len_slice; rfl; exact yes; rfl
    apply obn; rfl; rfl; rfl; apply Bin.geq
    apply OL.nx
    (refine W.cnd (fun h1 => ?_) (fun h1 => ?_)) <;> (try (exfalso; first | omega | exact h1 trivial | contradiction))
    · apply W.sr
      apply oas; rfl; rfl
      apply OL.nx
      refine W.rt ?_
      ((with_reducible apply At.fin1); rfl; rfl; intro w' hw')
      rw [hE, if_pos (by omega)]
      exact ⟨rfl, by (exact hw'.fr)⟩
    rw [if_neg (by omega)] at hE
    have hkl : k < fns.length := by omega
    obtain ⟨a, x, hqa, hab, hx, hcF, hok⟩ := hu.get hkl
    have hab : a.block < w.heap.size := hab
    have hcF : CellsAt w (a.add (k * 2)) [.int .i64 x.1.name, .slice x.2.q x.1.blocks.length x.2.c] := hcF
    have hbl := hb k x hx
    obtain ⟨es, hes, he⟩ := hok.b
    have hel : es.length = x.1.blocks.length := by rw [← hes, List.length_map]
    obtain ⟨a2, y, hq2, hab2, hy, hcB, hokB⟩ := he.get (show 0 < es.length by omega)
    have hab2 : a2.block < w.heap.size := hab2
    have hcB : CellsAt w (a2.add (0 * 7)) [.slice y.2.p.1 y.1.params.length y.2.p.2, .slice y.2.i.1 y.1.ins.length y.2.i.2, .int .i64 y.1.term.kind, .int .i64 y.1.term.arg, .int .i64 y.1.term.n, .slice y.2.t.c.1 y.1.term.cases.length y.2.t.c.2, .slice y.2.t.t.1 y.1.term.to_.length y.2.t.t.2] := hcB
    have hpar : parB (fns.map Prod.fst) k 0 = y.1.params := by
      unfold parB
      rw [fnB_map hx, List.getD_eq_getElem?_getD, ← hes, List.getElem?_map, hy]
      rfl
    rw [hpar] at hE
    rw [hq2] at hcF
    rw [hqa]
    apply W.sk
    apply W.sr
    apply ofa; rfl; rfl; rfl
    apply old; rfl; rfl; exact .tail _ (.head _); rfl; rfl
    apply ofa; rfl; rfl; rfl
    apply old; rfl; rfl; exact .head _; rfl; rfl
    apply oop; rfl; apply Pev.idx; rfl; exact yes; rfl; exact yes; rfl; rfl; intro hcond; omega
    apply oop; rfl; apply Pev.fldA; rfl; exact yes; rfl
    apply oop; rfl; apply Pev.load_kept; rfl; exact yes; exact .head _; rfl; intro hcond; apply CellsAt.at_ (by assumption) rfl; intro hcond; (simp only [add_block]; assumption); intro hcond; exact NotOwned.au
    apply oop; rfl; apply Pev.idx; rfl; exact yes; rfl; exact yes; rfl; rfl; intro hcond; omega
    apply oop; rfl; apply Pev.fldA; rfl; exact yes; rfl
    apply oop; rfl; apply Pev.load_kept; rfl; exact yes; exact .head _; rfl; intro hcond; apply CellsAt.at_ (by assumption) rfl; intro hcond; assumption; intro hcond; exact NotOwned.au
    apply oop; rfl; apply Pev.len_slice; rfl; exact yes; rfl
    apply oas; rfl; rfl
    apply OL.nx
    apply W.seq
    apply W.sr
    apply ofa; rfl; rfl; rfl
    apply old; rfl; rfl; exact .head _; rfl; rfl
    apply obn; rfl; rfl; rfl; apply Bin.eql
    apply omv; rfl; rfl
    apply oy; rfl; rfl; rfl; apply Pev.move; rfl; exact yes
    apply oy; rfl; rfl; rfl; apply Pev.fld; rfl; exact yes; rfl
    apply oy; rfl; rfl; rfl; apply Pev.load_blk; rfl; exact fun h => h; exact .head _; rfl; rfl
    apply oy; rfl; rfl; rfl; apply Pev.len_slice; rfl; exact fun h => h; rfl
    apply oy; rfl; rfl; rfl; apply Pev.bin; rfl; exact fun h => h; rfl; exact fun h => h; intro hcond; apply Bin.neq
    apply oop; rfl; apply Pev.pick_and; rfl; exact yes; rfl; exact fun h => h
    apply omv; rfl; rfl
    apply ono; rfl; rfl; rfl; apply Pev.fld; rfl; exact yes; rfl
    apply ono; rfl; rfl; rfl; apply Pev.load_blk; rfl; exact fun h => h; exact .head _; rfl; rfl
    apply ono; rfl; rfl; rfl; apply Pev.bin; rfl; exact fun h => h; rfl; exact yes; intro hcond; apply Bin.eql
    apply ono; rfl; rfl; rfl; apply Pev.move; rfl; exact fun h => h
    apply OL.op; exact Guard.cyes rfl rfl; rfl; rfl; apply Pev.move; rfl; exact yes
    apply OL.op; exact Guard.cyes rfl rfl; rfl; rfl; apply Pev.bin; rfl; exact fun h => h; rfl; exact yes; intro hcond; apply Bin.eql
    apply ono; rfl; rfl; rfl; apply Pev.pick_and; rfl; exact fun h => h; rfl; exact fun h => h
    apply oop; rfl; apply Pev.pick_or; rfl; exact yes; rfl; exact fun h => h
    apply OL.nx
    refine W.cond rfl (fun h => ?_) (fun h => ?_)
    · have hbad : (i.op = 13 ∧ y.1.params.length ≠ i.args.length) ∨ (i.op = 9 ∧ y.1.params.length = 0) := by
        rcases hop with e | e
        · rw [e] at h ⊢; simp at h; omega
        · rw [e] at h ⊢; simp at h; simp [h]
      apply W.sr
      apply oas; rfl; rfl
      apply OL.nx
      refine W.rt ?_
      ((with_reducible apply At.fin1); rfl; rfl; intro w' hw')
      rw [hE, if_pos hbad]
      exact ⟨rfl, by (exact hw'.fr)⟩
    · have hbad : ¬ ((i.op = 13 ∧ y.1.params.length ≠ i.args.length) ∨ (i.op = 9 ∧ y.1.params.length = 0)) := by
        rcases hop with e | e
        · rw [e] at h ⊢; simp at h; omega
        · rw [e] at h ⊢; simp at h; simp [h]
      apply W.sk
      apply W.sr
      apply oas; rfl; rfl
      apply OL.nx
      apply W.ret
      ((with_reducible apply At.fin1); rfl; rfl; intro w' hw')
      rw [hE, if_neg hbad]
      exact ⟨rfl, by (exact hw'.fr)⟩
  refine W.cond rfl (fun _ => ?_) (fun h => by simp at h; omega)
  have hE : callE (fns.map Prod.fst) i = 0 := by
    unfold callE
    rw [if_pos (by omega)]
  apply W.sr
  apply oas; rfl; rfl
  apply OL.nx
  refine W.rt ?_
  ((with_reducible apply At.fin1); rfl; rfl; intro w' hw')
  rw [hE]
  exact ⟨rfl, by (exact hw'.fr)⟩
theorem Check_calls (fns : List (Go.Ss.Fn × FnY)) (q : Option Addr) (c : Nat) (main : Int) (w : World) (hu : Arr fnR w (low w) fns q) (hl6 : fns.length ≤ 140737488355328) (hm : I64 main) :
    Calls Try.prog 33 [.agg #[.slice q fns.length c, .int .i64 main]].toArray w fun e w' => e = .returned (.int .i64 (unitE (fns.map Prod.fst) main)) ∧ Ext w w' := by
  have hUE : unitE (fns.map Prod.fst) main = if fns.length = 0 then 3 else if 256 < fns.length then 2 else if ¬ (0 ≤ main ∧ main < (fns.length : Int)) then 4 else if firstE funcE (fns.map Prod.fst) ≠ 0 then firstE funcE (fns.map Prod.fst) else if (parB (fns.map Prod.fst) main.toNat 0).length ≠ 0 then 3 else firstE (fun f => firstE (fun b => firstE (callE (fns.map Prod.fst)) b.ins) f.blocks) (fns.map Prod.fst) := by
    unfold unitE
    rw [List.length_map]
  refine enter Try.func33 rfl Try.ntmps33 rfl (Cls.start w) ?_
  (simp only [argEnv, Nat.zero_add, Nat.reduceAdd])
  apply W.sr
  apply OL.box; rfl; rfl; exact CellsL.agg; (intro bk hbk; simp only [AllLe, and_true] at hbk)
  apply oas; rfl; rfl
  apply OL.nx
  apply W.sb
  apply W.sr
  apply ofa; rfl; rfl; rfl
  apply old; rfl; rfl; exact .head _; rfl; rfl
  apply oop; rfl; apply Pev.len_slice; rfl; exact yes; rfl
  apply obn; rfl; rfl; rfl; apply Bin.eql
  apply oas; rfl; rfl
  apply OL.nx
  (refine W.cnd (fun h1 => ?_) (fun h1 => ?_)) <;> (try (exfalso; first | omega | exact h1 trivial | contradiction))
  · apply W.sr
    apply oas; rfl; rfl
    apply OL.nx
    refine W.rt ?_
    ((with_reducible apply At.fin1); rfl; rfl; intro w' hw')
    rw [hUE, if_pos (by omega)]
    exact ⟨rfl, by (exact hw'.fr)⟩
  rw [if_neg (by omega)] at hUE
  apply W.sr
  apply ofa; rfl; rfl; rfl
  apply old; rfl; rfl; exact .head _; rfl; rfl
  apply oop; rfl; apply Pev.len_slice; rfl; exact yes; rfl
  apply obn; rfl; rfl; rfl; apply Bin.gtr
  apply oas; rfl; rfl
  apply OL.nx
  (refine W.cnd (fun h2 => ?_) (fun h2 => ?_)) <;> (try (exfalso; first | omega | exact h2 trivial | contradiction))
  · apply W.sr
    apply oas; rfl; rfl
    apply OL.nx
    refine W.rt ?_
    ((with_reducible apply At.fin1); rfl; rfl; intro w' hw')
    rw [hUE, if_pos (by omega)]
    exact ⟨rfl, by (exact hw'.fr)⟩
  rw [if_neg (by omega)] at hUE
  apply W.sr
  apply ofa; rfl; rfl; rfl
  apply old; rfl; rfl; exact .head _; rfl; rfl
  apply ofa; rfl; rfl; rfl
  apply old; rfl; rfl; exact .head _; rfl; rfl
  apply oop; rfl; apply Pev.len_slice; rfl; exact yes; rfl
  apply obn; rfl; rfl; rfl; apply Bin.sub_in; omega
  (((first | (with_reducible apply OL.op) | (with_reducible apply QL.op)); (exact Guard.au); rfl; rfl); (exact Pev.call (v := .bool (decide (0 ≤ main) && decide (main ≤ (fns.length : Int) - 1))) rfl (by exact Args.au) (fun _ w2 hw2 => (within_calls main 0 _ w2).mono (fun e w3 h => ⟨h.1, hw2.ext h.2⟩))))
  apply oop; rfl; apply Pev.not; rfl; exact yes
  apply oas; rfl; rfl
  apply OL.nx
  refine W.cond rfl (fun h3 => ?_) (fun h3 => ?_)
  · apply W.sr
    apply oas; rfl; rfl
    apply OL.nx
    refine W.rt ?_
    ((with_reducible apply At.fin1); rfl; rfl; intro w' hw')
    rw [hUE, if_pos (by simp at h3; omega)]
    exact ⟨rfl, by (exact hw'.fr)⟩
  have h3' : 0 ≤ main ∧ main < (fns.length : Int) := by simp at h3; omega
  rw [if_neg (by omega)] at hUE
  obtain ⟨mn, rfl⟩ : ∃ mn : Nat, main = (mn : Int) := ⟨main.toNat, by omega⟩
  have hml : mn < fns.length := by omega
  rw [Int.toNat_natCast] at hUE
  obtain ⟨am, xm, hqm, ham, hxm, hcM, hokM⟩ := hu.get hml
  have ham : am.block < w.heap.size := ham
  have hcM : CellsAt w (am.add (mn * 2)) [.int .i64 xm.1.name, .slice xm.2.q xm.1.blocks.length xm.2.c] := hcM
  subst hqm
  have hF : ∀ (x : Go.Ss.Fn × FnY) (H : List Eng.Item) (S : List World) (w2 : World), FnOk w (low w) x.1 x.2 → Cls H S w2 → w ∈ S → (∀ k, k < w.heap.size → NotOwned H k) → FnOk w2 (low w2) x.1 x.2 := fun x H S w2 h hw2 hs hno => fnR.mono (hw2.up hs) (fnR.stab (hw2.same hs hno) h)
  apply W.skip
  with_reducible apply At.in_normal
  with_reducible apply At.next
  apply W.seq
  apply W.sr
  apply ofa; rfl; rfl; rfl
  apply old; rfl; rfl; exact .head _; rfl; rfl
  apply oop; rfl; apply Pev.len_slice; rfl; exact yes; rfl
  apply omv; rfl; rfl
  apply OL.nx
  apply W.block
  revert hbk
  revert bk
  intro bU hbU
  have hno : ∀ k, k < w.heap.size → NotOwned [blk bU 55 [Value.slice (some am) fns.length c, Value.int IntKind.i64 (mn : Int)]] k := fun k hk => NotOwned.blk (by have : w.heap.size ≤ bU := hbU; omega) NotOwned.nil
  refine W.loop (G := Nat) (fun k => k ≤ fns.length ∧ firstE funcE (fns.map Prod.fst) = firstE funcE ((fns.map Prod.fst).drop k)) (fun k => fns.length - k)
    (fun k => [(1, true, .pointer (some ⟨bU, 0, none⟩)), (33, true, .slice (some am) fns.length c), (34, true, .int .i64 (fns.length : Int)), (35, true, .int .i64 (k : Int))])
    (fun _ => Cls [blk bU 55 [Value.slice (some am) fns.length c, Value.int IntKind.i64 (mn : Int)]] [w]) 0 ⟨by omega, rfl⟩ (by exact Sub.au) (fun w' hw' => hw') ?_
  rintro k ⟨hk, hkE⟩
  apply W.sr
  apply obn; rfl; rfl; rfl; apply Bin.lss
  apply OL.nx
  apply W.seq
  (refine W.cnd (fun hltk => ?_) (fun hltk => ?_)) <;> (try (exfalso; first | omega | exact hltk trivial | contradiction))
  · have hkl : k < fns.length := by omega
    obtain ⟨a, x, hqa, hab, hx, hcF, hok⟩ := hu.get hkl
    obtain rfl := Option.some.inj hqa
    have hab : am.block < w.heap.size := hab
    have hcF : CellsAt w (am.add (k * 2)) [.int .i64 x.1.name, .slice x.2.q x.1.blocks.length x.2.c] := hcF
    have hxm2 : (fns.map Prod.fst)[k]? = some x.1 := by rw [List.getElem?_map, hx]; rfl
    have hstp := firstE_nx hxm2 hkE
    apply W.sk
    apply W.sb
    apply W.sr
    apply oop; rfl; apply Pev.idx; rfl; exact yes; rfl; exact yes; rfl; rfl; intro hcond; omega
    apply oop; rfl; apply Pev.load_keptA; rfl; exact yes; exact .head _; rfl; intro hcond; assumption; rfl; intro hcond; (rw [add_block]; assumption); intro hcond; exact NotOwned.au
    apply OL.alloc; rfl; rfl; exact CellsL.agg; (intro bk hbk; simp only [AllLe, and_true] at hbk)
    apply OL.storeB; rfl; rfl; exact CellsL.agg; rfl; rfl; rfl; exact Swap.au; exact Put.au
    apply OL.nsr
    apply oop; rfl; apply Pev.load_blkA; rfl; exact yes; exact .head _; rfl; exact Take.au
    (((first | (with_reducible apply OL.op) | (with_reducible apply QL.op)); (exact Guard.au); rfl; rfl); (exact Pev.call (v := .int .i64 (funcE x.1)) rfl (by exact Args.au) (fun _ w2 hw2 => (CheckFunc_calls x.1 x.2 w2 (hF x _ _ w2 hok hw2 (by exact mau) (fun k hk => by exact NotOwned.au))).mono (fun e w3 h => ⟨h.1, hw2.ext h.2⟩))))
    apply oas; rfl; rfl
    apply OL.nsr
    apply omv; rfl; rfl
    apply obn; rfl; rfl; rfl; apply Bin.neq
    apply OL.nx
    (refine W.cnd (fun hne => ?_) (fun hne => ?_)) <;> (try (exfalso; first | omega | exact hne trivial | contradiction))
    · apply W.sr
      apply omv; rfl; rfl
      apply oas; rfl; rfl
      apply OL.nx
      refine W.rt ?_
      ((with_reducible apply At.fin1); rfl; rfl; intro w' hw')
      rw [hUE, if_pos (by rw [hstp.2 (by omega)]; omega), hstp.2 (by omega)]
      exact ⟨rfl, by (exact hw'.fr)⟩
    apply W.skip
    with_reducible apply At.in_normal
    with_reducible apply At.next
    apply W.reg
    apply obn; rfl; rfl; rfl; apply Bin.add_in; omega
    apply omv; rfl; rfl
    apply OL.nil
    exact At.again (k + 1) ⟨by omega, hstp.1 (by omega)⟩ (by omega) (by exact Sub.au) (fun w' hw' => hw'.thin (by exact Thin.au))
  obtain rfl : k = fns.length := by omega
  have hE0 : firstE funcE (fns.map Prod.fst) = 0 := by
    rw [hkE, List.drop_of_length_le (by simp)]
    rfl
  rw [if_neg (by rw [hE0]; simp)] at hUE
  have hbl : ∀ (k : Nat) p, fns[k]? = some p → 0 < p.1.blocks.length := fun k p hp => (func_zero (firstE_zero.1 hE0 p.1 (List.mem_map.2 ⟨p, List.mem_of_getElem? hp, rfl⟩))).1
  have hfz : ∀ (k : Nat) p, fns[k]? = some p → shapeE p.1.blocks = 0 := fun k p hp => (func_zero (firstE_zero.1 hE0 p.1 (List.mem_map.2 ⟨p, List.mem_of_getElem? hp, rfl⟩))).2.2
  have hbM := hbl mn xm hxm
  obtain ⟨esM, hesM, heM⟩ := hokM.b
  have helM : esM.length = xm.1.blocks.length := by rw [← hesM, List.length_map]
  obtain ⟨aB, y, hqB, habB, hy, hcB, hokB⟩ := heM.get (show 0 < esM.length by omega)
  have habB : aB.block < w.heap.size := habB
  have hcB : CellsAt w (aB.add (0 * 7)) [.slice y.2.p.1 y.1.params.length y.2.p.2, .slice y.2.i.1 y.1.ins.length y.2.i.2, .int .i64 y.1.term.kind, .int .i64 y.1.term.arg, .int .i64 y.1.term.n, .slice y.2.t.c.1 y.1.term.cases.length y.2.t.c.2, .slice y.2.t.t.1 y.1.term.to_.length y.2.t.t.2] := hcB
  have hpar : parB (fns.map Prod.fst) mn 0 = y.1.params := by
    unfold parB
    rw [fnB_map hxm, List.getD_eq_getElem?_getD, ← hesM, List.getElem?_map, hy]
    rfl
  rw [hpar] at hUE
  rw [hqB] at hcM
  refine W.xt ?_
  with_reducible apply At.next
  apply W.seq
  apply W.sr
  apply ofa; rfl; rfl; rfl
  apply old; rfl; rfl; exact .head _; rfl; rfl
  apply ofa; rfl; rfl; rfl
  apply old; rfl; rfl; exact .head _; rfl; rfl
  apply oop; rfl; apply Pev.idx; rfl; exact yes; rfl; exact yes; rfl; rfl; intro hcond; omega
  apply oop; rfl; apply Pev.fldA; rfl; exact yes; rfl
  apply oop; rfl; apply Pev.load_kept; rfl; exact yes; exact .head _; rfl; intro hcond; apply CellsAt.at_ (by assumption) rfl; intro hcond; (simp only [add_block]; assumption); intro hcond; exact NotOwned.au
  apply oop; rfl; apply Pev.idx; rfl; exact yes; rfl; exact yes; rfl; rfl; intro hcond; omega
  apply oop; rfl; apply Pev.fldA; rfl; exact yes; rfl
  apply oop; rfl; apply Pev.load_kept; rfl; exact yes; exact .head _; rfl; intro hcond; apply CellsAt.at_ (by assumption) rfl; intro hcond; assumption; intro hcond; exact NotOwned.au
  apply oop; rfl; apply Pev.len_slice; rfl; exact yes; rfl
  apply obn; rfl; rfl; rfl; apply Bin.gtr
  apply OL.nx
  (refine W.cnd (fun h5 => ?_) (fun h5 => ?_)) <;> (try (exfalso; first | omega | exact h5 trivial | contradiction))
  · apply W.sr
    apply oas; rfl; rfl
    apply OL.nx
    refine W.rt ?_
    ((with_reducible apply At.fin1); rfl; rfl; intro w' hw')
    rw [hUE, if_pos (by omega)]
    exact ⟨rfl, by (exact hw'.fr)⟩
  rw [if_neg (by omega)] at hUE
  rw [hUE]
  clear hUE
  apply W.sk
  apply W.seq
  apply W.sr
  apply ofa; rfl; rfl; rfl
  apply old; rfl; rfl; exact .head _; rfl; rfl
  apply oop; rfl; apply Pev.len_slice; rfl; exact yes; rfl
  apply omv; rfl; rfl
  apply OL.nx
  apply W.block
  refine W.loop (G := Nat) (fun k => k ≤ fns.length ∧ firstE (fun f : Go.Ss.Fn => firstE (fun b : Bk => firstE (callE (fns.map Prod.fst)) b.ins) f.blocks) (fns.map Prod.fst) = firstE (fun f : Go.Ss.Fn => firstE (fun b : Bk => firstE (callE (fns.map Prod.fst)) b.ins) f.blocks) ((fns.map Prod.fst).drop k)) (fun k => fns.length - k)
    (fun k => [(1, true, .pointer (some ⟨bU, 0, none⟩)), (58, true, .slice (some am) fns.length c), (59, true, .int .i64 (fns.length : Int)), (60, true, .int .i64 (k : Int))])
    (fun _ => Cls [blk bU 55 [Value.slice (some am) fns.length c, Value.int IntKind.i64 (mn : Int)]] [w]) 0 ⟨by omega, rfl⟩ (by exact Sub.au) (fun w' hw' => hw') ?_
  rintro k ⟨hk, hkE⟩
  apply W.sr
  apply obn; rfl; rfl; rfl; apply Bin.lss
  apply OL.nx
  apply W.seq
  (refine W.cnd (fun hltk2 => ?_) (fun hltk2 => ?_)) <;> (try (exfalso; first | omega | exact hltk2 trivial | contradiction))
  · have hkl : k < fns.length := by omega
    obtain ⟨a, x, hqa, hab, hx, hcF, hok⟩ := hu.get hkl
    obtain rfl := Option.some.inj hqa
    have hab : am.block < w.heap.size := hab
    have hcF : CellsAt w (am.add (k * 2)) [.int .i64 x.1.name, .slice x.2.q x.1.blocks.length x.2.c] := hcF
    have hxm2 : (fns.map Prod.fst)[k]? = some x.1 := by rw [List.getElem?_map, hx]; rfl
    have hstp := firstE_nx hxm2 hkE
    have hshx := hfz k x hx
    have hblx := hok.bl
    obtain ⟨es, hes, he⟩ := hok.b
    have hel : x.1.blocks.length = es.length := by rw [← hes, List.length_map]
    apply W.sk
    apply W.sb
    apply W.sr
    apply oop; rfl; apply Pev.idx; rfl; exact yes; rfl; exact yes; rfl; rfl; intro hcond; omega
    apply oop; rfl; apply Pev.load_keptA; rfl; exact yes; exact .head _; rfl; intro hcond; assumption; rfl; intro hcond; (rw [add_block]; assumption); intro hcond; exact NotOwned.au
    apply OL.alloc; rfl; rfl; exact CellsL.agg; (intro bk hbk; simp only [AllLe, and_true] at hbk)
    apply OL.storeB; rfl; rfl; exact CellsL.agg; rfl; rfl; rfl; exact Swap.au; exact Put.au
    apply OL.nsr
    apply ofa; rfl; rfl; rfl
    apply old; rfl; rfl; exact .head _; rfl; rfl
    apply oop; rfl; apply Pev.len_slice; rfl; exact yes; rfl
    apply omv; rfl; rfl
    apply OL.nx
    apply W.block
    revert hbk
    revert bk
    intro bF hbF
    refine W.loop (G := Nat) (fun j => j ≤ es.length ∧ firstE (fun b : Bk => firstE (callE (fns.map Prod.fst)) b.ins) x.1.blocks = firstE (fun b : Bk => firstE (callE (fns.map Prod.fst)) b.ins) (x.1.blocks.drop j)) (fun j => es.length - j)
      (fun j => [(1, true, .pointer (some ⟨bU, 0, none⟩)), (58, true, .slice (some am) fns.length c), (59, true, .int .i64 (fns.length : Int)), (60, true, .int .i64 (k : Int)), (65, true, .slice x.2.q x.1.blocks.length x.2.c), (66, true, .int .i64 (x.1.blocks.length : Int)), (67, true, .int .i64 (j : Int))])
      (fun _ => Cls [blk bF 24 [.int .i64 x.1.name, .slice x.2.q x.1.blocks.length x.2.c], blk bU 55 [Value.slice (some am) fns.length c, Value.int IntKind.i64 (mn : Int)]] [w]) 0 ⟨by omega, rfl⟩ (by exact Sub.au) (fun w' hw' => hw') ?_
    rintro j ⟨hj, hjE⟩
    apply W.sr
    apply obn; rfl; rfl; rfl; apply Bin.lss
    apply OL.nx
    apply W.seq
    (refine W.cnd (fun hltj => ?_) (fun hltj => ?_)) <;> (try (exfalso; first | omega | exact hltj trivial | contradiction))
    · have hjl : j < es.length := by omega
      obtain ⟨a2, p, hqa2, hab2, hp, hcell2, hokB2⟩ := he.get hjl
      have hab2 : a2.block < w.heap.size := hab2
      have hcell2 : CellsAt w (a2.add (j * 7)) [.slice p.2.p.1 p.1.params.length p.2.p.2, .slice p.2.i.1 p.1.ins.length p.2.i.2, .int .i64 p.1.term.kind, .int .i64 p.1.term.arg, .int .i64 p.1.term.n, .slice p.2.t.c.1 p.1.term.cases.length p.2.t.c.2, .slice p.2.t.t.1 p.1.term.to_.length p.2.t.t.2] := hcell2
      have hbsk : x.1.blocks[j]? = some p.1 := by rw [← hes, List.getElem?_map, hp]; rfl
      have hstp2 := firstE_nx hbsk hjE
      have hil := hokB2.il
      obtain ⟨pi, hpi, hiarr⟩ := hokB2.i
      have hpil : p.1.ins.length = pi.length := by rw [← hpi, List.length_map]
      rw [hqa2]
      apply W.sk
      apply W.sb
      apply W.sr
      apply oop; rfl; apply Pev.idx; rfl; exact yes; rfl; exact yes; rfl; rfl; intro hcond; omega
      apply oop; rfl; apply Pev.load_keptA; rfl; exact yes; exact .head _; rfl; intro hcond; assumption; rfl; intro hcond; (rw [add_block]; assumption); intro hcond; exact NotOwned.au
      apply OL.alloc; rfl; rfl; exact CellsL.agg; (intro bk hbk; simp only [AllLe, and_true] at hbk)
      apply OL.storeB; rfl; rfl; exact CellsL.agg; rfl; rfl; rfl; exact Swap.au; exact Put.au
      apply OL.nsr
      apply ofa; rfl; rfl; rfl
      apply old; rfl; rfl; exact .head _; rfl; rfl
      apply oop; rfl; apply Pev.len_slice; rfl; exact yes; rfl
      apply omv; rfl; rfl
      apply OL.nx
      apply W.block
      revert hbk
      revert bk
      intro b9 hb9
      refine W.loop (G := Nat) (fun n => n ≤ pi.length ∧ firstE (callE (fns.map Prod.fst)) p.1.ins = firstE (callE (fns.map Prod.fst)) (p.1.ins.drop n)) (fun n => pi.length - n)
        (fun n => [(1, true, .pointer (some ⟨bU, 0, none⟩)), (58, true, .slice (some am) fns.length c), (59, true, .int .i64 (fns.length : Int)), (60, true, .int .i64 (k : Int)), (65, true, .slice (some a2) x.1.blocks.length x.2.c), (66, true, .int .i64 (x.1.blocks.length : Int)), (67, true, .int .i64 (j : Int)), (72, true, .slice p.2.i.1 p.1.ins.length p.2.i.2), (73, true, .int .i64 (p.1.ins.length : Int)), (74, true, .int .i64 (n : Int))])
        (fun _ => Cls [blk b9 41 [.slice p.2.p.1 p.1.params.length p.2.p.2, .slice p.2.i.1 p.1.ins.length p.2.i.2, .int .i64 p.1.term.kind, .int .i64 p.1.term.arg, .int .i64 p.1.term.n, .slice p.2.t.c.1 p.1.term.cases.length p.2.t.c.2, .slice p.2.t.t.1 p.1.term.to_.length p.2.t.t.2], blk bF 24 [.int .i64 x.1.name, .slice (some a2) x.1.blocks.length x.2.c], blk bU 55 [Value.slice (some am) fns.length c, Value.int IntKind.i64 (mn : Int)]] [w]) 0 ⟨by omega, rfl⟩ (by exact Sub.au) (fun w' hw' => hw') ?_
      rintro n ⟨hn, hnE⟩
      apply W.sr
      apply obn; rfl; rfl; rfl; apply Bin.lss
      apply OL.nx
      apply W.seq
      (refine W.cnd (fun hltn => ?_) (fun hltn => ?_)) <;> (try (exfalso; first | omega | exact hltn trivial | contradiction))
      · have hnl : n < pi.length := by omega
        obtain ⟨a3, iu, hq3, hab3, hiu, hcI, hokI⟩ := hiarr.get hnl
        have hab3 : a3.block < w.heap.size := hab3
        have hcI : CellsAt w (a3.add (n * 4)) (inC iu.1 iu.2) := hcI
        have hin : p.1.ins[n]? = some iu.1 := by rw [← hpi, List.getElem?_map, hiu]; rfl
        have hstp3 := firstE_nx hin hnE
        have hform := ins_form hshx hbsk hin
        have hnn : iu.1.op = 13 ∨ iu.1.op = 9 → 0 ≤ iu.1.n := fun e => by
          obtain ⟨_, _, _, _, _, _, h6⟩ := form_zero hform
          unfold numB at h6
          rw [if_neg (by omega), if_pos (by omega)] at h6
          simp only [Bool.and_eq_true, decide_eq_true_eq] at h6
          omega
        rw [hq3]
        unfold inC at hcI
        apply W.sk
        apply W.sb
        apply W.sr
        apply oop; rfl; apply Pev.idx; rfl; exact yes; rfl; exact yes; rfl; rfl; intro hcond; omega
        apply oop; rfl; apply Pev.load_keptA; rfl; exact yes; exact .head _; rfl; intro hcond; assumption; rfl; intro hcond; (rw [add_block]; assumption); intro hcond; exact NotOwned.au
        apply OL.alloc; rfl; rfl; exact CellsL.agg; (intro bk hbk; simp only [AllLe, and_true] at hbk)
        apply OL.storeB; rfl; rfl; exact CellsL.agg; rfl; rfl; rfl; exact Swap.au; exact Put.au
        apply OL.nsr
        apply oop; rfl; apply Pev.load_blkA; rfl; exact yes; apply List.Mem.tail; exact .tail _ (.tail _ (.head _)); rfl; exact Take.au
        apply oop; rfl; apply Pev.load_blkA; rfl; exact yes; exact .head _; rfl; exact Take.au
        (((first | (with_reducible apply OL.op) | (with_reducible apply QL.op)); (exact Guard.au); rfl; rfl); (exact Pev.call (v := .int .i64 (callE (fns.map Prod.fst) iu.1)) rfl (by exact Args.au) (fun _ w2 hw2 => (Calls_calls fns (some am) c mn iu.1 iu.2 w2 (hu.at hw2 (by exact mau) (fun k hk => by exact NotOwned.au)) (by omega) hbl hnn).mono (fun e w3 h => ⟨h.1, hw2.ext h.2⟩))))
        apply oas; rfl; rfl
        apply OL.nsr
        apply omv; rfl; rfl
        apply obn; rfl; rfl; rfl; apply Bin.neq
        apply OL.nx
        (refine W.cnd (fun hne => ?_) (fun hne => ?_)) <;> (try (exfalso; first | omega | exact hne trivial | contradiction))
        · apply W.sr
          apply omv; rfl; rfl
          apply oas; rfl; rfl
          apply OL.nx
          refine W.rt ?_
          ((with_reducible apply At.fin1); rfl; rfl; intro w' hw')
          rw [hstp.2 (by rw [hstp2.2 (by rw [hstp3.2 hne]; exact hne), hstp3.2 hne]; exact hne)]
          rw [hstp2.2 (by rw [hstp3.2 hne]; exact hne), hstp3.2 hne]
          exact ⟨rfl, by (exact hw'.fr)⟩
        apply W.skip
        with_reducible apply At.in_normal
        with_reducible apply At.next
        apply W.reg
        apply obn; rfl; rfl; rfl; apply Bin.add_in; omega
        apply omv; rfl; rfl
        apply OL.nil
        exact At.again (n + 1) ⟨by omega, hstp3.1 (by omega)⟩ (by omega) (by exact Sub.au) (fun w' hw' => hw'.thin (by exact Thin.au))
      obtain rfl : n = pi.length := by omega
      have hz3 : firstE (callE (fns.map Prod.fst)) p.1.ins = 0 := by
        rw [hnE, List.drop_of_length_le (by omega)]
        rfl
      refine W.xt ?_
      with_reducible apply At.in_normal
      with_reducible apply At.next
      apply W.reg
      apply obn; rfl; rfl; rfl; apply Bin.add_in; omega
      apply omv; rfl; rfl
      apply OL.nil
      exact At.again (j + 1) ⟨by omega, hstp2.1 hz3⟩ (by omega) (by exact Sub.au) (fun w' hw' => hw'.thin (by exact Thin.au))
    obtain rfl : j = es.length := by omega
    have hz2 : firstE (fun b : Bk => firstE (callE (fns.map Prod.fst)) b.ins) x.1.blocks = 0 := by
      rw [hjE, List.drop_of_length_le (by omega)]
      rfl
    refine W.xt ?_
    with_reducible apply At.in_normal
    with_reducible apply At.next
    apply W.reg
    apply obn; rfl; rfl; rfl; apply Bin.add_in; omega
    apply omv; rfl; rfl
    apply OL.nil
    exact At.again (k + 1) ⟨by omega, hstp.1 hz2⟩ (by omega) (by exact Sub.au) (fun w' hw' => hw'.thin (by exact Thin.au))
  obtain rfl : k = fns.length := by omega
  have hz1 : firstE (fun f : Go.Ss.Fn => firstE (fun b : Bk => firstE (callE (fns.map Prod.fst)) b.ins) f.blocks) (fns.map Prod.fst) = 0 := by
    rw [hkE, List.drop_of_length_le (by simp)]
    rfl
  rw [hz1]
  refine W.xt ?_
  with_reducible apply At.next
  apply W.sr
  apply oas; rfl; rfl
  apply OL.nx
  apply W.ret
  ((with_reducible apply At.fin1); rfl; rfl; intro w' hw')
  exact ⟨rfl, by (exact hw'.fr)⟩
end Go.Proofs.Ytehelljmaiophaa.ss

/- The walk of the reference's check of a unit. Conditions: none. -/
namespace Go.Proofs.Ytehelljmaiophaa.ss
set_option maxRecDepth 100000
open Go.Eng Go.RowKit Go.Ss
theorem UnitErr_calls (fns : List (Go.Ss.Fn × FnY)) (q : Option Addr) (c : Nat) (main : Int) (w : World) (hu : Arr fnR w (low w) fns q) (hl6 : fns.length ≤ 140737488355328) (hm : I64 main) :
    Calls Try.prog 25 [.agg #[.slice q fns.length c, .int .i64 main]].toArray w fun e w' => e = .returned (.int .i64 (unitE (fns.map Prod.fst) main)) ∧ Ext w w' := by
  have hUE : unitE (fns.map Prod.fst) main = if fns.length = 0 then 3 else if 256 < fns.length then 2 else if ¬ (0 ≤ main ∧ main < (fns.length : Int)) then 4 else if firstE funcE (fns.map Prod.fst) ≠ 0 then firstE funcE (fns.map Prod.fst) else if (parB (fns.map Prod.fst) main.toNat 0).length ≠ 0 then 3 else firstE (fun f => firstE (fun b => firstE (callE (fns.map Prod.fst)) b.ins) f.blocks) (fns.map Prod.fst) := by
    unfold unitE
    rw [List.length_map]
  refine enter Try.func25 rfl Try.ntmps25 rfl (Cls.start w) ?_
  (simp only [argEnv, Nat.zero_add, Nat.reduceAdd])
  apply W.sr
  apply OL.box; rfl; rfl; exact CellsL.agg; (intro bk hbk; simp only [AllLe, and_true] at hbk)
  apply oas; rfl; rfl
  apply OL.nx
  apply W.seq
  apply W.sr
  apply ofa; rfl; rfl; rfl
  apply old; rfl; rfl; exact .head _; rfl; rfl
  apply oop; rfl; apply Pev.len_slice; rfl; exact yes; rfl
  apply obn; rfl; rfl; rfl; apply Bin.eql
  apply OL.nx
  (refine W.cnd (fun h1 => ?_) (fun h1 => ?_)) <;> (try (exfalso; first | omega | exact h1 trivial | contradiction))
  · apply W.sr
    apply oas; rfl; rfl
    apply OL.nx
    refine W.rt ?_
    ((with_reducible apply At.fin1); rfl; rfl; intro w' hw')
    rw [hUE, if_pos (by omega)]
    exact ⟨rfl, by (exact hw'.fr)⟩
  rw [if_neg (by omega)] at hUE
  apply W.sk
  apply W.seq
  apply W.sr
  apply ofa; rfl; rfl; rfl
  apply old; rfl; rfl; exact .head _; rfl; rfl
  apply oop; rfl; apply Pev.len_slice; rfl; exact yes; rfl
  apply obn; rfl; rfl; rfl; apply Bin.gtr
  apply OL.nx
  (refine W.cnd (fun h2 => ?_) (fun h2 => ?_)) <;> (try (exfalso; first | omega | exact h2 trivial | contradiction))
  · apply W.sr
    apply oas; rfl; rfl
    apply OL.nx
    refine W.rt ?_
    ((with_reducible apply At.fin1); rfl; rfl; intro w' hw')
    rw [hUE, if_pos (by omega)]
    exact ⟨rfl, by (exact hw'.fr)⟩
  rw [if_neg (by omega)] at hUE
  apply W.sk
  apply W.seq
  apply W.sr
  apply ofa; rfl; rfl; rfl
  apply old; rfl; rfl; exact .head _; rfl; rfl
  apply ofa; rfl; rfl; rfl
  apply old; rfl; rfl; exact .head _; rfl; rfl
  apply oop; rfl; apply Pev.len_slice; rfl; exact yes; rfl
  apply obn; rfl; rfl; rfl; apply Bin.sub_in; omega
  (((first | (with_reducible apply OL.op) | (with_reducible apply QL.op)); (exact Guard.au); rfl; rfl); (exact Pev.call (v := .bool (decide (0 ≤ main) && decide (main ≤ (fns.length : Int) - 1))) rfl (by exact Args.au) (fun _ w2 hw2 => (Within_calls main 0 _ w2).mono (fun e w3 h => ⟨h.1, hw2.ext h.2⟩))))
  apply oop; rfl; apply Pev.not; rfl; exact yes
  apply OL.nx
  refine W.cond rfl (fun h3 => ?_) (fun h3 => ?_)
  · apply W.sr
    apply oas; rfl; rfl
    apply OL.nx
    refine W.rt ?_
    ((with_reducible apply At.fin1); rfl; rfl; intro w' hw')
    rw [hUE, if_pos (by simp at h3; omega)]
    exact ⟨rfl, by (exact hw'.fr)⟩
  have h3' : 0 ≤ main ∧ main < (fns.length : Int) := by simp at h3; omega
  rw [if_neg (by omega)] at hUE
  obtain ⟨mn, rfl⟩ : ∃ mn : Nat, main = (mn : Int) := ⟨main.toNat, by omega⟩
  have hml : mn < fns.length := by omega
  rw [Int.toNat_natCast] at hUE
  obtain ⟨am, xm, hqm, ham, hxm, hcM, hokM⟩ := hu.get hml
  have ham : am.block < w.heap.size := ham
  have hcM : CellsAt w (am.add (mn * 2)) [.int .i64 xm.1.name, .slice xm.2.q xm.1.blocks.length xm.2.c] := hcM
  subst hqm
  have hF : ∀ (x : Go.Ss.Fn × FnY) (H : List Eng.Item) (S : List World) (w2 : World), FnOk w (low w) x.1 x.2 → Cls H S w2 → w ∈ S → (∀ k, k < w.heap.size → NotOwned H k) → FnOk w2 (low w2) x.1 x.2 := fun x H S w2 h hw2 hs hno => fnR.mono (hw2.up hs) (fnR.stab (hw2.same hs hno) h)
  apply W.sk
  apply W.seq
  apply W.sr
  apply ofa; rfl; rfl; rfl
  apply old; rfl; rfl; exact .head _; rfl; rfl
  apply oop; rfl; apply Pev.len_slice; rfl; exact yes; rfl
  apply omv; rfl; rfl
  apply OL.nx
  apply W.block
  revert hbk
  revert bk
  intro bU hbU
  have hno : ∀ k, k < w.heap.size → NotOwned [blk bU 55 [Value.slice (some am) fns.length c, Value.int IntKind.i64 (mn : Int)]] k := fun k hk => NotOwned.blk (by have : w.heap.size ≤ bU := hbU; omega) NotOwned.nil
  refine W.loop (G := Nat) (fun k => k ≤ fns.length ∧ firstE funcE (fns.map Prod.fst) = firstE funcE ((fns.map Prod.fst).drop k)) (fun k => fns.length - k)
    (fun k => [(1, true, .pointer (some ⟨bU, 0, none⟩)), (30, true, .slice (some am) fns.length c), (31, true, .int .i64 (fns.length : Int)), (32, true, .int .i64 (k : Int))])
    (fun _ => Cls [blk bU 55 [Value.slice (some am) fns.length c, Value.int IntKind.i64 (mn : Int)]] [w]) 0 ⟨by omega, rfl⟩ (by exact Sub.au) (fun w' hw' => hw') ?_
  rintro k ⟨hk, hkE⟩
  apply W.sr
  apply obn; rfl; rfl; rfl; apply Bin.lss
  apply OL.nx
  apply W.seq
  (refine W.cnd (fun hltk => ?_) (fun hltk => ?_)) <;> (try (exfalso; first | omega | exact hltk trivial | contradiction))
  · have hkl : k < fns.length := by omega
    obtain ⟨a, x, hqa, hab, hx, hcF, hok⟩ := hu.get hkl
    obtain rfl := Option.some.inj hqa
    have hab : am.block < w.heap.size := hab
    have hcF : CellsAt w (am.add (k * 2)) [.int .i64 x.1.name, .slice x.2.q x.1.blocks.length x.2.c] := hcF
    have hxm2 : (fns.map Prod.fst)[k]? = some x.1 := by rw [List.getElem?_map, hx]; rfl
    have hstp := firstE_nx hxm2 hkE
    apply W.sk
    apply W.sb
    apply W.sr
    apply oop; rfl; apply Pev.idx; rfl; exact yes; rfl; exact yes; rfl; rfl; intro hcond; omega
    apply oop; rfl; apply Pev.load_keptA; rfl; exact yes; exact .head _; rfl; intro hcond; assumption; rfl; intro hcond; (rw [add_block]; assumption); intro hcond; exact NotOwned.au
    apply OL.alloc; rfl; rfl; exact CellsL.agg; (intro bk hbk; simp only [AllLe, and_true] at hbk)
    apply OL.storeB; rfl; rfl; exact CellsL.agg; rfl; rfl; rfl; exact Swap.au; exact Put.au
    apply OL.nsr
    apply oop; rfl; apply Pev.load_blkA; rfl; exact yes; exact .head _; rfl; exact Take.au
    (((first | (with_reducible apply OL.op) | (with_reducible apply QL.op)); (exact Guard.au); rfl; rfl); (exact Pev.call (v := .int .i64 (funcE x.1)) rfl (by exact Args.au) (fun _ w2 hw2 => (FuncErr_calls x.1 x.2 w2 (hF x _ _ w2 hok hw2 (by exact mau) (fun k hk => by exact NotOwned.au))).mono (fun e w3 h => ⟨h.1, hw2.ext h.2⟩))))
    apply oas; rfl; rfl
    apply OL.nsr
    apply omv; rfl; rfl
    apply obn; rfl; rfl; rfl; apply Bin.neq
    apply OL.nx
    (refine W.cnd (fun hne => ?_) (fun hne => ?_)) <;> (try (exfalso; first | omega | exact hne trivial | contradiction))
    · apply W.sr
      apply omv; rfl; rfl
      apply oas; rfl; rfl
      apply OL.nx
      refine W.rt ?_
      ((with_reducible apply At.fin1); rfl; rfl; intro w' hw')
      rw [hUE, if_pos (by rw [hstp.2 (by omega)]; omega), hstp.2 (by omega)]
      exact ⟨rfl, by (exact hw'.fr)⟩
    apply W.skip
    with_reducible apply At.in_normal
    with_reducible apply At.next
    apply W.reg
    apply obn; rfl; rfl; rfl; apply Bin.add_in; omega
    apply omv; rfl; rfl
    apply OL.nil
    exact At.again (k + 1) ⟨by omega, hstp.1 (by omega)⟩ (by omega) (by exact Sub.au) (fun w' hw' => hw'.thin (by exact Thin.au))
  obtain rfl : k = fns.length := by omega
  have hE0 : firstE funcE (fns.map Prod.fst) = 0 := by
    rw [hkE, List.drop_of_length_le (by simp)]
    rfl
  rw [if_neg (by rw [hE0]; simp)] at hUE
  have hbl : ∀ (k : Nat) p, fns[k]? = some p → 0 < p.1.blocks.length := fun k p hp => (func_zero (firstE_zero.1 hE0 p.1 (List.mem_map.2 ⟨p, List.mem_of_getElem? hp, rfl⟩))).1
  have hfz : ∀ (k : Nat) p, fns[k]? = some p → shapeE p.1.blocks = 0 := fun k p hp => (func_zero (firstE_zero.1 hE0 p.1 (List.mem_map.2 ⟨p, List.mem_of_getElem? hp, rfl⟩))).2.2
  have hbM := hbl mn xm hxm
  obtain ⟨esM, hesM, heM⟩ := hokM.b
  have helM : esM.length = xm.1.blocks.length := by rw [← hesM, List.length_map]
  obtain ⟨aB, y, hqB, habB, hy, hcB, hokB⟩ := heM.get (show 0 < esM.length by omega)
  have habB : aB.block < w.heap.size := habB
  have hcB : CellsAt w (aB.add (0 * 7)) [.slice y.2.p.1 y.1.params.length y.2.p.2, .slice y.2.i.1 y.1.ins.length y.2.i.2, .int .i64 y.1.term.kind, .int .i64 y.1.term.arg, .int .i64 y.1.term.n, .slice y.2.t.c.1 y.1.term.cases.length y.2.t.c.2, .slice y.2.t.t.1 y.1.term.to_.length y.2.t.t.2] := hcB
  have hpar : parB (fns.map Prod.fst) mn 0 = y.1.params := by
    unfold parB
    rw [fnB_map hxm, List.getD_eq_getElem?_getD, ← hesM, List.getElem?_map, hy]
    rfl
  rw [hpar] at hUE
  rw [hqB] at hcM
  refine W.xt ?_
  with_reducible apply At.next
  apply W.seq
  apply W.sr
  apply ofa; rfl; rfl; rfl
  apply old; rfl; rfl; exact .head _; rfl; rfl
  apply ofa; rfl; rfl; rfl
  apply old; rfl; rfl; exact .head _; rfl; rfl
  apply oop; rfl; apply Pev.idx; rfl; exact yes; rfl; exact yes; rfl; rfl; intro hcond; omega
  apply oop; rfl; apply Pev.fldA; rfl; exact yes; rfl
  apply oop; rfl; apply Pev.load_kept; rfl; exact yes; exact .head _; rfl; intro hcond; apply CellsAt.at_ (by assumption) rfl; intro hcond; (simp only [add_block]; assumption); intro hcond; exact NotOwned.au
  apply oop; rfl; apply Pev.idx; rfl; exact yes; rfl; exact yes; rfl; rfl; intro hcond; omega
  apply oop; rfl; apply Pev.fldA; rfl; exact yes; rfl
  apply oop; rfl; apply Pev.load_kept; rfl; exact yes; exact .head _; rfl; intro hcond; apply CellsAt.at_ (by assumption) rfl; intro hcond; assumption; intro hcond; exact NotOwned.au
  apply oop; rfl; apply Pev.len_slice; rfl; exact yes; rfl
  apply obn; rfl; rfl; rfl; apply Bin.gtr
  apply OL.nx
  (refine W.cnd (fun h5 => ?_) (fun h5 => ?_)) <;> (try (exfalso; first | omega | exact h5 trivial | contradiction))
  · apply W.sr
    apply oas; rfl; rfl
    apply OL.nx
    refine W.rt ?_
    ((with_reducible apply At.fin1); rfl; rfl; intro w' hw')
    rw [hUE, if_pos (by omega)]
    exact ⟨rfl, by (exact hw'.fr)⟩
  rw [if_neg (by omega)] at hUE
  rw [hUE]
  clear hUE
  apply W.sk
  apply W.seq
  apply W.sr
  apply ofa; rfl; rfl; rfl
  apply old; rfl; rfl; exact .head _; rfl; rfl
  apply oop; rfl; apply Pev.len_slice; rfl; exact yes; rfl
  apply omv; rfl; rfl
  apply OL.nx
  apply W.block
  refine W.loop (G := Nat) (fun k => k ≤ fns.length ∧ firstE (fun f : Go.Ss.Fn => firstE (fun b : Bk => firstE (callE (fns.map Prod.fst)) b.ins) f.blocks) (fns.map Prod.fst) = firstE (fun f : Go.Ss.Fn => firstE (fun b : Bk => firstE (callE (fns.map Prod.fst)) b.ins) f.blocks) ((fns.map Prod.fst).drop k)) (fun k => fns.length - k)
    (fun k => [(1, true, .pointer (some ⟨bU, 0, none⟩)), (55, true, .slice (some am) fns.length c), (56, true, .int .i64 (fns.length : Int)), (57, true, .int .i64 (k : Int))])
    (fun _ => Cls [blk bU 55 [Value.slice (some am) fns.length c, Value.int IntKind.i64 (mn : Int)]] [w]) 0 ⟨by omega, rfl⟩ (by exact Sub.au) (fun w' hw' => hw') ?_
  rintro k ⟨hk, hkE⟩
  apply W.sr
  apply obn; rfl; rfl; rfl; apply Bin.lss
  apply OL.nx
  apply W.seq
  (refine W.cnd (fun hltk2 => ?_) (fun hltk2 => ?_)) <;> (try (exfalso; first | omega | exact hltk2 trivial | contradiction))
  · have hkl : k < fns.length := by omega
    obtain ⟨a, x, hqa, hab, hx, hcF, hok⟩ := hu.get hkl
    obtain rfl := Option.some.inj hqa
    have hab : am.block < w.heap.size := hab
    have hcF : CellsAt w (am.add (k * 2)) [.int .i64 x.1.name, .slice x.2.q x.1.blocks.length x.2.c] := hcF
    have hxm2 : (fns.map Prod.fst)[k]? = some x.1 := by rw [List.getElem?_map, hx]; rfl
    have hstp := firstE_nx hxm2 hkE
    have hshx := hfz k x hx
    have hblx := hok.bl
    obtain ⟨es, hes, he⟩ := hok.b
    have hel : x.1.blocks.length = es.length := by rw [← hes, List.length_map]
    apply W.sk
    apply W.sb
    apply W.sr
    apply oop; rfl; apply Pev.idx; rfl; exact yes; rfl; exact yes; rfl; rfl; intro hcond; omega
    apply oop; rfl; apply Pev.load_keptA; rfl; exact yes; exact .head _; rfl; intro hcond; assumption; rfl; intro hcond; (rw [add_block]; assumption); intro hcond; exact NotOwned.au
    apply OL.alloc; rfl; rfl; exact CellsL.agg; (intro bk hbk; simp only [AllLe, and_true] at hbk)
    apply OL.storeB; rfl; rfl; exact CellsL.agg; rfl; rfl; rfl; exact Swap.au; exact Put.au
    apply OL.nsr
    apply ofa; rfl; rfl; rfl
    apply old; rfl; rfl; exact .head _; rfl; rfl
    apply oop; rfl; apply Pev.len_slice; rfl; exact yes; rfl
    apply omv; rfl; rfl
    apply OL.nx
    apply W.block
    revert hbk
    revert bk
    intro bF hbF
    refine W.loop (G := Nat) (fun j => j ≤ es.length ∧ firstE (fun b : Bk => firstE (callE (fns.map Prod.fst)) b.ins) x.1.blocks = firstE (fun b : Bk => firstE (callE (fns.map Prod.fst)) b.ins) (x.1.blocks.drop j)) (fun j => es.length - j)
      (fun j => [(1, true, .pointer (some ⟨bU, 0, none⟩)), (55, true, .slice (some am) fns.length c), (56, true, .int .i64 (fns.length : Int)), (57, true, .int .i64 (k : Int)), (62, true, .slice x.2.q x.1.blocks.length x.2.c), (63, true, .int .i64 (x.1.blocks.length : Int)), (64, true, .int .i64 (j : Int))])
      (fun _ => Cls [blk bF 24 [.int .i64 x.1.name, .slice x.2.q x.1.blocks.length x.2.c], blk bU 55 [Value.slice (some am) fns.length c, Value.int IntKind.i64 (mn : Int)]] [w]) 0 ⟨by omega, rfl⟩ (by exact Sub.au) (fun w' hw' => hw') ?_
    rintro j ⟨hj, hjE⟩
    apply W.sr
    apply obn; rfl; rfl; rfl; apply Bin.lss
    apply OL.nx
    apply W.seq
    (refine W.cnd (fun hltj => ?_) (fun hltj => ?_)) <;> (try (exfalso; first | omega | exact hltj trivial | contradiction))
    · have hjl : j < es.length := by omega
      obtain ⟨a2, p, hqa2, hab2, hp, hcell2, hokB2⟩ := he.get hjl
      have hab2 : a2.block < w.heap.size := hab2
      have hcell2 : CellsAt w (a2.add (j * 7)) [.slice p.2.p.1 p.1.params.length p.2.p.2, .slice p.2.i.1 p.1.ins.length p.2.i.2, .int .i64 p.1.term.kind, .int .i64 p.1.term.arg, .int .i64 p.1.term.n, .slice p.2.t.c.1 p.1.term.cases.length p.2.t.c.2, .slice p.2.t.t.1 p.1.term.to_.length p.2.t.t.2] := hcell2
      have hbsk : x.1.blocks[j]? = some p.1 := by rw [← hes, List.getElem?_map, hp]; rfl
      have hstp2 := firstE_nx hbsk hjE
      have hil := hokB2.il
      obtain ⟨pi, hpi, hiarr⟩ := hokB2.i
      have hpil : p.1.ins.length = pi.length := by rw [← hpi, List.length_map]
      rw [hqa2]
      apply W.sk
      apply W.sb
      apply W.sr
      apply oop; rfl; apply Pev.idx; rfl; exact yes; rfl; exact yes; rfl; rfl; intro hcond; omega
      apply oop; rfl; apply Pev.load_keptA; rfl; exact yes; exact .head _; rfl; intro hcond; assumption; rfl; intro hcond; (rw [add_block]; assumption); intro hcond; exact NotOwned.au
      apply OL.alloc; rfl; rfl; exact CellsL.agg; (intro bk hbk; simp only [AllLe, and_true] at hbk)
      apply OL.storeB; rfl; rfl; exact CellsL.agg; rfl; rfl; rfl; exact Swap.au; exact Put.au
      apply OL.nsr
      apply ofa; rfl; rfl; rfl
      apply old; rfl; rfl; exact .head _; rfl; rfl
      apply oop; rfl; apply Pev.len_slice; rfl; exact yes; rfl
      apply omv; rfl; rfl
      apply OL.nx
      apply W.block
      revert hbk
      revert bk
      intro b9 hb9
      refine W.loop (G := Nat) (fun n => n ≤ pi.length ∧ firstE (callE (fns.map Prod.fst)) p.1.ins = firstE (callE (fns.map Prod.fst)) (p.1.ins.drop n)) (fun n => pi.length - n)
        (fun n => [(1, true, .pointer (some ⟨bU, 0, none⟩)), (55, true, .slice (some am) fns.length c), (56, true, .int .i64 (fns.length : Int)), (57, true, .int .i64 (k : Int)), (62, true, .slice (some a2) x.1.blocks.length x.2.c), (63, true, .int .i64 (x.1.blocks.length : Int)), (64, true, .int .i64 (j : Int)), (69, true, .slice p.2.i.1 p.1.ins.length p.2.i.2), (70, true, .int .i64 (p.1.ins.length : Int)), (71, true, .int .i64 (n : Int))])
        (fun _ => Cls [blk b9 41 [.slice p.2.p.1 p.1.params.length p.2.p.2, .slice p.2.i.1 p.1.ins.length p.2.i.2, .int .i64 p.1.term.kind, .int .i64 p.1.term.arg, .int .i64 p.1.term.n, .slice p.2.t.c.1 p.1.term.cases.length p.2.t.c.2, .slice p.2.t.t.1 p.1.term.to_.length p.2.t.t.2], blk bF 24 [.int .i64 x.1.name, .slice (some a2) x.1.blocks.length x.2.c], blk bU 55 [Value.slice (some am) fns.length c, Value.int IntKind.i64 (mn : Int)]] [w]) 0 ⟨by omega, rfl⟩ (by exact Sub.au) (fun w' hw' => hw') ?_
      rintro n ⟨hn, hnE⟩
      apply W.sr
      apply obn; rfl; rfl; rfl; apply Bin.lss
      apply OL.nx
      apply W.seq
      (refine W.cnd (fun hltn => ?_) (fun hltn => ?_)) <;> (try (exfalso; first | omega | exact hltn trivial | contradiction))
      · have hnl : n < pi.length := by omega
        obtain ⟨a3, iu, hq3, hab3, hiu, hcI, hokI⟩ := hiarr.get hnl
        have hab3 : a3.block < w.heap.size := hab3
        have hcI : CellsAt w (a3.add (n * 4)) (inC iu.1 iu.2) := hcI
        have hin : p.1.ins[n]? = some iu.1 := by rw [← hpi, List.getElem?_map, hiu]; rfl
        have hstp3 := firstE_nx hin hnE
        have hform := ins_form hshx hbsk hin
        have hnn : iu.1.op = 13 ∨ iu.1.op = 9 → 0 ≤ iu.1.n := fun e => by
          obtain ⟨_, _, _, _, _, _, h6⟩ := form_zero hform
          unfold numB at h6
          rw [if_neg (by omega), if_pos (by omega)] at h6
          simp only [Bool.and_eq_true, decide_eq_true_eq] at h6
          omega
        rw [hq3]
        unfold inC at hcI
        apply W.sk
        apply W.sb
        apply W.sr
        apply oop; rfl; apply Pev.idx; rfl; exact yes; rfl; exact yes; rfl; rfl; intro hcond; omega
        apply oop; rfl; apply Pev.load_keptA; rfl; exact yes; exact .head _; rfl; intro hcond; assumption; rfl; intro hcond; (rw [add_block]; assumption); intro hcond; exact NotOwned.au
        apply OL.alloc; rfl; rfl; exact CellsL.agg; (intro bk hbk; simp only [AllLe, and_true] at hbk)
        apply OL.storeB; rfl; rfl; exact CellsL.agg; rfl; rfl; rfl; exact Swap.au; exact Put.au
        apply OL.nx
        apply W.seq
        apply W.sr
        apply ofa; rfl; rfl; rfl
        apply old; rfl; rfl; exact .head _; rfl; rfl
        apply obn; rfl; rfl; rfl; apply Bin.neq
        apply omv; rfl; rfl
        apply oy; rfl; rfl; rfl; apply Pev.fld; rfl; exact yes; rfl
        apply oy; rfl; rfl; rfl; apply Pev.load_blk; rfl; exact fun h => h; exact .head _; rfl; rfl
        apply oy; rfl; rfl; rfl; apply Pev.bin; rfl; exact fun h => h; rfl; exact yes; intro hcond; apply Bin.neq
        apply oop; rfl; apply Pev.pick_and; rfl; exact yes; rfl; exact fun h => h
        apply OL.nx
        have hT : ∀ e : Int, callE (fns.map Prod.fst) iu.1 = e → e ≠ 0 → firstE (fun f : Go.Ss.Fn => firstE (fun b : Bk => firstE (callE (fns.map Prod.fst)) b.ins) f.blocks) (fns.map Prod.fst) = e := fun e he h0 => by
          have hne : callE (fns.map Prod.fst) iu.1 ≠ 0 := by rw [he]; exact h0
          rw [hstp.2 (by rw [hstp2.2 (by rw [hstp3.2 hne]; exact hne), hstp3.2 hne]; exact hne)]
          rw [hstp2.2 (by rw [hstp3.2 hne]; exact hne), hstp3.2 hne]
          exact he
        by_cases hop : iu.1.op = 13 ∨ iu.1.op = 9
        · refine W.cond rfl (fun h => by simp at h; omega) (fun _ => ?_)
          have hn0 := hnn hop
          obtain ⟨z, hz⟩ : ∃ z : Nat, iu.1.n = (z : Int) := ⟨iu.1.n.toNat, by omega⟩
          have hE : callE (fns.map Prod.fst) iu.1 = if (fns.length : Int) ≤ (z : Int) then 4 else if (iu.1.op = 13 ∧ (parB (fns.map Prod.fst) z 0).length ≠ iu.1.args.length) ∨ (iu.1.op = 9 ∧ (parB (fns.map Prod.fst) z 0).length = 0) then 3 else 0 := by
            unfold callE
            rw [if_neg (by omega), List.length_map, hz, Int.toNat_natCast]
          rw [hz]
          apply W.sk
          apply W.seq
          apply W.sr
          apply ofa; rfl; rfl; rfl
          apply old; rfl; rfl; exact .head _; rfl; rfl
          apply ofa; rfl; rfl; rfl
          apply old; rfl; rfl; apply List.Mem.tail; exact .tail _ (.tail _ (.head _)); rfl; rfl
          apply oop; rfl; apply Pev.len_slice; rfl; exact yes; rfl
          apply obn; rfl; rfl; rfl; apply Bin.geq
          apply OL.nx
          (refine W.cnd (fun h7 => ?_) (fun h7 => ?_)) <;> (try (exfalso; first | omega | exact h7 trivial | contradiction))
          · rw [if_pos (by omega)] at hE
            rw [hT 4 hE (by decide)]
            apply W.sr
            apply oas; rfl; rfl
            apply OL.nx
            refine W.rt ?_
            ((with_reducible apply At.fin1); rfl; rfl; intro w' hw')
            exact ⟨rfl, by (exact hw'.fr)⟩
          rw [if_neg (by omega)] at hE
          have hzl : z < fns.length := by omega
          obtain ⟨a4, x4, hqa4, hab4, hx4, hcF4, hok4⟩ := hu.get hzl
          obtain rfl := Option.some.inj hqa4
          have hcF4 : CellsAt w (am.add (z * 2)) [.int .i64 x4.1.name, .slice x4.2.q x4.1.blocks.length x4.2.c] := hcF4
          have hbl4 := hbl z x4 hx4
          obtain ⟨es4, hes4, he4⟩ := hok4.b
          have hel4 : es4.length = x4.1.blocks.length := by rw [← hes4, List.length_map]
          obtain ⟨a5, y5, hq5, hab5, hy5, hcB5, hokB5⟩ := he4.get (show 0 < es4.length by omega)
          have hab5 : a5.block < w.heap.size := hab5
          have hcB5 : CellsAt w (a5.add (0 * 7)) [.slice y5.2.p.1 y5.1.params.length y5.2.p.2, .slice y5.2.i.1 y5.1.ins.length y5.2.i.2, .int .i64 y5.1.term.kind, .int .i64 y5.1.term.arg, .int .i64 y5.1.term.n, .slice y5.2.t.c.1 y5.1.term.cases.length y5.2.t.c.2, .slice y5.2.t.t.1 y5.1.term.to_.length y5.2.t.t.2] := hcB5
          have hpar5 : parB (fns.map Prod.fst) z 0 = y5.1.params := by
            unfold parB
            rw [fnB_map hx4, List.getD_eq_getElem?_getD, ← hes4, List.getElem?_map, hy5]
            rfl
          rw [hpar5] at hE
          rw [hq5] at hcF4
          apply W.sk
          apply W.sr
          apply ofa; rfl; rfl; rfl
          apply old; rfl; rfl; apply List.Mem.tail; exact .tail _ (.tail _ (.head _)); rfl; rfl
          apply ofa; rfl; rfl; rfl
          apply old; rfl; rfl; exact .head _; rfl; rfl
          apply oop; rfl; apply Pev.idx; rfl; exact yes; rfl; exact yes; rfl; rfl; intro hcond; omega
          apply oop; rfl; apply Pev.fldA; rfl; exact yes; rfl
          apply oop; rfl; apply Pev.load_kept; rfl; exact yes; exact .head _; rfl; intro hcond; apply CellsAt.at_ (by assumption) rfl; intro hcond; (simp only [add_block]; assumption); intro hcond; exact NotOwned.au
          apply oop; rfl; apply Pev.idx; rfl; exact yes; rfl; exact yes; rfl; rfl; intro hcond; omega
          apply oop; rfl; apply Pev.fldA; rfl; exact yes; rfl
          apply oop; rfl; apply Pev.load_kept; rfl; exact yes; exact .head _; rfl; intro hcond; apply CellsAt.at_ (by assumption) rfl; intro hcond; assumption; intro hcond; exact NotOwned.au
          apply oop; rfl; apply Pev.len_slice; rfl; exact yes; rfl
          apply oas; rfl; rfl
          apply OL.nsr
          apply ofa; rfl; rfl; rfl
          apply old; rfl; rfl; exact .head _; rfl; rfl
          apply obn; rfl; rfl; rfl; apply Bin.eql
          apply omv; rfl; rfl
          apply oy; rfl; rfl; rfl; apply Pev.move; rfl; exact yes
          apply oy; rfl; rfl; rfl; apply Pev.fld; rfl; exact yes; rfl
          apply oy; rfl; rfl; rfl; apply Pev.load_blk; rfl; exact fun h => h; exact .head _; rfl; rfl
          apply oy; rfl; rfl; rfl; apply Pev.len_slice; rfl; exact fun h => h; rfl
          apply oy; rfl; rfl; rfl; apply Pev.bin; rfl; exact fun h => h; rfl; exact fun h => h; intro hcond; apply Bin.neq
          apply oop; rfl; apply Pev.pick_and; rfl; exact yes; rfl; exact fun h => h
          apply omv; rfl; rfl
          apply ono; rfl; rfl; rfl; apply Pev.fld; rfl; exact yes; rfl
          apply ono; rfl; rfl; rfl; apply Pev.load_blk; rfl; exact fun h => h; exact .head _; rfl; rfl
          apply ono; rfl; rfl; rfl; apply Pev.bin; rfl; exact fun h => h; rfl; exact yes; intro hcond; apply Bin.eql
          apply ono; rfl; rfl; rfl; apply Pev.move; rfl; exact fun h => h
          apply OL.op; exact Guard.cyes rfl rfl; rfl; rfl; apply Pev.move; rfl; exact yes
          apply OL.op; exact Guard.cyes rfl rfl; rfl; rfl; apply Pev.bin; rfl; exact fun h => h; rfl; exact yes; intro hcond; apply Bin.eql
          apply ono; rfl; rfl; rfl; apply Pev.pick_and; rfl; exact fun h => h; rfl; exact fun h => h
          apply oop; rfl; apply Pev.pick_or; rfl; exact yes; rfl; exact fun h => h
          apply OL.nx
          refine W.cond rfl (fun h => ?_) (fun h => ?_)
          · have hbad : (iu.1.op = 13 ∧ y5.1.params.length ≠ iu.1.args.length) ∨ (iu.1.op = 9 ∧ y5.1.params.length = 0) := by
              rcases hop with e | e
              · rw [e] at h ⊢; simp at h; omega
              · rw [e] at h ⊢; simp at h; simp [h]
            rw [if_pos hbad] at hE
            rw [hT 3 hE (by decide)]
            apply W.sr
            apply oas; rfl; rfl
            apply OL.nx
            refine W.rt ?_
            ((with_reducible apply At.fin1); rfl; rfl; intro w' hw')
            exact ⟨rfl, by (exact hw'.fr)⟩
          · have hbad : ¬ ((iu.1.op = 13 ∧ y5.1.params.length ≠ iu.1.args.length) ∨ (iu.1.op = 9 ∧ y5.1.params.length = 0)) := by
              rcases hop with e | e
              · rw [e] at h ⊢; simp at h; omega
              · rw [e] at h ⊢; simp at h; simp [h]
            rw [if_neg hbad] at hE
            apply W.skip
            with_reducible apply At.in_normal
            with_reducible apply At.next
            apply W.reg
            apply obn; rfl; rfl; rfl; apply Bin.add_in; omega
            apply omv; rfl; rfl
            apply OL.nil
            exact At.again (n + 1) ⟨by omega, hstp3.1 hE⟩ (by omega) (by exact Sub.au) (fun w' hw' => hw'.thin (by exact Thin.au))
        refine W.cond rfl (fun _ => ?_) (fun h => by simp at h; omega)
        have hE : callE (fns.map Prod.fst) iu.1 = 0 := by
          unfold callE
          rw [if_pos (by omega)]
        refine W.xt ?_
        with_reducible apply At.next
        apply W.reg
        apply obn; rfl; rfl; rfl; apply Bin.add_in; omega
        apply omv; rfl; rfl
        apply OL.nil
        exact At.again (n + 1) ⟨by omega, hstp3.1 hE⟩ (by omega) (by exact Sub.au) (fun w' hw' => hw'.thin (by exact Thin.au))
      obtain rfl : n = pi.length := by omega
      have hz3 : firstE (callE (fns.map Prod.fst)) p.1.ins = 0 := by
        rw [hnE, List.drop_of_length_le (by omega)]
        rfl
      refine W.xt ?_
      with_reducible apply At.in_normal
      with_reducible apply At.next
      apply W.reg
      apply obn; rfl; rfl; rfl; apply Bin.add_in; omega
      apply omv; rfl; rfl
      apply OL.nil
      exact At.again (j + 1) ⟨by omega, hstp2.1 hz3⟩ (by omega) (by exact Sub.au) (fun w' hw' => hw'.thin (by exact Thin.au))
    obtain rfl : j = es.length := by omega
    have hz2 : firstE (fun b : Bk => firstE (callE (fns.map Prod.fst)) b.ins) x.1.blocks = 0 := by
      rw [hjE, List.drop_of_length_le (by omega)]
      rfl
    refine W.xt ?_
    with_reducible apply At.in_normal
    with_reducible apply At.next
    apply W.reg
    apply obn; rfl; rfl; rfl; apply Bin.add_in; omega
    apply omv; rfl; rfl
    apply OL.nil
    exact At.again (k + 1) ⟨by omega, hstp.1 hz2⟩ (by omega) (by exact Sub.au) (fun w' hw' => hw'.thin (by exact Thin.au))
  obtain rfl : k = fns.length := by omega
  have hz1 : firstE (fun f : Go.Ss.Fn => firstE (fun b : Bk => firstE (callE (fns.map Prod.fst)) b.ins) f.blocks) (fns.map Prod.fst) = 0 := by
    rw [hkE, List.drop_of_length_le (by simp)]
    rfl
  rw [hz1]
  refine W.xt ?_
  with_reducible apply At.next
  apply W.sr
  apply oas; rfl; rfl
  apply OL.nx
  apply W.ret
  ((with_reducible apply At.fin1); rfl; rfl; intro w' hw')
  exact ⟨rfl, by (exact hw'.fr)⟩
end Go.Proofs.Ytehelljmaiophaa.ss

/- The walk of ssa.Run. Conditions: none. -/
namespace Go.Proofs.Ytehelljmaiophaa.ss
set_option maxRecDepth 100000
open Go.Eng Go.RowKit Go.Ss
def m0 (fs : List Go.Ss.Fn) (main : Int) (fuel : Nat) : Go.Ss.Mch := ⟨[newF fs main [] 0], [], [], fuel⟩
def RunPost (fs : List Go.Ss.Fn) (main fuel : Int) (w : World) (e : Ending) (w' : World) : Prop :=
  (unitE fs main ≠ 0 ∧ e = .returned (.tuple #[.agg #[.slice none 0 0, .int .i64 0, .int .i64 0], .int .i64 0, .int .i64 (unitE fs main)]) ∧ Cls [] [w] w') ∨
  (unitE fs main = 0 ∧ fuel < 1 ∧ e = .returned (.tuple #[.agg #[.slice none 0 0, .int .i64 0, .int .i64 0], .int .i64 0, .int .i64 4]) ∧ Cls [] [w] w') ∨
  (unitE fs main = 0 ∧ 1 ≤ fuel ∧ ∃ f, Go.Ss.Ends fs (m0 fs main fuel.toNat) f ∧ PerfPost w fuel f e w')
def perfV (fuel : Int) (f : Go.Ss.Fin) (q : Option Addr) (c : Nat) : Value := match f with
  | .short => .tuple #[.agg #[.slice none 0 0, .int .i64 0, .int .i64 0], .int .i64 0, .int .i64 13]
  | .done en va out left => .tuple #[.agg #[.slice q out.length c, .int .i64 en, .int .i64 va], .int .i64 (fuel - left), .int .i64 0]
def perfI (B : Nat) (f : Go.Ss.Fin) (O : Nat → Prop) (q : Option Addr) (c : Nat) : List Eng.Item := match f with
  | .short => []
  | .done en va out left => [row B O q out.length c 3 1 (ints out)]
theorem Run_calls (fns : List (Go.Ss.Fn × FnY)) (q : Option Addr) (c : Nat) (main fuel : Int) (hf : fuel ≤ 100000) (hl6 : fns.length ≤ 140737488355328) (hm : I64 main) (w : World) (hu : Arr fnR w (low w) fns q) :
    Calls Try.prog 24 [.agg #[.slice q fns.length c, .int .i64 main], .int .i64 fuel].toArray w fun e w' => RunPost (fns.map Prod.fst) main fuel w e w' := by
  obtain ⟨er, her⟩ : ∃ er, unitE (fns.map Prod.fst) main = er := ⟨_, rfl⟩
  unfold RunPost
  rw [her]
  refine enter Try.func24 rfl Try.ntmps24 rfl (Cls.start w) ?_
  (simp only [argEnv, Nat.zero_add, Nat.reduceAdd])
  apply W.sr
  apply OL.box; rfl; rfl; exact CellsL.agg; (intro bk hbk; simp only [AllLe, and_true] at hbk)
  apply OL.alloc; rfl; rfl; exact CellsL.agg; (intro bk hbk; simp only [AllLe, and_true] at hbk)
  apply oas; rfl; rfl
  apply oas; rfl; rfl
  apply OL.nx
  apply W.seq
  apply W.sr
  apply oop; rfl; apply Pev.load_blkA; rfl; exact yes; exact .tail _ (.head _); rfl; exact Take.au
  (((first | (with_reducible apply OL.op) | (with_reducible apply QL.op)); (exact Guard.au); rfl; rfl); (exact Pev.call (v := .int .i64 er) rfl (by exact Args.au) (fun _ w2 hw2 => (Check_calls fns q c main w2 (hu.at hw2 (by exact mau) (fun k hk => by exact NotOwned.au)) hl6 hm).mono (fun e w3 h => ⟨by rw [h.1, her], hw2.ext h.2⟩))))
  apply oas; rfl; rfl
  apply OL.nsr
  apply omv; rfl; rfl
  apply obn; rfl; rfl; rfl; apply Bin.neq
  apply OL.nx
  rename_i bU hbU
  revert hbk
  revert bk
  intro bR hbR
  have hbU' : w.heap.size ≤ bU := hbU
  have hbR' : w.heap.size ≤ bR := hbR
  (refine W.cnd (fun h1 => ?_) (fun h1 => ?_)) <;> (try (exfalso; first | omega | exact h1 trivial | contradiction))
  · apply W.sr
    apply oop; rfl; apply Pev.build; rfl; exact CellsL.agg; rfl; exact Fill.au; rfl
    apply omv; rfl; rfl
    apply OL.storeB; rfl; rfl; exact CellsL.agg; rfl; rfl; rfl; exact Swap.au; exact Put.au
    apply oas; rfl; rfl
    apply oas; rfl; rfl
    apply OL.nx
    refine W.rt ?_
    refine At.finCTT (b := bR) (cs := [.slice none 0 0, .int .i64 0, .int .i64 0]) rfl rfl (by exact mau) rfl rfl rfl rfl (fun w' hw' => .inl ⟨h1, rfl, hw'.thin (.any (fun k hk => by rw [show k = bR from hk]; exact ⟨hbR', trivial⟩) (.any (fun k hk => by rw [show k = bU from hk]; exact ⟨hbU', trivial⟩) Thin.nil))⟩)
  obtain rfl : er = 0 := by omega
  apply W.sk
  apply W.seq
  apply W.sr
  apply omv; rfl; rfl
  (((first | (with_reducible apply OL.op) | (with_reducible apply QL.op)); (exact Guard.au); rfl; rfl); (exact Pev.call (v := .bool (decide (1 ≤ fuel) && decide (fuel ≤ 1000000))) rfl (by exact Args.au) (fun _ w2 hw2 => (within_calls fuel 1 1000000 w2).mono (fun e w3 h => ⟨h.1, hw2.ext h.2⟩))))
  apply oop; rfl; apply Pev.not; rfl; exact yes
  apply OL.nx
  refine W.cond rfl (fun h3 => ?_) (fun h3 => ?_)
  · apply W.sr
    apply oop; rfl; apply Pev.build; rfl; exact CellsL.agg; rfl; exact Fill.au; rfl
    apply OL.storeB; rfl; rfl; exact CellsL.agg; rfl; rfl; rfl; exact Swap.au; exact Put.au
    apply oas; rfl; rfl
    apply oas; rfl; rfl
    apply OL.nx
    refine W.rt ?_
    refine At.finCTT (b := bR) (cs := [.slice none 0 0, .int .i64 0, .int .i64 0]) rfl rfl (by exact mau) rfl rfl rfl rfl (fun w' hw' => .inr (.inl ⟨rfl, by simp at h3; omega, rfl, hw'.thin (.any (fun k hk => by rw [show k = bR from hk]; exact ⟨hbR', trivial⟩) (.any (fun k hk => by rw [show k = bU from hk]; exact ⟨hbU', trivial⟩) Thin.nil))⟩))
  have hf1 : 1 ≤ fuel := by simp at h3; omega
  obtain ⟨hU, hm0, hml, h256, hp0⟩ := unitE_zero her
  rw [List.length_map] at hml h256
  obtain ⟨mn, rfl⟩ : ∃ mn : Nat, main = (mn : Int) := ⟨main.toNat, by omega⟩
  obtain ⟨fu, rfl⟩ : ∃ fu : Nat, fuel = (fu : Int) := ⟨fuel.toNat, by omega⟩
  rw [Int.toNat_natCast] at hp0
  apply W.sk
  apply W.sr
  apply oop; rfl; apply Pev.load_blkA; rfl; exact yes; exact .tail _ (.head _); rfl; exact Take.au
  apply omv; rfl; rfl
  refine OL.callE (α := Go.Ss.Fin × (Nat → Prop) × Option Addr × Nat) (fun z => perfV fu z.1 z.2.2.1 z.2.2.2) (fun z => Go.Ss.Ends (fns.map Prod.fst) (m0 (fns.map Prod.fst) mn fu) z.1) (fun z => Cls (perfI w.heap.size z.1 z.2.1 z.2.2.1 z.2.2.2 ++ [blk bR 58 [.slice none 0 0, .int .i64 0, .int .i64 0], blk bU 55 [.slice q fns.length c, .int .i64 (mn : Int)]]) [w]) rfl rfl (by exact Args.au) (fun w2 hw2 => (Perform_calls fns q c mn fu hU (by omega) (by omega) (by omega) (by omega) hp0 w2 (hu.at hw2 (by exact mau) (fun k hk => by exact NotOwned.au))).mono fun e w3 ⟨f, h1, h2⟩ => ?_) ?_
  · have hsz : w.heap.size ≤ w2.heap.size := (hw2.kp w (.head _)).size
    cases f with
    | short => exact ⟨⟨.short, fun _ => False, none, 0⟩, h2.1, h1, hw2.ext (h2.2.toExt (.head _) (fun k hk => NotOwned.nil))⟩
    | done en va out left =>
      obtain ⟨O, q', c', h3, h4⟩ := h2
      exact ⟨⟨.done en va out left, fun k => w2.heap.size ≤ k ∧ O k, q', c'⟩, h3, h1, (hw2.plus h4 (fun k hk => hk.1)).row_base hsz⟩
  rintro ⟨f, O, q', c'⟩ hE
  simp only at hE ⊢
  cases f with
  | short =>
    simp only [perfV, perfI, List.nil_append]
    apply oex; rfl; rfl; rfl
    apply oex; rfl; rfl; rfl
    apply oex; rfl; rfl; rfl
    apply OL.storeB; rfl; rfl; exact CellsL.agg; rfl; rfl; rfl; exact Swap.au; exact Put.au
    apply oas; rfl; rfl
    apply oas; rfl; rfl
    apply OL.nx
    apply W.ret
    exact At.finCTT (b := bR) (cs := [.slice none 0 0, .int .i64 0, .int .i64 0]) rfl rfl (by exact mau) rfl rfl rfl rfl (fun w' hw' => .inr (.inr ⟨trivial, hf1, .short, by rw [Int.toNat_natCast]; exact hE, rfl, hw'.thin (.any (fun k hk => by rw [show k = bR from hk]; exact ⟨hbR', trivial⟩) (.any (fun k hk => by rw [show k = bU from hk]; exact ⟨hbU', trivial⟩) Thin.nil))⟩))
  | done en va out left =>
    simp only [perfV, perfI, List.cons_append, List.nil_append]
    apply oex; rfl; rfl; rfl
    apply oex; rfl; rfl; rfl
    apply oex; rfl; rfl; rfl
    apply OL.storeB; rfl; rfl; exact CellsL.agg; rfl; rfl; rfl; exact Swap.au; exact Put.au
    apply oas; rfl; rfl
    apply oas; rfl; rfl
    apply OL.nx
    apply W.ret
    exact At.finCTT (b := bR) (cs := [.slice q' out.length c', .int .i64 en, .int .i64 va]) rfl rfl (by exact mau) rfl rfl rfl rfl (fun w' hw' => .inr (.inr ⟨trivial, hf1, .done en va out left, by rw [Int.toNat_natCast]; exact hE, O, q', c', rfl, hw'.thin (.keep (.any (fun k hk => by rw [show k = bR from hk]; exact ⟨hbR', trivial⟩) (.any (fun k hk => by rw [show k = bU from hk]; exact ⟨hbU', trivial⟩) Thin.nil)))⟩))
end Go.Proofs.Ytehelljmaiophaa.ss




/- The walks of slices.IndexFunc and ContainsFunc at blocks and instructions, of live's defined and of the reference's Defines. Conditions: none. -/
namespace Go.Ss
open Go.Eng Go.RowKit
def idxG {α : Type} (f : α → Bool) : List α → Nat → Int
  | [], _ => -1
  | p :: r, i => if f p = true then (i : Int) else idxG f r (i + 1)
theorem idxG_drop {α : Type} {f : α → Bool} {l : List α} {i k : Nat} {p : α} (h : l[i]? = some p) : idxG f (l.drop i) k = if f p = true then (k : Int) else idxG f (l.drop (i + 1)) (k + 1) := by
  obtain ⟨h1, rfl⟩ := List.getElem?_eq_some_iff.1 h
  rw [List.drop_eq_getElem_cons h1, idxG]
theorem idxG_any {α : Type} (f : α → Bool) : ∀ (ps : List α) (i : Nat), decide (0 ≤ idxG f ps i) = ps.any f
  | [], i => rfl
  | p :: r, i => by
    rw [idxG, List.any_cons]
    split
    · rename_i h
      rw [h, Bool.true_or]
      simp
    · rename_i h
      rw [idxG_any f r (i + 1), Bool.eq_false_iff.2 h, Bool.false_or]
end Go.Ss
namespace Go.Proofs.Ytehelljmaiophaa.ss
set_option maxRecDepth 100000
open Go.Eng Go.RowKit Go.Ss
theorem KIndexFunc_calls (q : Option Addr) (cap : Nat) (l : List (Bk × BkY)) (f : FuncId) (first caps : List Value) (pr : Bk × BkY → Bool) (w : World) (hlen : l.length ≤ 9223372036854775807) (h : Arr bkR w (low w) l q)
    (hf : callable Try.prog f = true) (hp : ∀ p ∈ l, ∀ w', Ext w w' → Calls Try.prog f (first ++ [Value.agg (bkR.cells p.1 p.2).toArray] ++ caps).toArray w' fun e w'' => e = .returned (.bool (pr p)) ∧ Ext w' w'') :
    Calls Try.prog 115 [.slice q l.length cap, .func (.func f) first.toArray caps.toArray].toArray w fun e w' => e = .returned (.int .i64 (idxG pr l 0)) ∧ Ext w w' := by
  refine enter Try.func115 rfl Try.ntmps115 rfl (Cls.start w) ?_
  (simp only [argEnv, Nat.zero_add, Nat.reduceAdd])
  apply W.sr
  apply oas; rfl; rfl
  apply OL.nx
  apply W.seq
  apply W.sr
  apply omv; rfl; rfl
  apply oop; rfl; apply Pev.len_slice; rfl; exact yes; rfl
  apply omv; rfl; rfl
  apply OL.nx
  apply W.block
  refine W.loop (G := Nat) (fun i => i ≤ l.length ∧ idxG pr (l.drop i) i = idxG pr l 0) (fun i => l.length - i)
    (fun i => [(8, true, .int .i64 (i : Int)), (7, true, .int .i64 (l.length : Int)), (0, true, .slice q l.length cap), (1, true, .func (.func f) first.toArray caps.toArray)])
    (fun i => Cls [] [w]) 0 ⟨by omega, rfl⟩ (by exact Sub.au) (fun w' hw' => hw') ?_
  rintro i ⟨hi, hrest⟩
  apply W.sr
  apply obn; rfl; rfl; rfl; apply Bin.lss
  apply OL.nx
  apply W.seq
  (refine W.cnd (fun hlt => ?_) (fun hlt => ?_)) <;> (try (exfalso; first | omega | exact hlt trivial | contradiction))
  · obtain ⟨a, p, rfl, hab, hu, hcell, hok⟩ := h.get (show i < l.length by omega)
    have hab : a.block < w.heap.size := hab
    have hcell : CellsAt w (a.add (i * 7)) [.slice p.2.p.1 p.1.params.length p.2.p.2, .slice p.2.i.1 p.1.ins.length p.2.i.2, .int .i64 p.1.term.kind, .int .i64 p.1.term.arg, .int .i64 p.1.term.n, .slice p.2.t.c.1 p.1.term.cases.length p.2.t.c.2, .slice p.2.t.t.1 p.1.term.to_.length p.2.t.t.2] := hcell
    have hpu := fun w3 => hp p (List.mem_of_getElem? hu) w3
    have hpu : ∀ w3, Ext w w3 → Calls Try.prog f (first ++ [Value.agg ([.slice p.2.p.1 p.1.params.length p.2.p.2, .slice p.2.i.1 p.1.ins.length p.2.i.2, .int .i64 p.1.term.kind, .int .i64 p.1.term.arg, .int .i64 p.1.term.n, .slice p.2.t.c.1 p.1.term.cases.length p.2.t.c.2, .slice p.2.t.t.1 p.1.term.to_.length p.2.t.t.2] : List Value).toArray] ++ caps).toArray w3 fun e w'' => e = .returned (.bool (pr p)) ∧ Ext w3 w'' := hpu
    rw [idxG_drop hu] at hrest
    apply W.sk
    apply W.sb
    apply W.sr
    apply omv; rfl; rfl
    apply oas; rfl; rfl
    apply OL.nsr
    apply omv; rfl; rfl
    apply omv; rfl; rfl
    apply omv; rfl; rfl
    apply oop; rfl; apply Pev.idx; rfl; exact yes; rfl; exact yes; rfl; rfl; intro hcond; omega
    apply oop; rfl; apply Pev.load_keptA; rfl; exact yes; exact .head _; rfl; intro hcond; assumption; rfl; intro hcond; (rw [add_block]; assumption); intro hcond; exact NotOwned.au
    (((first | (with_reducible apply OL.op) | (with_reducible apply QL.op)); (exact Guard.au); rfl; rfl); (apply Pev.callv (first := first) (cap := caps)); rfl; ((first | exact fun _ => rfl | exact fun h => h | (intro h; simp_all; done))); (exact hf); (exact Args.au); (exact (fun _ w2 hw2 => (hpu w2 (hw2.toExt (by exact mau) (fun k hk => by exact NotOwned.au))).mono (fun e w3 h => ⟨h.1, hw2.ext h.2⟩))))
    apply OL.nx
    refine W.cond rfl (fun heq => ?_) (fun heq => ?_)
    · rw [if_pos heq] at hrest
      apply W.sr
      apply omv; rfl; rfl
      apply oas; rfl; rfl
      apply OL.nx
      refine W.rt ?_
      ((with_reducible apply At.fin1); rfl; rfl; intro w' hw')
      exact ⟨by rw [hrest], by (exact hw'.fr)⟩
    · rw [if_neg (by simpa using heq)] at hrest
      apply W.skip
      with_reducible apply At.in_normal
      with_reducible apply At.next
      apply W.reg
      apply obn; rfl; rfl; rfl; apply Bin.add_in; omega
      apply omv; rfl; rfl
      apply OL.nil
      exact At.again (i + 1) ⟨by omega, hrest⟩ (by omega) (by exact Sub.au) (fun w' hw' => hw'.thin (by exact Thin.au))
  · rw [List.drop_eq_nil_of_le (by omega), idxG] at hrest
    refine W.xt ?_
    with_reducible apply At.next
    apply W.sr
    apply oas; rfl; rfl
    apply OL.nx
    apply W.ret
    ((with_reducible apply At.fin1); rfl; rfl; intro w' hw')
    exact ⟨by rw [← hrest], by (exact hw'.fr)⟩
theorem KContainsFunc_calls (q : Option Addr) (cap : Nat) (l : List (Bk × BkY)) (f : FuncId) (first caps : List Value) (pr : Bk × BkY → Bool) (w : World) (hlen : l.length ≤ 9223372036854775807) (h : Arr bkR w (low w) l q)
    (hf : callable Try.prog f = true) (hp : ∀ p ∈ l, ∀ w', Ext w w' → Calls Try.prog f (first ++ [Value.agg (bkR.cells p.1 p.2).toArray] ++ caps).toArray w' fun e w'' => e = .returned (.bool (pr p)) ∧ Ext w' w'') :
    Calls Try.prog 73 [.slice q l.length cap, .func (.func f) first.toArray caps.toArray].toArray w fun e w' => e = .returned (.bool (l.any pr)) ∧ Ext w w' := by
  refine enter Try.func73 rfl Try.ntmps73 rfl (Cls.start w) ?_
  (simp only [argEnv, Nat.zero_add, Nat.reduceAdd])
  apply W.sr
  apply oas; rfl; rfl
  apply OL.nsr
  apply omv; rfl; rfl
  apply omv; rfl; rfl
  (((first | (with_reducible apply OL.op) | (with_reducible apply QL.op)); (exact Guard.au); rfl; rfl); (exact Pev.call rfl (by exact Args.au) (fun _ w2 hw2 => (KIndexFunc_calls q cap l f first caps pr w2 hlen (h.at hw2 (by exact mau) (fun k hk => NotOwned.nil)) hf (fun s hs w3 h3 => hp s hs w3 ((hw2.toExt (s := w) (by exact mau) (fun k hk => by exact NotOwned.au)).trans h3))).mono (fun e w3 h => ⟨h.1, hw2.ext h.2⟩))))
  apply obn; rfl; rfl; rfl; apply Bin.geq
  apply oas; rfl; rfl
  apply OL.nx
  apply W.ret
  ((with_reducible apply At.fin1); rfl; rfl; intro w' hw')
  exact ⟨by rw [← idxG_any pr l 0], by (exact hw'.fr)⟩
theorem NIndexFunc_calls (q : Option Addr) (cap : Nat) (l : List (In × Sc)) (f : FuncId) (first caps : List Value) (pr : In × Sc → Bool) (w : World) (hlen : l.length ≤ 9223372036854775807) (h : Arr inR w (low w) l q)
    (hf : callable Try.prog f = true) (hp : ∀ p ∈ l, ∀ w', Ext w w' → Calls Try.prog f (first ++ [Value.agg (inR.cells p.1 p.2).toArray] ++ caps).toArray w' fun e w'' => e = .returned (.bool (pr p)) ∧ Ext w' w'') :
    Calls Try.prog 117 [.slice q l.length cap, .func (.func f) first.toArray caps.toArray].toArray w fun e w' => e = .returned (.int .i64 (idxG pr l 0)) ∧ Ext w w' := by
  refine enter Try.func117 rfl Try.ntmps117 rfl (Cls.start w) ?_
  (simp only [argEnv, Nat.zero_add, Nat.reduceAdd])
  apply W.sr
  apply oas; rfl; rfl
  apply OL.nx
  apply W.seq
  apply W.sr
  apply omv; rfl; rfl
  apply oop; rfl; apply Pev.len_slice; rfl; exact yes; rfl
  apply omv; rfl; rfl
  apply OL.nx
  apply W.block
  refine W.loop (G := Nat) (fun i => i ≤ l.length ∧ idxG pr (l.drop i) i = idxG pr l 0) (fun i => l.length - i)
    (fun i => [(8, true, .int .i64 (i : Int)), (7, true, .int .i64 (l.length : Int)), (0, true, .slice q l.length cap), (1, true, .func (.func f) first.toArray caps.toArray)])
    (fun i => Cls [] [w]) 0 ⟨by omega, rfl⟩ (by exact Sub.au) (fun w' hw' => hw') ?_
  rintro i ⟨hi, hrest⟩
  apply W.sr
  apply obn; rfl; rfl; rfl; apply Bin.lss
  apply OL.nx
  apply W.seq
  (refine W.cnd (fun hlt => ?_) (fun hlt => ?_)) <;> (try (exfalso; first | omega | exact hlt trivial | contradiction))
  · obtain ⟨a, p, rfl, hab, hu, hcell, hok⟩ := h.get (show i < l.length by omega)
    have hab : a.block < w.heap.size := hab
    have hcell : CellsAt w (a.add (i * 4)) [.int .i64 p.1.to_, .int .i64 p.1.op, .int .i64 p.1.n, .slice p.2.1 p.1.args.length p.2.2] := hcell
    have hpu := fun w3 => hp p (List.mem_of_getElem? hu) w3
    have hpu : ∀ w3, Ext w w3 → Calls Try.prog f (first ++ [Value.agg ([.int .i64 p.1.to_, .int .i64 p.1.op, .int .i64 p.1.n, .slice p.2.1 p.1.args.length p.2.2] : List Value).toArray] ++ caps).toArray w3 fun e w'' => e = .returned (.bool (pr p)) ∧ Ext w3 w'' := hpu
    rw [idxG_drop hu] at hrest
    apply W.sk
    apply W.sb
    apply W.sr
    apply omv; rfl; rfl
    apply oas; rfl; rfl
    apply OL.nsr
    apply omv; rfl; rfl
    apply omv; rfl; rfl
    apply omv; rfl; rfl
    apply oop; rfl; apply Pev.idx; rfl; exact yes; rfl; exact yes; rfl; rfl; intro hcond; omega
    apply oop; rfl; apply Pev.load_keptA; rfl; exact yes; exact .head _; rfl; intro hcond; assumption; rfl; intro hcond; (rw [add_block]; assumption); intro hcond; exact NotOwned.au
    (((first | (with_reducible apply OL.op) | (with_reducible apply QL.op)); (exact Guard.au); rfl; rfl); (apply Pev.callv (first := first) (cap := caps)); rfl; ((first | exact fun _ => rfl | exact fun h => h | (intro h; simp_all; done))); (exact hf); (exact Args.au); (exact (fun _ w2 hw2 => (hpu w2 (hw2.toExt (by exact mau) (fun k hk => by exact NotOwned.au))).mono (fun e w3 h => ⟨h.1, hw2.ext h.2⟩))))
    apply OL.nx
    refine W.cond rfl (fun heq => ?_) (fun heq => ?_)
    · rw [if_pos heq] at hrest
      apply W.sr
      apply omv; rfl; rfl
      apply oas; rfl; rfl
      apply OL.nx
      refine W.rt ?_
      ((with_reducible apply At.fin1); rfl; rfl; intro w' hw')
      exact ⟨by rw [hrest], by (exact hw'.fr)⟩
    · rw [if_neg (by simpa using heq)] at hrest
      apply W.skip
      with_reducible apply At.in_normal
      with_reducible apply At.next
      apply W.reg
      apply obn; rfl; rfl; rfl; apply Bin.add_in; omega
      apply omv; rfl; rfl
      apply OL.nil
      exact At.again (i + 1) ⟨by omega, hrest⟩ (by omega) (by exact Sub.au) (fun w' hw' => hw'.thin (by exact Thin.au))
  · rw [List.drop_eq_nil_of_le (by omega), idxG] at hrest
    refine W.xt ?_
    with_reducible apply At.next
    apply W.sr
    apply oas; rfl; rfl
    apply OL.nx
    apply W.ret
    ((with_reducible apply At.fin1); rfl; rfl; intro w' hw')
    exact ⟨by rw [← hrest], by (exact hw'.fr)⟩
theorem NContainsFunc_calls (q : Option Addr) (cap : Nat) (l : List (In × Sc)) (f : FuncId) (first caps : List Value) (pr : In × Sc → Bool) (w : World) (hlen : l.length ≤ 9223372036854775807) (h : Arr inR w (low w) l q)
    (hf : callable Try.prog f = true) (hp : ∀ p ∈ l, ∀ w', Ext w w' → Calls Try.prog f (first ++ [Value.agg (inR.cells p.1 p.2).toArray] ++ caps).toArray w' fun e w'' => e = .returned (.bool (pr p)) ∧ Ext w' w'') :
    Calls Try.prog 77 [.slice q l.length cap, .func (.func f) first.toArray caps.toArray].toArray w fun e w' => e = .returned (.bool (l.any pr)) ∧ Ext w w' := by
  refine enter Try.func77 rfl Try.ntmps77 rfl (Cls.start w) ?_
  (simp only [argEnv, Nat.zero_add, Nat.reduceAdd])
  apply W.sr
  apply oas; rfl; rfl
  apply OL.nsr
  apply omv; rfl; rfl
  apply omv; rfl; rfl
  (((first | (with_reducible apply OL.op) | (with_reducible apply QL.op)); (exact Guard.au); rfl; rfl); (exact Pev.call rfl (by exact Args.au) (fun _ w2 hw2 => (NIndexFunc_calls q cap l f first caps pr w2 hlen (h.at hw2 (by exact mau) (fun k hk => NotOwned.nil)) hf (fun s hs w3 h3 => hp s hs w3 ((hw2.toExt (s := w) (by exact mau) (fun k hk => by exact NotOwned.au)).trans h3))).mono (fun e w3 h => ⟨h.1, hw2.ext h.2⟩))))
  apply obn; rfl; rfl; rfl; apply Bin.geq
  apply oas; rfl; rfl
  apply OL.nx
  apply W.ret
  ((with_reducible apply At.fin1); rfl; rfl; intro w' hw')
  exact ⟨by rw [← idxG_any pr l 0], by (exact hw'.fr)⟩
end Go.Proofs.Ytehelljmaiophaa.ss

/- The walks of ssa.Pure, of the reference's SameResult, and of the law's two, small and vast. Conditions: none. -/
namespace Go.Ss
open Go.Eng Go.RowKit
def pureL : List Int := [0, 1, 2, 3, 6, 7, 8, 9, 10, 11, 12, 17, 22, 23, 24]
def twoF : Go.Ss.Fn := ⟨-1, [⟨[], [⟨1, 0, 7, []⟩, ⟨2, 15, 0, [1]⟩, ⟨3, 0, 5, []⟩], ⟨0, 3, 0, [], []⟩⟩]⟩
theorem twoF_ok : funcE twoF = 0 := by
  have h1 : DefAt twoF.blocks 1 0 1 := ⟨_, rfl, .inr ⟨0, _, rfl, rfl, rfl⟩⟩
  have h3 : DefAt twoF.blocks 3 0 3 := ⟨_, rfl, .inr ⟨2, _, rfl, rfl, rfl⟩⟩
  have hu : ∀ (k : Nat) b, twoF.blocks[k]? = some b → UsesB twoF.blocks k b := by
    intro k b hb
    obtain rfl : k = 0 := by
      have := (List.getElem?_eq_some_iff.1 hb).1
      simp [twoF] at this
      omega
    obtain rfl := Option.some.inj hb
    refine ⟨fun n i hi v hv => ?_, fun v hv => ?_⟩
    · match n, hi with
      | 0, hi =>
        obtain rfl := Option.some.inj hi
        cases hv
      | 1, hi =>
        obtain rfl := Option.some.inj hi
        obtain rfl := List.mem_singleton.1 hv
        exact ⟨0, 1, h1, .inl ⟨rfl, by decide⟩⟩
      | 2, hi =>
        obtain rfl := Option.some.inj hi
        cases hv
      | n + 3, hi => simp at hi
    · obtain rfl : v = 3 := by simpa [operT] using hv
      exact ⟨0, 3, h3, .inl ⟨rfl, by decide⟩⟩
  have hs : shapeE twoF.blocks = 0 := by decide
  unfold funcE
  rw [if_neg (by decide), if_neg (by decide), if_neg (by decide), if_neg (fun h => h hs), if_pos hu]
theorem two_unit : unitE [twoF] 0 = 0 := by
  have h1 : firstE funcE [twoF] = 0 := firstE_zero.2 fun x hx => by
    obtain rfl := List.mem_singleton.1 hx
    exact twoF_ok
  unfold unitE
  rw [if_neg (by decide), if_neg (by decide), if_neg (by decide), if_neg (by rw [h1]; simp), if_neg (by decide)]
  decide
theorem two_fresh : freshF twoF.blocks = 4 := by decide
theorem two_run4 {f : Go.Ss.Fin} (h : Go.Ss.Ends [twoF] ⟨[newF [twoF] 0 [] 0], [], [], 4⟩ f) : f = .done 0 5 [7] 0 :=
  h.det ⟨_, .step (by rfl) (.step (by rfl) (.step (by rfl) (.refl _))), by rfl⟩
theorem two_run3 {f : Go.Ss.Fin} (h : Go.Ss.Ends [twoF] ⟨[newF [twoF] 0 [] 0], [], [], 3⟩ f) : f = .short :=
  h.det ⟨_, .step (by rfl) (.step (by rfl) (.step (by rfl) (.refl _))), by rfl⟩
end Go.Ss
namespace Go.Proofs.Ytehelljmaiophaa.ss
set_option maxRecDepth 100000
open Go.Eng Go.RowKit Go.Ss
theorem Pure_calls (op : Int) (w : World) : Calls Try.prog 34 [.int .i64 op].toArray w fun e w' => e = .returned (.bool (decide (op ∈ pureL))) ∧ Ext w w' := by
  refine enter Try.func34 rfl Try.ntmps34 rfl (Cls.start w) ?_
  (simp only [argEnv, Nat.zero_add, Nat.reduceAdd])
  apply W.sr
  apply oas; rfl; rfl
  apply OL.nx
  apply W.seq
  apply W.sr
  apply omv; rfl; rfl
  apply OL.nx
  apply W.block
  apply W.seq
  apply W.sr
  apply obn; rfl; rfl; rfl; apply Bin.eql
  apply oas; rfl; rfl
  apply OL.nx
  (refine W.cnd (fun k1 => ?_) (fun k1 => ?_)) <;> (try (exfalso; first | omega | exact k1 trivial | contradiction))
  · apply W.sk
    (refine W.cnd (fun kb1 => ?_) (fun kb1 => ?_)) <;> (try (exfalso; first | omega | exact kb1 trivial | contradiction))
    apply W.sr
    apply oas; rfl; rfl
    apply OL.nx
    refine W.rt ?_
    ((with_reducible apply At.fin1); rfl; rfl; intro w' hw')
    exact ⟨by rw [decide_eq_true (by simp [pureL]; omega)], by (exact hw'.fr)⟩
  apply W.sr
  apply obn; rfl; rfl; rfl; apply Bin.eql
  apply oas; rfl; rfl
  apply OL.nx
  (refine W.cnd (fun k2 => ?_) (fun k2 => ?_)) <;> (try (exfalso; first | omega | exact k2 trivial | contradiction))
  · apply W.sk
    (refine W.cnd (fun kb2 => ?_) (fun kb2 => ?_)) <;> (try (exfalso; first | omega | exact kb2 trivial | contradiction))
    apply W.sr
    apply oas; rfl; rfl
    apply OL.nx
    refine W.rt ?_
    ((with_reducible apply At.fin1); rfl; rfl; intro w' hw')
    exact ⟨by rw [decide_eq_true (by simp [pureL]; omega)], by (exact hw'.fr)⟩
  apply W.sr
  apply obn; rfl; rfl; rfl; apply Bin.eql
  apply oas; rfl; rfl
  apply OL.nx
  (refine W.cnd (fun k3 => ?_) (fun k3 => ?_)) <;> (try (exfalso; first | omega | exact k3 trivial | contradiction))
  · apply W.sk
    (refine W.cnd (fun kb3 => ?_) (fun kb3 => ?_)) <;> (try (exfalso; first | omega | exact kb3 trivial | contradiction))
    apply W.sr
    apply oas; rfl; rfl
    apply OL.nx
    refine W.rt ?_
    ((with_reducible apply At.fin1); rfl; rfl; intro w' hw')
    exact ⟨by rw [decide_eq_true (by simp [pureL]; omega)], by (exact hw'.fr)⟩
  apply W.sr
  apply obn; rfl; rfl; rfl; apply Bin.eql
  apply oas; rfl; rfl
  apply OL.nx
  (refine W.cnd (fun k4 => ?_) (fun k4 => ?_)) <;> (try (exfalso; first | omega | exact k4 trivial | contradiction))
  · apply W.sk
    (refine W.cnd (fun kb4 => ?_) (fun kb4 => ?_)) <;> (try (exfalso; first | omega | exact kb4 trivial | contradiction))
    apply W.sr
    apply oas; rfl; rfl
    apply OL.nx
    refine W.rt ?_
    ((with_reducible apply At.fin1); rfl; rfl; intro w' hw')
    exact ⟨by rw [decide_eq_true (by simp [pureL]; omega)], by (exact hw'.fr)⟩
  apply W.sr
  apply obn; rfl; rfl; rfl; apply Bin.eql
  apply oas; rfl; rfl
  apply OL.nx
  (refine W.cnd (fun k5 => ?_) (fun k5 => ?_)) <;> (try (exfalso; first | omega | exact k5 trivial | contradiction))
  · apply W.sk
    (refine W.cnd (fun kb5 => ?_) (fun kb5 => ?_)) <;> (try (exfalso; first | omega | exact kb5 trivial | contradiction))
    apply W.sr
    apply oas; rfl; rfl
    apply OL.nx
    refine W.rt ?_
    ((with_reducible apply At.fin1); rfl; rfl; intro w' hw')
    exact ⟨by rw [decide_eq_true (by simp [pureL]; omega)], by (exact hw'.fr)⟩
  apply W.sr
  apply obn; rfl; rfl; rfl; apply Bin.eql
  apply oas; rfl; rfl
  apply OL.nx
  (refine W.cnd (fun k6 => ?_) (fun k6 => ?_)) <;> (try (exfalso; first | omega | exact k6 trivial | contradiction))
  · apply W.sk
    (refine W.cnd (fun kb6 => ?_) (fun kb6 => ?_)) <;> (try (exfalso; first | omega | exact kb6 trivial | contradiction))
    apply W.sr
    apply oas; rfl; rfl
    apply OL.nx
    refine W.rt ?_
    ((with_reducible apply At.fin1); rfl; rfl; intro w' hw')
    exact ⟨by rw [decide_eq_true (by simp [pureL]; omega)], by (exact hw'.fr)⟩
  apply W.sr
  apply obn; rfl; rfl; rfl; apply Bin.eql
  apply oas; rfl; rfl
  apply OL.nx
  (refine W.cnd (fun k7 => ?_) (fun k7 => ?_)) <;> (try (exfalso; first | omega | exact k7 trivial | contradiction))
  · apply W.sk
    (refine W.cnd (fun kb7 => ?_) (fun kb7 => ?_)) <;> (try (exfalso; first | omega | exact kb7 trivial | contradiction))
    apply W.sr
    apply oas; rfl; rfl
    apply OL.nx
    refine W.rt ?_
    ((with_reducible apply At.fin1); rfl; rfl; intro w' hw')
    exact ⟨by rw [decide_eq_true (by simp [pureL]; omega)], by (exact hw'.fr)⟩
  apply W.sr
  apply obn; rfl; rfl; rfl; apply Bin.eql
  apply oas; rfl; rfl
  apply OL.nx
  (refine W.cnd (fun k8 => ?_) (fun k8 => ?_)) <;> (try (exfalso; first | omega | exact k8 trivial | contradiction))
  · apply W.sk
    (refine W.cnd (fun kb8 => ?_) (fun kb8 => ?_)) <;> (try (exfalso; first | omega | exact kb8 trivial | contradiction))
    apply W.sr
    apply oas; rfl; rfl
    apply OL.nx
    refine W.rt ?_
    ((with_reducible apply At.fin1); rfl; rfl; intro w' hw')
    exact ⟨by rw [decide_eq_true (by simp [pureL]; omega)], by (exact hw'.fr)⟩
  apply W.sr
  apply obn; rfl; rfl; rfl; apply Bin.eql
  apply oas; rfl; rfl
  apply OL.nx
  (refine W.cnd (fun k9 => ?_) (fun k9 => ?_)) <;> (try (exfalso; first | omega | exact k9 trivial | contradiction))
  · apply W.sk
    (refine W.cnd (fun kb9 => ?_) (fun kb9 => ?_)) <;> (try (exfalso; first | omega | exact kb9 trivial | contradiction))
    apply W.sr
    apply oas; rfl; rfl
    apply OL.nx
    refine W.rt ?_
    ((with_reducible apply At.fin1); rfl; rfl; intro w' hw')
    exact ⟨by rw [decide_eq_true (by simp [pureL]; omega)], by (exact hw'.fr)⟩
  apply W.sr
  apply obn; rfl; rfl; rfl; apply Bin.eql
  apply oas; rfl; rfl
  apply OL.nx
  (refine W.cnd (fun k10 => ?_) (fun k10 => ?_)) <;> (try (exfalso; first | omega | exact k10 trivial | contradiction))
  · apply W.sk
    (refine W.cnd (fun kb10 => ?_) (fun kb10 => ?_)) <;> (try (exfalso; first | omega | exact kb10 trivial | contradiction))
    apply W.sr
    apply oas; rfl; rfl
    apply OL.nx
    refine W.rt ?_
    ((with_reducible apply At.fin1); rfl; rfl; intro w' hw')
    exact ⟨by rw [decide_eq_true (by simp [pureL]; omega)], by (exact hw'.fr)⟩
  apply W.sr
  apply obn; rfl; rfl; rfl; apply Bin.eql
  apply oas; rfl; rfl
  apply OL.nx
  (refine W.cnd (fun k11 => ?_) (fun k11 => ?_)) <;> (try (exfalso; first | omega | exact k11 trivial | contradiction))
  · apply W.sk
    (refine W.cnd (fun kb11 => ?_) (fun kb11 => ?_)) <;> (try (exfalso; first | omega | exact kb11 trivial | contradiction))
    apply W.sr
    apply oas; rfl; rfl
    apply OL.nx
    refine W.rt ?_
    ((with_reducible apply At.fin1); rfl; rfl; intro w' hw')
    exact ⟨by rw [decide_eq_true (by simp [pureL]; omega)], by (exact hw'.fr)⟩
  apply W.sr
  apply obn; rfl; rfl; rfl; apply Bin.eql
  apply oas; rfl; rfl
  apply OL.nx
  (refine W.cnd (fun k12 => ?_) (fun k12 => ?_)) <;> (try (exfalso; first | omega | exact k12 trivial | contradiction))
  · apply W.sk
    (refine W.cnd (fun kb12 => ?_) (fun kb12 => ?_)) <;> (try (exfalso; first | omega | exact kb12 trivial | contradiction))
    apply W.sr
    apply oas; rfl; rfl
    apply OL.nx
    refine W.rt ?_
    ((with_reducible apply At.fin1); rfl; rfl; intro w' hw')
    exact ⟨by rw [decide_eq_true (by simp [pureL]; omega)], by (exact hw'.fr)⟩
  apply W.sr
  apply obn; rfl; rfl; rfl; apply Bin.eql
  apply oas; rfl; rfl
  apply OL.nx
  (refine W.cnd (fun k13 => ?_) (fun k13 => ?_)) <;> (try (exfalso; first | omega | exact k13 trivial | contradiction))
  · apply W.sk
    (refine W.cnd (fun kb13 => ?_) (fun kb13 => ?_)) <;> (try (exfalso; first | omega | exact kb13 trivial | contradiction))
    apply W.sr
    apply oas; rfl; rfl
    apply OL.nx
    refine W.rt ?_
    ((with_reducible apply At.fin1); rfl; rfl; intro w' hw')
    exact ⟨by rw [decide_eq_true (by simp [pureL]; omega)], by (exact hw'.fr)⟩
  apply W.sr
  apply obn; rfl; rfl; rfl; apply Bin.eql
  apply oas; rfl; rfl
  apply OL.nx
  (refine W.cnd (fun k14 => ?_) (fun k14 => ?_)) <;> (try (exfalso; first | omega | exact k14 trivial | contradiction))
  · apply W.sk
    (refine W.cnd (fun kb14 => ?_) (fun kb14 => ?_)) <;> (try (exfalso; first | omega | exact kb14 trivial | contradiction))
    apply W.sr
    apply oas; rfl; rfl
    apply OL.nx
    refine W.rt ?_
    ((with_reducible apply At.fin1); rfl; rfl; intro w' hw')
    exact ⟨by rw [decide_eq_true (by simp [pureL]; omega)], by (exact hw'.fr)⟩
  apply W.reg
  apply obn; rfl; rfl; rfl; apply Bin.eql
  apply oas; rfl; rfl
  apply OL.nx
  (refine W.cnd (fun k15 => ?_) (fun k15 => ?_)) <;> (try (exfalso; first | omega | exact k15 trivial | contradiction))
  · apply W.sr
    apply oas; rfl; rfl
    apply OL.nx
    refine W.rt ?_
    ((with_reducible apply At.fin1); rfl; rfl; intro w' hw')
    exact ⟨by rw [decide_eq_true (by simp [pureL]; omega)], by (exact hw'.fr)⟩
  apply W.skip
  with_reducible apply At.in_normal
  with_reducible apply At.next
  apply W.sr
  apply oas; rfl; rfl
  apply OL.nx
  apply W.ret
  ((with_reducible apply At.fin1); rfl; rfl; intro w' hw')
  exact ⟨by rw [decide_eq_false (by simp [pureL]; omega)], by (exact hw'.fr)⟩
theorem SameResult_calls (q q2 : Option Addr) (c c2 : Nat) (l m : List Int) (en va en2 va2 : Int) (w : World) (hl : l.length ≤ 9223372036854775807) (hm : m.length ≤ 9223372036854775807) (h : IntsO w (low w) l q) (h2 : IntsO w (low w) m q2) :
    Calls Try.prog 26 [.agg #[.slice q l.length c, .int .i64 en, .int .i64 va], .agg #[.slice q2 m.length c2, .int .i64 en2, .int .i64 va2]].toArray w fun e w' => e = .returned (.bool (decide (en = en2 ∧ va = va2 ∧ l = m))) ∧ Ext w w' := by
  refine enter Try.func26 rfl Try.ntmps26 rfl (Cls.start w) ?_
  (simp only [argEnv, Nat.zero_add, Nat.reduceAdd])
  apply W.sr
  apply OL.box; rfl; rfl; exact CellsL.agg; (intro bk hbk; simp only [AllLe, and_true] at hbk)
  apply OL.box; rfl; rfl; exact CellsL.agg; (intro bk hbk; simp only [AllLe, and_true] at hbk)
  apply oas; rfl; rfl
  apply OL.nsr
  apply ofa; rfl; rfl; rfl
  apply old; rfl; rfl; exact .tail _ (.head _); rfl; rfl
  apply ofa; rfl; rfl; rfl
  apply old; rfl; rfl; exact .head _; rfl; rfl
  apply obn; rfl; rfl; rfl; apply Bin.eql
  apply omv; rfl; rfl
  apply oy; rfl; rfl; rfl; apply Pev.fld; rfl; exact yes; rfl
  apply oy; rfl; rfl; rfl; apply Pev.load_blk; rfl; exact fun h => h; exact .tail _ (.head _); rfl; rfl
  apply oy; rfl; rfl; rfl; apply Pev.fld; rfl; exact yes; rfl
  apply oy; rfl; rfl; rfl; apply Pev.load_blk; rfl; exact fun h => h; exact .head _; rfl; rfl
  apply oy; rfl; rfl; rfl; apply Pev.bin; rfl; exact fun h => h; rfl; exact fun h => h; intro hcond; apply Bin.eql
  apply oop; rfl; apply Pev.pick_and; rfl; exact yes; rfl; exact fun h => h
  apply omv; rfl; rfl
  apply oy; rfl; rfl; rfl; apply Pev.fld; rfl; exact yes; rfl
  apply oy; rfl; rfl; rfl; apply Pev.load_blk; rfl; exact fun h => h; exact .tail _ (.head _); rfl; rfl
  apply oy; rfl; rfl; rfl; apply Pev.fld; rfl; exact yes; rfl
  apply oy; rfl; rfl; rfl; apply Pev.load_blk; rfl; exact fun h => h; exact .head _; rfl; rfl
  obtain ⟨g, hg⟩ : ∃ g, (decide (en = en2) && decide (va = va2)) = g := ⟨_, rfl⟩
  rw [hg]
  cases g with
  | false =>
    have hd : decide (en = en2 ∧ va = va2 ∧ l = m) = false := decide_eq_false (fun ⟨h1, h2, _⟩ => by simp [h1, h2] at hg)
    rw [hd]
    apply oy; rfl; rfl; rfl; with_reducible exact Pev.no
    apply oop; rfl; apply Pev.pick_and; rfl; exact yes; rfl; exact fun h => h
    apply oas; rfl; rfl
    apply OL.nx
    apply W.ret
    ((with_reducible apply At.fin1); rfl; rfl; intro w' hw')
    exact ⟨rfl, by (exact hw'.fr)⟩
  | true =>
    skip
    have hd : decide (en = en2 ∧ va = va2 ∧ l = m) = decide (l = m) := by
      simp at hg
      simp [hg.1, hg.2]
    rw [hd]
    (((first | (with_reducible apply OL.op) | (with_reducible apply QL.op)); (exact Guard.au); rfl; rfl); (exact Pev.call (v := .bool (decide (l = m))) rfl (by exact Args.au) (fun _ w2 hw2 => (SameInts_calls q q2 c c2 l m w2 hl hm (h.at hw2 (by exact mau) (fun k hk => by exact NotOwned.au)) (h2.at hw2 (by exact mau) (fun k hk => by exact NotOwned.au))).mono (fun e w3 h => ⟨h.1, hw2.ext h.2⟩))))
    apply oop; rfl; apply Pev.pick_and; rfl; exact yes; rfl; exact yes
    apply oas; rfl; rfl
    apply OL.nx
    apply W.ret
    ((with_reducible apply At.fin1); rfl; rfl; intro w' hw')
    exact ⟨rfl, by (exact hw'.fr)⟩
theorem two_calls (w : World) : Calls Try.prog 68 #[] w fun e w' => ∃ (y : FnY) (q : Option Addr) (c : Nat), e = .returned (.agg #[.slice q 1 c, .int .i64 0]) ∧ Ext w w' ∧ Arr fnR w' (low w') [(twoF, y)] q := by
  refine enter Try.func68 rfl Try.ntmps68 rfl (Cls.start w) ?_
  (simp only [argEnv, Nat.zero_add, Nat.reduceAdd])
  apply W.sr
  apply OL.alloc; rfl; rfl; exact CellsL.agg; (intro bk hbk; simp only [AllLe, and_true] at hbk)
  apply OL.nsr
  apply oop; rfl; apply Pev.build; rfl; exact CellsL.agg; rfl; exact Fill.au; rfl
  apply OL.buildSlice; rfl; rfl; rfl; exact Elems.au; rfl; rfl; (intro bk hbk; simp only [AllLe, and_true] at hbk)
  apply oop; rfl; apply Pev.build; rfl; exact CellsL.agg; rfl; exact Fill.au; rfl
  apply oop; rfl; apply Pev.build; rfl; exact CellsL.agg; rfl; exact Fill.au; rfl
  apply OL.buildSlice; rfl; rfl; rfl; exact Elems.au; rfl; rfl; (intro bk hbk; simp only [AllLe, and_true] at hbk)
  apply oop; rfl; apply Pev.build; rfl; exact CellsL.agg; rfl; exact Fill.au; rfl
  apply oop; rfl; apply Pev.build; rfl; exact CellsL.agg; rfl; exact Fill.au; rfl
  apply OL.buildSlice; rfl; rfl; rfl; exact Elems.au; rfl; rfl; (intro bk hbk; simp only [AllLe, and_true] at hbk)
  apply oop; rfl; apply Pev.build; rfl; exact CellsL.agg; rfl; exact Fill.au; rfl
  apply OL.buildSlice; rfl; rfl; rfl; exact Elems.au; rfl; rfl; (intro bk hbk; simp only [AllLe, and_true] at hbk)
  apply oop; rfl; apply Pev.build; rfl; exact CellsL.agg; rfl; exact Fill.au; rfl
  apply OL.storeB; rfl; rfl; exact CellsL.agg; rfl; rfl; rfl; exact Swap.au; exact Put.au
  apply OL.nx
  apply W.ret
  rename_i b0 hb0 b2 hb2 b5 hb5 b8 hb8
  revert bk
  intro b10 hb10
  refine At.finC (b := b0) (cs := [.slice (some ⟨b10, 0, none⟩) 1 1, .int .i64 0]) rfl rfl (by exact mau) rfl rfl (fun w' hw' => ?_)
  have h5 : ArrP inR w' (low w') [⟨1, 0, 7, []⟩, ⟨2, 15, 0, [1]⟩, ⟨3, 0, 5, []⟩] (some ⟨b5, 0, none⟩) := ⟨[(⟨1, 0, 7, []⟩, (none, 0)), (⟨2, 15, 0, [1]⟩, (some ⟨b2, 0, none⟩, 1)), (⟨3, 0, 5, []⟩, (none, 0))], rfl, arrBlk (e := 85) (hw'.item (by exact mau)) (fun p hp => by
    rcases List.mem_cons.1 hp with rfl | hp
    · exact ⟨by simp [I64], by simp [I64], by simp [I64], by simp, by simp, nilS _ _, fun n hn => (by cases hn)⟩
    rcases List.mem_cons.1 hp with rfl | hp
    · exact ⟨by simp [I64], by simp [I64], by simp [I64], by simp, by simp, blkInts (e := 3) (hw'.item (by exact mau)), fun n hn => by
        obtain rfl := List.mem_singleton.1 hn
        simp [I64]⟩
    obtain rfl := List.mem_singleton.1 hp
    exact ⟨by simp [I64], by simp [I64], by simp [I64], by simp, by simp, nilS _ _, fun n hn => (by cases hn)⟩)⟩
  refine ⟨⟨some ⟨b8, 0, none⟩, 1⟩, some ⟨b10, 0, none⟩, 1, rfl, by (exact hw'.fr), arrBlk (e := 24) (hw'.item (by exact mau)) (fun p hp => ?_)⟩
  obtain rfl := List.mem_singleton.1 hp
  refine ⟨by simp [twoF, I64], by simp [twoF], by simp [twoF], ⟨[(⟨[], [⟨1, 0, 7, []⟩, ⟨2, 15, 0, [1]⟩, ⟨3, 0, 5, []⟩], ⟨0, 3, 0, [], []⟩⟩, ⟨(none, 0), (some ⟨b5, 0, none⟩, 3), ⟨(none, 0), (none, 0)⟩⟩)], rfl, arrBlk (e := 41) (hw'.item (by exact mau)) (fun p hp => ?_)⟩⟩
  obtain rfl := List.mem_singleton.1 hp
  exact ⟨by simp, by simp, by simp, by simp, nilS _ _, fun n hn => (by cases hn), h5, ⟨by simp [I64], by simp [I64], by simp [I64], by simp, by simp, by simp, by simp, nilS _ _, fun n hn => (by cases hn), ArrP.nil⟩⟩
end Go.Proofs.Ytehelljmaiophaa.ss

/- Rows of marks in memory; the walks of ssa.Fresh, slices.Clone and slices.Equal at []bool, and live's list. Conditions: none. -/
namespace Go.Ss
open Go.Eng Go.RowKit
def BoolsO (w : World) (O : Nat → Prop) (l : List Bool) (q : Option Addr) : Prop := 0 < l.length → ∃ a, q = some a ∧ O a.block ∧ CellsAt w a (bls l)
theorem BoolsO.stab {w w' : World} {O : Nat → Prop} {l : List Bool} {q : Option Addr} (hk : ∀ k, O k → w'.heap[k]? = w.heap[k]?) (h : BoolsO w O l q) : BoolsO w' O l q := fun hl => by
  obtain ⟨a, h1, h2, h3⟩ := h hl
  exact ⟨a, h1, h2, cells_stab (hk _ h2) h3⟩
theorem BoolsO.mono {w : World} {O O' : Nat → Prop} {l : List Bool} {q : Option Addr} (hk : ∀ k, O k → O' k) (h : BoolsO w O l q) : BoolsO w O' l q := fun hl => by
  obtain ⟨a, h1, h2, h3⟩ := h hl
  exact ⟨a, h1, hk _ h2, h3⟩
theorem BoolsO.nil {w : World} {O : Nat → Prop} {q : Option Addr} : BoolsO w O [] q := fun h => by simp at h
theorem BoolsO.get {w : World} {O : Nat → Prop} {l : List Bool} {q : Option Addr} (h : BoolsO w O l q) {i : Nat} (hi : i < l.length) : ∃ a u, q = some a ∧ O a.block ∧ l[i]? = some u ∧ w.cell? (a.add (i * 1)) = some (.bool u) := by
  obtain ⟨a, h1, h2, h3⟩ := h (by omega)
  have hu : l[i]? = some l[i] := List.getElem?_eq_getElem hi
  exact ⟨a, l[i], h1, h2, hu, by rw [Nat.mul_one]; exact h3 i _ (bls_get hu)⟩
theorem BoolsO.slAt {w : World} {l : List Bool} {q : Option Addr} (h : BoolsO w (low w) l q) : SlAt w w.heap.size q (bls l) := fun hv => by
  rw [bls_length] at hv
  exact h hv
theorem BoolsO.at {w w' : World} {l : List Bool} {q : Option Addr} {H : List Eng.Item} {S : List World} (h : BoolsO w (low w) l q) (hw : Cls H S w') (hs : w ∈ S) (hno : ∀ k, k < w.heap.size → NotOwned H k) : BoolsO w' (low w') l q :=
  BoolsO.mono (hw.up hs) (BoolsO.stab (hw.same hs hno) h)
theorem BoolsO.ext {w w' : World} {l : List Bool} {q : Option Addr} (h : BoolsO w (low w) l q) (hx : Ext w w') : BoolsO w' (low w') l q :=
  BoolsO.mono (fun k hk => Nat.lt_of_lt_of_le hk hx.size) (BoolsO.stab (fun k hk => hx.block k hk id) h)
end Go.Ss
namespace Go.Proofs.Ytehelljmaiophaa.ss
set_option maxRecDepth 100000
open Go.Eng Go.RowKit Go.Ss
theorem Fresh1_calls (bn : Nat) (a v : Int) (H : List Eng.Item) (S : List World) (w : World) (hc : Cls (blk bn 3 [.int .i64 a] :: H) S w) :
    Calls Try.prog 82 [.int .i64 v, .pointer (some ⟨bn, 0, none⟩)].toArray w fun e w' => e = .returned (.tuple #[]) ∧ Cls (blk bn 3 [.int .i64 (wmax a v)] :: H) S w' := by
  refine enter Try.func82 rfl Try.ntmps82 rfl hc ?_
  (simp only [argEnv, Nat.zero_add, Nat.reduceAdd])
  apply W.reg
  apply old; rfl; rfl; exact .head _; rfl; rfl
  apply omv; rfl; rfl
  apply obn; rfl; rfl; rfl; apply Bin.add
  apply oop; rfl; apply Pev.max2; rfl; exact yes; rfl; exact yes
  apply OL.storeB; rfl; rfl; exact CellsL.one rfl; rfl; rfl; rfl; exact Swap.au; exact Put.au
  apply OL.nil
  refine At.end_ (At.fin0 rfl (fun w' hw' => ⟨rfl, ?_⟩))
  unfold wmax
  exact hw'
theorem values_calls (bn : Nat) (es : List (Bk × BkY)) (q : Option Addr) (cap : Nat) (nm : Int) (s0 : World) (he : Arr bkR s0 (low s0) es q) (hlen : es.length ≤ 140737488355328) (S : List World) (hs0 : s0 ∈ S) (hbn : s0.heap.size ≤ bn) (w : World) (hc : Cls [blk bn 3 [.int .i64 0]] S w) :
    Calls Try.prog 81 [.agg #[.int .i64 nm, .slice q es.length cap], .func (.func 82) ([] : List Value).toArray [.pointer (some ⟨bn, 0, none⟩)].toArray].toArray w fun e w' => e = .returned (.tuple #[]) ∧ Cls [blk bn 3 [.int .i64 (freshF (es.map Prod.fst))]] S w' := by
  obtain ⟨bs, hbs⟩ : ∃ bs, es.map Prod.fst = bs := ⟨_, rfl⟩
  have hbl : bs.length = es.length := by rw [← hbs, List.length_map]
  rw [hbs]
  refine enter Try.func81 rfl Try.ntmps81 rfl hc ?_
  (simp only [argEnv, Nat.zero_add, Nat.reduceAdd])
  apply W.sr
  apply OL.box; rfl; rfl; exact CellsL.agg; (intro bk hbk; have hbk0 := hbk.mem s0 hs0)
  apply OL.nsr
  apply ofa; rfl; rfl; rfl
  apply old; rfl; rfl; exact .head _; rfl; rfl
  apply oop; rfl; apply Pev.len_slice; rfl; exact yes; rfl
  apply omv; rfl; rfl
  apply OL.nx
  apply W.block
  have hbF : AllLe S bk := by first | exact hbk | exact AllLe.mk hc
  refine W.loop (G := Nat) (fun k => k ≤ es.length) (fun k => es.length - k)
    (fun k => [(1, true, .func (.func 82) ([] : List Value).toArray [.pointer (some ⟨bn, 0, none⟩)].toArray), (11, true, .slice q es.length cap), (12, true, .int .i64 (es.length : Int)), (13, true, .int .i64 (k : Int))])
    (fun k => Cls [blk bn 3 [.int .i64 (freshF (bs.take k))]] S) 0 (by omega) (by exact Sub.au) (fun w' hw' => hw'.thin (.any (fun k hk => by rw [show k = bk from hk]; exact hbF) Thin.same)) ?_
  rintro k hk
  apply W.sr
  apply obn; rfl; rfl; rfl; apply Bin.lss
  apply OL.nx
  apply W.seq
  (refine W.cnd (fun hlt => ?_) (fun hlt => ?_)) <;> (try (exfalso; first | omega | exact hlt trivial | contradiction))
  · have hkl : k < es.length := by omega
    obtain ⟨a, p, hqa, hab, hp, hcell, hok⟩ := he.get hkl
    have hab : a.block < s0.heap.size := hab
    have hcell : CellsAt s0 (a.add (k * 7)) [.slice p.2.p.1 p.1.params.length p.2.p.2, .slice p.2.i.1 p.1.ins.length p.2.i.2, .int .i64 p.1.term.kind, .int .i64 p.1.term.arg, .int .i64 p.1.term.n, .slice p.2.t.c.1 p.1.term.cases.length p.2.t.c.2, .slice p.2.t.t.1 p.1.term.to_.length p.2.t.t.2] := hcell
    have hbsk : bs[k]? = some p.1 := by rw [← hbs, List.getElem?_map, hp]; rfl
    have hpl := hok.pl
    have hil := hok.il
    obtain ⟨pi, hpi, hiarr⟩ := hok.i
    have hpil : p.1.ins.length = pi.length := by rw [← hpi, List.length_map]
    have hnx : freshF (bs.take (k + 1)) = freshB (freshF (bs.take k)) p.1 := by
      unfold freshF
      rw [List.take_add_one, hbsk, Option.toList_some, List.foldl_append]
      rfl
    unfold freshB at hnx
    generalize freshF (bs.take k) = z0 at *
    rw [hqa]
    apply W.sk
    apply W.sb
    apply W.sr
    apply oop; rfl; apply Pev.idx; rfl; exact yes; rfl; exact yes; rfl; rfl; intro hcond; omega
    apply oop; rfl; apply Pev.load_keptA; rfl; exact yes; assumption; rfl; intro hcond; assumption; rfl; intro hcond; (rw [add_block]; assumption); intro hcond; exact NotOwned.au
    apply OL.alloc; rfl; rfl; exact CellsL.agg; (intro bk hbk; have hbk0 := hbk.mem s0 hs0)
    apply OL.storeB; rfl; rfl; exact CellsL.agg; rfl; rfl; rfl; exact Swap.au; exact Put.au
    apply OL.nx
    apply W.seq
    apply W.sr
    apply ofa; rfl; rfl; rfl
    apply old; rfl; rfl; exact .head _; rfl; rfl
    apply oop; rfl; apply Pev.len_slice; rfl; exact yes; rfl
    apply omv; rfl; rfl
    apply OL.nx
    apply W.block
    revert bk
    intro b5 hb5 hb50
    have hb51 : AllLe S b5 := by first | exact hb5 | exact hb5.1
    have hb52 : s0.heap.size ≤ b5 := hb51.mem s0 hs0
    have hFr := fun a v => Fresh1_calls bn a v
    refine W.loop (G := Nat) (fun j => j ≤ p.1.params.length) (fun j => p.1.params.length - j)
      (fun j => [(1, true, .func (.func 82) ([] : List Value).toArray [.pointer (some ⟨bn, 0, none⟩)].toArray), (5, true, .pointer (some ⟨b5, 0, none⟩)), (11, true, .slice (some a) es.length cap), (12, true, .int .i64 (es.length : Int)), (13, true, .int .i64 (k : Int)), (18, true, .slice p.2.p.1 p.1.params.length p.2.p.2), (19, true, .int .i64 (p.1.params.length : Int)), (20, true, .int .i64 (j : Int))])
      (fun j => Cls [blk b5 41 [.slice p.2.p.1 p.1.params.length p.2.p.2, .slice p.2.i.1 p.1.ins.length p.2.i.2, .int .i64 p.1.term.kind, .int .i64 p.1.term.arg, .int .i64 p.1.term.n, .slice p.2.t.c.1 p.1.term.cases.length p.2.t.c.2, .slice p.2.t.t.1 p.1.term.to_.length p.2.t.t.2], blk bn 3 [.int .i64 ((p.1.params.take j).foldl wmax z0)]] S) 0 (by omega) (by exact Sub.au) (fun w' hw' => hw') ?_
    rintro j hj
    apply W.sr
    apply obn; rfl; rfl; rfl; apply Bin.lss
    apply OL.nx
    apply W.seq
    (refine W.cnd (fun hlt1 => ?_) (fun hlt1 => ?_)) <;> (try (exfalso; first | omega | exact hlt1 trivial | contradiction))
    · obtain ⟨av, v, hqv, habv, hv, hcv⟩ := hok.p.get (show j < p.1.params.length by omega)
      have habv : av.block < s0.heap.size := habv
      have hn1 : (p.1.params.take (j + 1)).foldl wmax z0 = wmax ((p.1.params.take j).foldl wmax z0) v := by
        rw [List.take_add_one, hv, Option.toList_some, List.foldl_append]
        rfl
      rw [hqv]
      apply W.sk
      apply W.sb
      apply W.sr
      apply oop; rfl; apply Pev.idx; rfl; exact yes; rfl; exact yes; rfl; rfl; intro hcond; omega
      apply oop; rfl; apply Pev.load_kept; rfl; exact yes; assumption; rfl; intro hcond; assumption; intro hcond; (rw [add_block]; assumption); intro hcond; exact NotOwned.au
      apply oas; rfl; rfl
      apply OL.nx
      apply W.reg
      apply omv; rfl; rfl
      apply omv; rfl; rfl
      refine OL.callvE (α := Unit) (first := []) (cap := [.pointer (some ⟨bn, 0, none⟩)]) (vs := [.int .i64 v]) (fun _ => .tuple #[]) (fun _ => True) (fun _ => Cls [blk b5 41 [.slice (some av) p.1.params.length p.2.p.2, .slice p.2.i.1 p.1.ins.length p.2.i.2, .int .i64 p.1.term.kind, .int .i64 p.1.term.arg, .int .i64 p.1.term.n, .slice p.2.t.c.1 p.1.term.cases.length p.2.t.c.2, .slice p.2.t.t.1 p.1.term.to_.length p.2.t.t.2], blk bn 3 [.int .i64 (wmax ((p.1.params.take j).foldl wmax z0) v)]] S) rfl rfl rfl (by exact Args.au) (fun w2 hw2 => (hFr _ v _ _ w2 hw2.flip).mono fun e w3 h => ⟨(), h.1, trivial, h.2.flip⟩) ?_
      intro _ _
      apply OL.nil
      with_reducible apply At.in_normal
      with_reducible apply At.next
      apply W.reg
      apply obn; rfl; rfl; rfl; apply Bin.add_in; omega
      apply omv; rfl; rfl
      apply OL.nil
      exact At.again (j + 1) (by omega) (by omega) (by exact Sub.au) (fun w' hw' => by simp only [hn1]; exact hw')
    obtain rfl : j = p.1.params.length := by omega
    rw [List.take_length]
    generalize p.1.params.foldl wmax z0 = z1 at *
    refine W.xt ?_
    with_reducible apply At.next
    apply W.sr
    apply ofa; rfl; rfl; rfl
    apply old; rfl; rfl; exact .head _; rfl; rfl
    apply oop; rfl; apply Pev.len_slice; rfl; exact yes; rfl
    apply omv; rfl; rfl
    apply OL.nx
    apply W.block
    refine W.loop (G := Nat) (fun j => j ≤ pi.length) (fun j => pi.length - j)
      (fun j => [(1, true, .func (.func 82) ([] : List Value).toArray [.pointer (some ⟨bn, 0, none⟩)].toArray), (11, true, .slice (some a) es.length cap), (12, true, .int .i64 (es.length : Int)), (13, true, .int .i64 (k : Int)), (29, true, .slice p.2.i.1 pi.length p.2.i.2), (30, true, .int .i64 (pi.length : Int)), (31, true, .int .i64 (j : Int))])
      (fun j => Cls [blk bn 3 [.int .i64 (((p.1.ins.map In.to_).take j).foldl wmax z1)]] S) 0 (by omega) (by rw [← hpil]; exact Sub.au) (fun w' hw' => hw'.thin (.any (fun k hk => by rw [show k = b5 from hk]; exact hb51) Thin.same)) ?_
    rintro j hj
    apply W.sr
    apply obn; rfl; rfl; rfl; apply Bin.lss
    apply OL.nx
    apply W.seq
    (refine W.cnd (fun hlt2 => ?_) (fun hlt2 => ?_)) <;> (try (exfalso; first | omega | exact hlt2 trivial | contradiction))
    · obtain ⟨ai, u, hqi, haib, hu, hcu, hoku⟩ := hiarr.get (show j < pi.length by omega)
      have haib : ai.block < s0.heap.size := haib
      have hcu : CellsAt s0 (ai.add (j * 4)) [.int .i64 u.1.to_, .int .i64 u.1.op, .int .i64 u.1.n, .slice u.2.1 u.1.args.length u.2.2] := hcu
      have hui : (p.1.ins.map In.to_)[j]? = some u.1.to_ := by rw [← hpi]; simp [hu]
      have hn1 : ((p.1.ins.map In.to_).take (j + 1)).foldl wmax z1 = wmax (((p.1.ins.map In.to_).take j).foldl wmax z1) u.1.to_ := by
        rw [List.take_add_one, hui, Option.toList_some, List.foldl_append]
        rfl
      rw [hqi]
      apply W.sk
      apply W.sb
      apply W.sr
      apply oop; rfl; apply Pev.idx; rfl; exact yes; rfl; exact yes; rfl; rfl; intro hcond; omega
      apply oop; rfl; apply Pev.load_keptA; rfl; exact yes; assumption; rfl; intro hcond; assumption; rfl; intro hcond; (rw [add_block]; assumption); intro hcond; exact NotOwned.au
      apply OL.alloc; rfl; rfl; exact CellsL.agg; (intro bk hbk; have hbk0 := hbk.mem s0 hs0)
      apply OL.storeB; rfl; rfl; exact CellsL.agg; rfl; rfl; rfl; exact Swap.au; exact Put.au
      apply OL.nx
      apply W.reg
      apply omv; rfl; rfl
      apply ofa; rfl; rfl; rfl
      apply old; rfl; rfl; exact .head _; rfl; rfl
      have hb9 : AllLe S bk := by first | exact hbk | exact hbk.1
      refine OL.callvE (α := Unit) (first := []) (cap := [.pointer (some ⟨bn, 0, none⟩)]) (vs := [.int .i64 u.1.to_]) (fun _ => .tuple #[]) (fun _ => True) (fun _ => Cls [blk bk 85 [.int .i64 u.1.to_, .int .i64 u.1.op, .int .i64 u.1.n, .slice u.2.1 u.1.args.length u.2.2], blk bn 3 [.int .i64 (wmax (((p.1.ins.map In.to_).take j).foldl wmax z1) u.1.to_)]] S) rfl rfl rfl (by exact Args.au) (fun w2 hw2 => (hFr _ u.1.to_ _ _ w2 hw2.flip).mono fun e w3 h => ⟨(), h.1, trivial, h.2.flip⟩) ?_
      intro _ _
      apply OL.nil
      with_reducible apply At.in_normal
      with_reducible apply At.next
      apply W.reg
      apply obn; rfl; rfl; rfl; apply Bin.add_in; omega
      apply omv; rfl; rfl
      apply OL.nil
      exact At.again (j + 1) (by omega) (by omega) (by exact Sub.au) (fun w' hw' => by simp only [hn1]; exact hw'.thin (.any (fun k hk => by rw [show k = bk from hk]; exact hb9) Thin.same))
    obtain rfl : j = pi.length := by omega
    rw [show (p.1.ins.map In.to_).take pi.length = p.1.ins.map In.to_ by rw [List.take_of_length_le]; simp [hpil]]
    rw [← hnx]
    refine W.xt ?_
    with_reducible apply At.in_normal
    with_reducible apply At.next
    apply W.reg
    apply obn; rfl; rfl; rfl; apply Bin.add_in; omega
    apply omv; rfl; rfl
    apply OL.nil
    exact At.again (k + 1) (by omega) (by omega) (by exact Sub.au) (fun w' hw' => hw')
  obtain rfl : k = es.length := by omega
  rw [← hbl, List.take_length]
  refine W.xt ?_
  exact At.end_ (At.fin0 rfl (fun w' hw' => ⟨rfl, hw'⟩))
theorem SFresh_calls (es : List (Bk × BkY)) (q : Option Addr) (cap : Nat) (nm : Int) (w : World) (he : Arr bkR w (low w) es q) (hlen : es.length ≤ 140737488355328) :
    Calls Try.prog 31 [.agg #[.int .i64 nm, .slice q es.length cap]].toArray w fun e w' => e = .returned (.int .i64 (freshF (es.map Prod.fst))) ∧ Ext w w' := by
  refine enter Try.func31 rfl Try.ntmps31 rfl (Cls.start w) ?_
  (simp only [argEnv, Nat.zero_add, Nat.reduceAdd])
  apply W.sr
  apply OL.box; rfl; rfl; exact CellsL.agg; (intro bk hbk; simp only [AllLe, and_true] at hbk)
  apply oas; rfl; rfl
  apply OL.nsr
  apply OL.alloc; rfl; rfl; exact CellsL.one rfl; (intro bk hbk; simp only [AllLe, and_true] at hbk)
  apply OL.storeB; rfl; rfl; exact CellsL.one rfl; rfl; rfl; rfl; exact Swap.au; exact Put.au
  apply OL.nsr
  apply oop; rfl; apply Pev.load_blkA; rfl; exact yes; exact .tail _ (.head _); rfl; exact Take.au
  apply oop; rfl; apply Pev.makeFunc; exact Args.au; exact Args.au
  have hbn : w.heap.size ≤ bk := by first | exact hbk | exact hbk.1
  refine OL.callE (α := Unit) (fun _ => .tuple #[]) (fun _ => True) (fun _ => Cls [blk bk 3 [.int .i64 (freshF (es.map Prod.fst))]] [w]) rfl rfl (by exact Args.au) (fun w2 hw2 => (values_calls bk es q cap nm w he hlen [w] (.head _) hbn w2 (hw2.thin (.keep (.any (fun k hk => by rw [show k = _ from hk]; exact ⟨by assumption, trivial⟩) Thin.nil)))).mono fun e w3 h => ⟨(), h.1, trivial, h.2⟩) ?_
  intro _ _
  apply OL.nsr
  apply old; rfl; rfl; exact .head _; rfl; rfl
  apply oas; rfl; rfl
  apply OL.nx
  apply W.ret
  ((with_reducible apply At.fin1); rfl; rfl; intro w' hw')
  exact ⟨rfl, (hw'.thin (.any (fun k hk => by rw [show k = bk from hk]; exact ⟨hbn, trivial⟩) Thin.nil)).fr (by exact mau) (fun k hk => NotOwned.nil)⟩
end Go.Proofs.Ytehelljmaiophaa.ss

/- The walk of the law's ssaWorks. Conditions: none. -/
namespace Go.Eng
open Go.RowKit
section
variable {P : Program} {n : Nat} {Q : Exit → Act → World → Prop} {l : Env} {C : World → Prop}
theorem OL.frz {ops : Array Oper} {rest : List Oper} {C' : World → World → Prop} (hc : ∀ w0, C w0 → C' w0 w0) (h : ∀ w0, C w0 → OL P n ops Q rest l (C' w0)) : OL P n ops Q rest l C := ⟨fun a w s c => (h w c).run a w s (hc w c)⟩
end
end Go.Eng
namespace Go.Proofs.Ytehelljmaiophaa.ss
set_option maxRecDepth 100000
open Go.Eng Go.RowKit Go.Ss
theorem ssaWorks_calls (w : World) : Calls Try.prog 22 #[] w fun e w' => e = .returned (.bool true) ∧ Ext w w' := by
  refine enter Try.func22 rfl Try.ntmps22 rfl (Cls.start w) ?_
  (simp only [argEnv, Nat.zero_add, Nat.reduceAdd])
  apply W.sr
  apply oas; rfl; rfl
  apply OL.nsr
  refine OL.callE (α := (FnY × Option Addr × Nat) × World) (fun z => .agg #[.slice z.1.2.1 1 z.1.2.2, .int .i64 0]) (fun z => Arr fnR z.2 (low z.2) [(twoF, z.1.1)] z.1.2.1) (fun z => Cls [] [z.2, w]) rfl rfl (by exact Args.au) (fun w2 hw2 => (two_calls w2).mono fun e w3 ⟨y, q, c, h1, h2, h3⟩ => ⟨((y, q, c), w3), h1, h3, (hw2.ext h2).note⟩) ?_
  rintro ⟨⟨y1, q1, c1⟩, w1⟩ hu1
  simp only at hu1 ⊢
  skip
  refine OL.callE (α := (Option Addr × Nat) × World) (fun z => .tuple #[.agg #[.slice z.1.1 1 z.1.2, .int .i64 0, .int .i64 5], .int .i64 4, .int .i64 0]) (fun z => IntsO z.2 (low z.2) [7] z.1.1) (fun z => Cls [] [z.2, w]) rfl rfl (by exact Args.au) (fun w2 hw2 => (Run_calls [(twoF, y1)] q1 c1 0 4 (by decide) (by simp) (by simp [I64]) w2 (hu1.at hw2 (by exact mau) (fun k hk => NotOwned.nil))).mono fun e w3 h => ?_) ?_
  · rcases h with ⟨h1, _⟩ | ⟨_, h1, _⟩ | ⟨_, _, f, h1, h2⟩
    · exact absurd two_unit h1
    · exact absurd h1 (by decide)
    · obtain rfl := two_run4 h1
      obtain ⟨O, q, c, h3, h4⟩ := h2
      exact ⟨((q, c), w3), h3, rowIntsL h4 (.head _), ((hw2.ext ((h4.thin (.any (fun k hk => ⟨hk.1, trivial⟩) Thin.nil)).fr (by exact mau) (fun k hk => NotOwned.nil))).forget (by simp)).note⟩
  rintro ⟨⟨q2, c2⟩, w2⟩ hI2
  simp only at hI2 ⊢
  apply omv; rfl; rfl
  apply oex; rfl; rfl; rfl
  apply oex; rfl; rfl; rfl
  apply oex; rfl; rfl; rfl
  apply OL.alloc; rfl; rfl; exact CellsL.agg; (intro bk hbk; simp only [AllLe, and_true] at hbk)
  apply OL.storeB; rfl; rfl; exact CellsL.agg; rfl; rfl; rfl; exact Swap.au; exact Put.au
  apply oas; rfl; rfl
  apply oas; rfl; rfl
  apply OL.nsr
  revert bk
  intro bR hbR
  have hbR2 : w2.heap.size ≤ bR := by first | exact hbR.1 | exact hbR
  have hbRw : w.heap.size ≤ bR := by first | exact hbR.2.1 | exact hbR.2 | omega
  refine OL.frz (C' := fun w0 w' => Cls [] [w0, w2, w] w') (fun w0 hc0 => (hc0.thin (.any (fun k hk => by rw [show k = bR from hk]; exact ⟨hbR2, hbRw, trivial⟩) Thin.nil)).note) ?_
  intro wF hcF
  have hcR : CellsAt wF ⟨bR, 0, none⟩ [.slice q2 1 c2, .int .i64 0, .int .i64 5] := fun j v hj => by rw [add_mid, blk_cell (hcF.item (.head _)), Nat.zero_add]; exact hj
  have hbF : bR < wF.heap.size := blk_lt (hcF.item (.head _))
  have hIF : IntsO wF (low wF) [7] q2 := hI2.at hcF (.head _) (fun k hk => NotOwned.blk (by omega) NotOwned.nil)
  clear hcF
  refine OL.callE (α := (FnY × Option Addr × Nat) × World) (fun z => .agg #[.slice z.1.2.1 1 z.1.2.2, .int .i64 0]) (fun z => Arr fnR z.2 (low z.2) [(twoF, z.1.1)] z.1.2.1) (fun z => Cls [] [z.2, wF, w]) rfl rfl (by exact Args.au) (fun w3 hw3 => (two_calls w3).mono fun e w4 ⟨y, q, c, h1, h2, h3⟩ => ⟨((y, q, c), w4), h1, h3, ((hw3.ext h2).forget (by simp)).note⟩) ?_
  rintro ⟨⟨y3, q3, c3⟩, w3⟩ hu3
  simp only at hu3 ⊢
  skip
  refine OL.callE (α := Unit) (fun z => .tuple #[.agg #[.slice none 0 0, .int .i64 0, .int .i64 0], .int .i64 0, .int .i64 13]) (fun z => True) (fun z => Cls [] [wF, w]) rfl rfl (by exact Args.au) (fun w4 hw4 => (Run_calls [(twoF, y3)] q3 c3 0 3 (by decide) (by simp) (by simp [I64]) w4 (hu3.at hw4 (by exact mau) (fun k hk => NotOwned.nil))).mono fun e w5 h => ?_) ?_
  · rcases h with ⟨h1, _⟩ | ⟨_, h1, _⟩ | ⟨_, _, f, h1, h2⟩
    · exact absurd two_unit h1
    · exact absurd h1 (by decide)
    · obtain rfl := two_run3 h1
      exact ⟨(), h2.1, trivial, (hw4.ext (h2.2.fr (by exact mau) (fun k hk => NotOwned.nil))).forget (by simp)⟩
  intro _ _
  apply omv; rfl; rfl
  apply oex; rfl; rfl; rfl
  apply oex; rfl; rfl; rfl
  apply oex; rfl; rfl; rfl
  apply OL.alloc; rfl; rfl; exact CellsL.agg; (intro bk hbk; simp only [AllLe, and_true] at hbk)
  apply OL.storeB; rfl; rfl; exact CellsL.agg; rfl; rfl; rfl; exact Swap.au; exact Put.au
  apply oas; rfl; rfl
  apply oas; rfl; rfl
  apply OL.nsr
  apply omv; rfl; rfl
  apply obn; rfl; rfl; rfl; apply Bin.eql
  apply omv; rfl; rfl
  apply oy; rfl; rfl; rfl; apply Pev.move; rfl; exact yes
  apply oy; rfl; rfl; rfl; apply Pev.bin; rfl; exact yes; rfl; exact yes; intro hcond; apply Bin.eql
  apply oop; rfl; apply Pev.pick_and; rfl; exact yes; rfl; exact yes
  apply omv; rfl; rfl
  apply oy; rfl; rfl; rfl; apply Pev.load_keptA; rfl; exact yes; exact .head _; rfl; intro hcond; assumption; rfl; intro hcond; assumption; intro hcond; exact NotOwned.au
  ((apply OL.ungate); (exact Guard.au); (decide))
  apply OL.buildSlice; rfl; rfl; rfl; exact Elems.au; rfl; rfl; (intro bk hbk; simp only [AllLe, and_true] at hbk)
  apply oy; rfl; rfl; rfl; apply Pev.build; rfl; exact CellsL.agg; rfl; exact Fill.au; rfl
  rename_i b4 hb4
  revert bk
  intro b27 hb27
  have hb271 : wF.heap.size ≤ b27 := by first | exact hb27.1 | exact hb27 | omega
  have hb41 : wF.heap.size ≤ b4 := by first | exact hb4.1 | exact hb4 | omega
  (((first | (with_reducible apply OL.op) | (with_reducible apply QL.op)); (exact Guard.au); rfl; rfl); (exact Pev.call (v := .bool true) rfl (by exact Args.au) (fun _ w5 hw5 => (SameResult_calls q2 (some ⟨b27, 0, none⟩) c2 1 [7] [7] 0 5 0 5 w5 (by simp) (by simp) (hIF.at hw5 (by exact mau) (fun k hk => by exact NotOwned.au)) (blkInts (hw5.item (.head _)))).mono (fun e w6 h => ⟨by rw [h.1]; rfl, hw5.ext h.2⟩))))
  apply oop; rfl; apply Pev.pick_and; rfl; exact yes; rfl; exact yes
  apply omv; rfl; rfl
  apply oy; rfl; rfl; rfl; apply Pev.move; rfl; exact yes
  apply oy; rfl; rfl; rfl; apply Pev.bin; rfl; exact yes; rfl; exact yes; intro hcond; apply Bin.eql
  apply oop; rfl; apply Pev.pick_and; rfl; exact yes; rfl; exact yes
  apply omv; rfl; rfl
  apply oy; rfl; rfl; rfl; apply Pev.build; rfl; exact CellsL.agg; rfl; exact Fill.au; rfl
  (((first | (with_reducible apply OL.op) | (with_reducible apply QL.op)); (exact Guard.au); rfl; rfl); (exact Pev.call (v := .int .i64 3) rfl (by exact Args.au) (fun _ w5 hw5 => (Check_calls [] none 0 0 w5 Arr.nil (by simp) (by simp [I64])).mono (fun e w6 h => ⟨by rw [h.1]; rfl, hw5.ext h.2⟩))))
  apply oy; rfl; rfl; rfl; apply Pev.bin; rfl; exact yes; rfl; exact yes; intro hcond; apply Bin.eql
  apply oop; rfl; apply Pev.pick_and; rfl; exact yes; rfl; exact yes
  apply omv; rfl; rfl
  ((apply OL.ungate); (exact Guard.au); (decide))
  refine OL.callE (α := (FnY × Option Addr × Nat) × World) (fun z => .agg #[.slice z.1.2.1 1 z.1.2.2, .int .i64 0]) (fun z => Arr fnR z.2 (low z.2) [(twoF, z.1.1)] z.1.2.1) (fun z => Cls [] [z.2, w]) rfl rfl (by exact Args.au) (fun w5 hw5 => (two_calls w5).mono fun e w6 ⟨y, q, c, h1, h2, h3⟩ => ⟨((y, q, c), w6), h1, h3, (((hw5.ext h2).thin (.any (fun k hk => by rw [show k = b27 from hk]; exact ⟨hb271, by first | exact hb27.2 | exact ⟨hb27.2, trivial⟩⟩) (.any (fun k hk => by rw [show k = b4 from hk]; exact ⟨hb41, by first | exact hb4.2 | exact ⟨hb4.2, trivial⟩⟩) Thin.nil))).forget (by simp)).note⟩) ?_
  rintro ⟨⟨y6, q6, c6⟩, w6⟩ hu6
  dsimp only at hu6 ⊢
  apply oy; rfl; rfl; rfl; apply Pev.field; rfl; exact yes; rfl; rfl
  obtain ⟨a, x, hqa, hab, hx, hcF, hok⟩ := hu6.get (show 0 < [(twoF, y6)].length by simp)
  obtain rfl := Option.some.inj hx
  have hab : a.block < w6.heap.size := hab
  have hcF : CellsAt w6 (a.add (0 * 2)) [.int .i64 (-1), .slice y6.q 1 y6.c] := hcF
  have hbb : ArrP bkR w6 (low w6) twoF.blocks y6.q := hok.b
  obtain ⟨es, hes, he⟩ := hbb
  have hel : es.length = 1 := by rw [← List.length_map (f := Prod.fst), hes]; rfl
  rw [hqa]
  ((apply OL.ungate); (exact Guard.au); (decide))
  apply oop; rfl; apply Pev.idx; rfl; exact yes; rfl; exact yes; rfl; rfl; intro hcond; (simp only [Bool.and_eq_true, Bool.or_eq_true, Bool.not_eq_true', decide_eq_true_eq, decide_eq_false_iff_not] at *; omega)
  apply oy; rfl; rfl; rfl; apply Pev.load_keptA; rfl; exact yes; exact .head _; rfl; intro hcond; assumption; rfl; intro hcond; assumption; intro hcond; exact NotOwned.au
  have hFr : ∀ (H : List Eng.Item) (S : List World) (w7 : World), Cls H S w7 → w6 ∈ S → (∀ k, k < w6.heap.size → NotOwned H k) → Calls Try.prog 31 [.agg #[.int .i64 (-1), .slice y6.q 1 y6.c]].toArray w7 fun e w' => e = .returned (.int .i64 4) ∧ Ext w7 w' := fun H S w7 h7 hs hno => by
    have h := SFresh_calls es y6.q y6.c (-1) w7 (he.at h7 hs hno) (by omega)
    rw [hel, hes, two_fresh] at h
    exact h
  (((first | (with_reducible apply OL.op) | (with_reducible apply QL.op)); (exact Guard.au); rfl; rfl); (exact Pev.call (v := .int .i64 4) rfl (by exact Args.au) (fun _ w7 hw7 => (hFr _ _ w7 hw7 (by exact mau) (fun k hk => NotOwned.nil)).mono (fun e w8 h => ⟨h.1, hw7.ext h.2⟩))))
  apply oy; rfl; rfl; rfl; apply Pev.bin; rfl; exact yes; rfl; exact yes; intro hcond; apply Bin.eql
  apply oop; rfl; apply Pev.pick_and; rfl; exact yes; rfl; exact yes
  apply oas; rfl; rfl
  apply OL.nx
  apply W.ret
  ((with_reducible apply At.fin1); rfl; rfl; intro w' hw')
  exact ⟨rfl, hw'.fr (by exact mau) (fun k hk => NotOwned.nil)⟩
end Go.Proofs.Ytehelljmaiophaa.ss

/- The walks of slices.ContainsFunc at functions and at ints, and of the law's small and vast. Conditions: none. -/
namespace Go.Ss
open Go.Eng Go.RowKit
def bigV (v : Int) : Bool := decide (4611686018427387904 < v)
def vastB (p : Bk × BkY) : Bool := p.1.params.any bigV || (p.1.ins.any fun i => bigV i.to_)
def vastF (x : Go.Ss.Fn × FnY) : Bool := x.1.blocks.any fun b => b.params.any bigV || (b.ins.any fun i => bigV i.to_)
end Go.Ss
namespace Go.Proofs.Ytehelljmaiophaa.ss
set_option maxRecDepth 100000
open Go.Eng Go.RowKit Go.Ss
theorem VIndexFunc_calls (q : Option Addr) (cap : Nat) (l : List (Go.Ss.Fn × FnY)) (f : FuncId) (first caps : List Value) (pr : Go.Ss.Fn × FnY → Bool) (w : World) (hlen : l.length ≤ 9223372036854775807) (h : Arr fnR w (low w) l q)
    (hf : callable Try.prog f = true) (hp : ∀ p ∈ l, ∀ w', Ext w w' → Calls Try.prog f (first ++ [Value.agg (fnR.cells p.1 p.2).toArray] ++ caps).toArray w' fun e w'' => e = .returned (.bool (pr p)) ∧ Ext w' w'') :
    Calls Try.prog 72 [.slice q l.length cap, .func (.func f) first.toArray caps.toArray].toArray w fun e w' => e = .returned (.int .i64 (idxG pr l 0)) ∧ Ext w w' := by
  refine enter Try.func72 rfl Try.ntmps72 rfl (Cls.start w) ?_
  (simp only [argEnv, Nat.zero_add, Nat.reduceAdd])
  apply W.sr
  apply oas; rfl; rfl
  apply OL.nx
  apply W.seq
  apply W.sr
  apply omv; rfl; rfl
  apply oop; rfl; apply Pev.len_slice; rfl; exact yes; rfl
  apply omv; rfl; rfl
  apply OL.nx
  apply W.block
  refine W.loop (G := Nat) (fun i => i ≤ l.length ∧ idxG pr (l.drop i) i = idxG pr l 0) (fun i => l.length - i)
    (fun i => [(8, true, .int .i64 (i : Int)), (7, true, .int .i64 (l.length : Int)), (0, true, .slice q l.length cap), (1, true, .func (.func f) first.toArray caps.toArray)])
    (fun i => Cls [] [w]) 0 ⟨by omega, rfl⟩ (by exact Sub.au) (fun w' hw' => hw') ?_
  rintro i ⟨hi, hrest⟩
  apply W.sr
  apply obn; rfl; rfl; rfl; apply Bin.lss
  apply OL.nx
  apply W.seq
  (refine W.cnd (fun hlt => ?_) (fun hlt => ?_)) <;> (try (exfalso; first | omega | exact hlt trivial | contradiction))
  · obtain ⟨a, p, rfl, hab, hu, hcell, hok⟩ := h.get (show i < l.length by omega)
    have hab : a.block < w.heap.size := hab
    have hcell : CellsAt w (a.add (i * 2)) [.int .i64 p.1.name, .slice p.2.q p.1.blocks.length p.2.c] := hcell
    have hpu := fun w3 => hp p (List.mem_of_getElem? hu) w3
    have hpu : ∀ w3, Ext w w3 → Calls Try.prog f (first ++ [Value.agg ([.int .i64 p.1.name, .slice p.2.q p.1.blocks.length p.2.c] : List Value).toArray] ++ caps).toArray w3 fun e w'' => e = .returned (.bool (pr p)) ∧ Ext w3 w'' := hpu
    rw [idxG_drop hu] at hrest
    apply W.sk
    apply W.sb
    apply W.sr
    apply omv; rfl; rfl
    apply oas; rfl; rfl
    apply OL.nsr
    apply omv; rfl; rfl
    apply omv; rfl; rfl
    apply omv; rfl; rfl
    apply oop; rfl; apply Pev.idx; rfl; exact yes; rfl; exact yes; rfl; rfl; intro hcond; omega
    apply oop; rfl; apply Pev.load_keptA; rfl; exact yes; exact .head _; rfl; intro hcond; assumption; rfl; intro hcond; (rw [add_block]; assumption); intro hcond; exact NotOwned.au
    (((first | (with_reducible apply OL.op) | (with_reducible apply QL.op)); (exact Guard.au); rfl; rfl); (apply Pev.callv (first := first) (cap := caps)); rfl; ((first | exact fun _ => rfl | exact fun h => h | (intro h; simp_all; done))); (exact hf); (exact Args.au); (exact (fun _ w2 hw2 => (hpu w2 (hw2.toExt (by exact mau) (fun k hk => by exact NotOwned.au))).mono (fun e w3 h => ⟨h.1, hw2.ext h.2⟩))))
    apply OL.nx
    refine W.cond rfl (fun heq => ?_) (fun heq => ?_)
    · rw [if_pos heq] at hrest
      apply W.sr
      apply omv; rfl; rfl
      apply oas; rfl; rfl
      apply OL.nx
      refine W.rt ?_
      ((with_reducible apply At.fin1); rfl; rfl; intro w' hw')
      exact ⟨by rw [hrest], by (exact hw'.fr)⟩
    · rw [if_neg (by simpa using heq)] at hrest
      apply W.skip
      with_reducible apply At.in_normal
      with_reducible apply At.next
      apply W.reg
      apply obn; rfl; rfl; rfl; apply Bin.add_in; omega
      apply omv; rfl; rfl
      apply OL.nil
      exact At.again (i + 1) ⟨by omega, hrest⟩ (by omega) (by exact Sub.au) (fun w' hw' => hw'.thin (by exact Thin.au))
  · rw [List.drop_eq_nil_of_le (by omega), idxG] at hrest
    refine W.xt ?_
    with_reducible apply At.next
    apply W.sr
    apply oas; rfl; rfl
    apply OL.nx
    apply W.ret
    ((with_reducible apply At.fin1); rfl; rfl; intro w' hw')
    exact ⟨by rw [← hrest], by (exact hw'.fr)⟩
theorem VContainsFunc_calls (q : Option Addr) (cap : Nat) (l : List (Go.Ss.Fn × FnY)) (f : FuncId) (first caps : List Value) (pr : Go.Ss.Fn × FnY → Bool) (w : World) (hlen : l.length ≤ 9223372036854775807) (h : Arr fnR w (low w) l q)
    (hf : callable Try.prog f = true) (hp : ∀ p ∈ l, ∀ w', Ext w w' → Calls Try.prog f (first ++ [Value.agg (fnR.cells p.1 p.2).toArray] ++ caps).toArray w' fun e w'' => e = .returned (.bool (pr p)) ∧ Ext w' w'') :
    Calls Try.prog 28 [.slice q l.length cap, .func (.func f) first.toArray caps.toArray].toArray w fun e w' => e = .returned (.bool (l.any pr)) ∧ Ext w w' := by
  refine enter Try.func28 rfl Try.ntmps28 rfl (Cls.start w) ?_
  (simp only [argEnv, Nat.zero_add, Nat.reduceAdd])
  apply W.sr
  apply oas; rfl; rfl
  apply OL.nsr
  apply omv; rfl; rfl
  apply omv; rfl; rfl
  (((first | (with_reducible apply OL.op) | (with_reducible apply QL.op)); (exact Guard.au); rfl; rfl); (exact Pev.call rfl (by exact Args.au) (fun _ w2 hw2 => (VIndexFunc_calls q cap l f first caps pr w2 hlen (h.at hw2 (by exact mau) (fun k hk => NotOwned.nil)) hf (fun s hs w3 h3 => hp s hs w3 ((hw2.toExt (s := w) (by exact mau) (fun k hk => by exact NotOwned.au)).trans h3))).mono (fun e w3 h => ⟨h.1, hw2.ext h.2⟩))))
  apply obn; rfl; rfl; rfl; apply Bin.geq
  apply oas; rfl; rfl
  apply OL.nx
  apply W.ret
  ((with_reducible apply At.fin1); rfl; rfl; intro w' hw')
  exact ⟨by rw [← idxG_any pr l 0], by (exact hw'.fr)⟩
theorem IIndexFunc_calls (q : Option Addr) (cap : Nat) (l : List (Int)) (f : FuncId) (first caps : List Value) (pr : Int → Bool) (w : World) (hlen : l.length ≤ 9223372036854775807) (h : IntsO w (low w) l q)
    (hf : callable Try.prog f = true) (hp : ∀ p ∈ l, ∀ w', Ext w w' → Calls Try.prog f (first ++ [Value.int .i64 p] ++ caps).toArray w' fun e w'' => e = .returned (.bool (pr p)) ∧ Ext w' w'') :
    Calls Try.prog 116 [.slice q l.length cap, .func (.func f) first.toArray caps.toArray].toArray w fun e w' => e = .returned (.int .i64 (idxG pr l 0)) ∧ Ext w w' := by
  refine enter Try.func116 rfl Try.ntmps116 rfl (Cls.start w) ?_
  (simp only [argEnv, Nat.zero_add, Nat.reduceAdd])
  apply W.sr
  apply oas; rfl; rfl
  apply OL.nx
  apply W.seq
  apply W.sr
  apply omv; rfl; rfl
  apply oop; rfl; apply Pev.len_slice; rfl; exact yes; rfl
  apply omv; rfl; rfl
  apply OL.nx
  apply W.block
  refine W.loop (G := Nat) (fun i => i ≤ l.length ∧ idxG pr (l.drop i) i = idxG pr l 0) (fun i => l.length - i)
    (fun i => [(8, true, .int .i64 (i : Int)), (7, true, .int .i64 (l.length : Int)), (0, true, .slice q l.length cap), (1, true, .func (.func f) first.toArray caps.toArray)])
    (fun i => Cls [] [w]) 0 ⟨by omega, rfl⟩ (by exact Sub.au) (fun w' hw' => hw') ?_
  rintro i ⟨hi, hrest⟩
  apply W.sr
  apply obn; rfl; rfl; rfl; apply Bin.lss
  apply OL.nx
  apply W.seq
  (refine W.cnd (fun hlt => ?_) (fun hlt => ?_)) <;> (try (exfalso; first | omega | exact hlt trivial | contradiction))
  · obtain ⟨a, p, rfl, hab, hu, hcell⟩ := h.get (show i < l.length by omega)
    have hab : a.block < w.heap.size := hab
    have hpu := fun w3 => hp p (List.mem_of_getElem? hu) w3
    rw [idxG_drop hu] at hrest
    apply W.sk
    apply W.sb
    apply W.sr
    apply omv; rfl; rfl
    apply oas; rfl; rfl
    apply OL.nsr
    apply omv; rfl; rfl
    apply omv; rfl; rfl
    apply omv; rfl; rfl
    apply oop; rfl; apply Pev.idx; rfl; exact yes; rfl; exact yes; rfl; rfl; intro hcond; omega
    apply oop; rfl; apply Pev.load_kept; rfl; exact yes; exact .head _; rfl; intro hcond; assumption; intro hcond; (rw [add_block]; assumption); intro hcond; exact NotOwned.au
    (((first | (with_reducible apply OL.op) | (with_reducible apply QL.op)); (exact Guard.au); rfl; rfl); (apply Pev.callv (first := first) (cap := caps)); rfl; ((first | exact fun _ => rfl | exact fun h => h | (intro h; simp_all; done))); (exact hf); (exact Args.au); (exact (fun _ w2 hw2 => (hpu w2 (hw2.toExt (by exact mau) (fun k hk => by exact NotOwned.au))).mono (fun e w3 h => ⟨h.1, hw2.ext h.2⟩))))
    apply OL.nx
    refine W.cond rfl (fun heq => ?_) (fun heq => ?_)
    · rw [if_pos heq] at hrest
      apply W.sr
      apply omv; rfl; rfl
      apply oas; rfl; rfl
      apply OL.nx
      refine W.rt ?_
      ((with_reducible apply At.fin1); rfl; rfl; intro w' hw')
      exact ⟨by rw [hrest], by (exact hw'.fr)⟩
    · rw [if_neg (by simpa using heq)] at hrest
      apply W.skip
      with_reducible apply At.in_normal
      with_reducible apply At.next
      apply W.reg
      apply obn; rfl; rfl; rfl; apply Bin.add_in; omega
      apply omv; rfl; rfl
      apply OL.nil
      exact At.again (i + 1) ⟨by omega, hrest⟩ (by omega) (by exact Sub.au) (fun w' hw' => hw'.thin (by exact Thin.au))
  · rw [List.drop_eq_nil_of_le (by omega), idxG] at hrest
    refine W.xt ?_
    with_reducible apply At.next
    apply W.sr
    apply oas; rfl; rfl
    apply OL.nx
    apply W.ret
    ((with_reducible apply At.fin1); rfl; rfl; intro w' hw')
    exact ⟨by rw [← hrest], by (exact hw'.fr)⟩
theorem IContainsFunc_calls (q : Option Addr) (cap : Nat) (l : List (Int)) (f : FuncId) (first caps : List Value) (pr : Int → Bool) (w : World) (hlen : l.length ≤ 9223372036854775807) (h : IntsO w (low w) l q)
    (hf : callable Try.prog f = true) (hp : ∀ p ∈ l, ∀ w', Ext w w' → Calls Try.prog f (first ++ [Value.int .i64 p] ++ caps).toArray w' fun e w'' => e = .returned (.bool (pr p)) ∧ Ext w' w'') :
    Calls Try.prog 75 [.slice q l.length cap, .func (.func f) first.toArray caps.toArray].toArray w fun e w' => e = .returned (.bool (l.any pr)) ∧ Ext w w' := by
  refine enter Try.func75 rfl Try.ntmps75 rfl (Cls.start w) ?_
  (simp only [argEnv, Nat.zero_add, Nat.reduceAdd])
  apply W.sr
  apply oas; rfl; rfl
  apply OL.nsr
  apply omv; rfl; rfl
  apply omv; rfl; rfl
  (((first | (with_reducible apply OL.op) | (with_reducible apply QL.op)); (exact Guard.au); rfl; rfl); (exact Pev.call rfl (by exact Args.au) (fun _ w2 hw2 => (IIndexFunc_calls q cap l f first caps pr w2 hlen (h.at hw2 (by exact mau) (fun k hk => NotOwned.nil)) hf (fun s hs w3 h3 => hp s hs w3 ((hw2.toExt (s := w) (by exact mau) (fun k hk => by exact NotOwned.au)).trans h3))).mono (fun e w3 h => ⟨h.1, hw2.ext h.2⟩))))
  apply obn; rfl; rfl; rfl; apply Bin.geq
  apply oas; rfl; rfl
  apply OL.nx
  apply W.ret
  ((with_reducible apply At.fin1); rfl; rfl; intro w' hw')
  exact ⟨by rw [← idxG_any pr l 0], by (exact hw'.fr)⟩
theorem vast11_calls (v : Int) (w : World) : Calls Try.prog 76 [.int .i64 v].toArray w fun e w' => e = .returned (.bool (bigV v)) ∧ Ext w w' := by
  refine enter Try.func76 rfl Try.ntmps76 rfl (Cls.start w) ?_
  (simp only [argEnv, Nat.zero_add, Nat.reduceAdd])
  apply W.sr
  apply oas; rfl; rfl
  apply OL.nsr
  apply omv; rfl; rfl
  apply obn; rfl; rfl; rfl; apply Bin.gtr
  apply oas; rfl; rfl
  apply OL.nx
  apply W.ret
  ((with_reducible apply At.fin1); rfl; rfl; intro w' hw')
  exact ⟨rfl, by (exact hw'.fr)⟩
theorem vast12_calls (i : Go.Ss.In) (y : Sc) (w : World) : Calls Try.prog 78 [.agg (inC i y).toArray].toArray w fun e w' => e = .returned (.bool (bigV i.to_)) ∧ Ext w w' := by
  refine enter Try.func78 rfl Try.ntmps78 rfl (Cls.start w) ?_
  (simp only [argEnv, Nat.zero_add, Nat.reduceAdd])
  unfold inC
  apply W.sr
  apply OL.box; rfl; rfl; exact CellsL.agg; (intro bk hbk; simp only [AllLe, and_true] at hbk)
  apply oas; rfl; rfl
  apply OL.nsr
  apply ofa; rfl; rfl; rfl
  apply old; rfl; rfl; exact .head _; rfl; rfl
  apply obn; rfl; rfl; rfl; apply Bin.gtr
  apply oas; rfl; rfl
  apply OL.nx
  apply W.ret
  ((with_reducible apply At.fin1); rfl; rfl; intro w' hw')
  exact ⟨rfl, by (exact hw'.fr)⟩
theorem vast1_calls (p : Bk × BkY) (w : World) (hok : bkR.ok w (low w) p.1 p.2) : Calls Try.prog 74 [.agg (bkR.cells p.1 p.2).toArray].toArray w fun e w' => e = .returned (.bool (vastB p)) ∧ Ext w w' := by
  have hok : BkOk w (low w) p.1 p.2 := hok
  obtain ⟨pi, hpi, hiarr⟩ := hok.i
  have hpil : p.1.ins.length = pi.length := by rw [← hpi, List.length_map]
  have hpl := hok.pl
  have hil := hok.il
  have hv : vastB p = (p.1.params.any bigV || pi.any fun u => bigV u.1.to_) := by
    unfold vastB
    rw [← hpi, List.any_map]
    rfl
  refine enter Try.func74 rfl Try.ntmps74 rfl (Cls.start w) ?_
  (simp only [argEnv, Nat.zero_add, Nat.reduceAdd])
  have hbc : bkR.cells p.1 p.2 = [.slice p.2.p.1 p.1.params.length p.2.p.2, .slice p.2.i.1 p.1.ins.length p.2.i.2, .int .i64 p.1.term.kind, .int .i64 p.1.term.arg, .int .i64 p.1.term.n, .slice p.2.t.c.1 p.1.term.cases.length p.2.t.c.2, .slice p.2.t.t.1 p.1.term.to_.length p.2.t.t.2] := rfl
  rw [hbc, hpil]
  apply W.sr
  apply OL.box; rfl; rfl; exact CellsL.agg; (intro bk hbk; simp only [AllLe, and_true] at hbk)
  apply oas; rfl; rfl
  apply OL.nsr
  apply ofa; rfl; rfl; rfl
  apply old; rfl; rfl; exact .head _; rfl; rfl
  (((first | (with_reducible apply OL.op) | (with_reducible apply QL.op)); (exact Guard.au); rfl; rfl); (exact Pev.call (v := .bool (p.1.params.any bigV)) rfl (by exact Args.au) (fun _ w2 hw2 => (IContainsFunc_calls p.2.p.1 p.2.p.2 p.1.params 76 [] [] bigV w2 (by omega) (hok.p.at hw2 (by exact mau) (fun k hk => by exact NotOwned.au)) rfl (fun s hs w3 h3 => vast11_calls s w3)).mono (fun e w3 h => ⟨h.1, hw2.ext h.2⟩))))
  rw [hv]
  cases p.1.params.any bigV with
  | true =>
    apply omv; rfl; rfl
    apply ono; rfl; rfl; rfl; apply Pev.fld; rfl; exact yes; rfl
    apply ono; rfl; rfl; rfl; apply Pev.load_blk; rfl; exact fun h => h; exact .head _; rfl; rfl
    apply OL.gateOff; exact Guard.no rfl rfl; rfl; rfl
    apply oop; rfl; apply Pev.pick_on; rfl; exact yes; (intro hcond; rfl); rfl; exact yes
    apply oas; rfl; rfl
    apply OL.nx
    apply W.ret
    ((with_reducible apply At.fin1); rfl; rfl; intro w' hw')
    exact ⟨rfl, by (exact hw'.fr)⟩
  | false =>
    apply omv; rfl; rfl
    apply ono; rfl; rfl; rfl; apply Pev.fld; rfl; exact yes; rfl
    apply ono; rfl; rfl; rfl; apply Pev.load_blk; rfl; exact yes; exact .head _; rfl; rfl
    (((first | (with_reducible apply OL.op) | (with_reducible apply QL.op)); (exact Guard.au); rfl; rfl); (exact Pev.call (v := .bool (pi.any fun u => bigV u.1.to_)) rfl (by exact Args.au) (fun _ w2 hw2 => (NContainsFunc_calls p.2.i.1 p.2.i.2 pi 78 [] [] (fun u => bigV u.1.to_) w2 (by omega) (hiarr.at hw2 (by exact mau) (fun k hk => by exact NotOwned.au)) rfl (fun s hs w3 h3 => vast12_calls s.1 s.2 w3)).mono (fun e w3 h => ⟨h.1, hw2.ext h.2⟩))))
    apply oop; rfl; apply Pev.pick_or; rfl; exact yes; rfl; exact yes
    apply oas; rfl; rfl
    apply OL.nx
    apply W.ret
    ((with_reducible apply At.fin1); rfl; rfl; intro w' hw')
    exact ⟨rfl, by (exact hw'.fr)⟩
theorem vast_calls (x : Go.Ss.Fn × FnY) (w : World) (hok : fnR.ok w (low w) x.1 x.2) : Calls Try.prog 29 [.agg (fnR.cells x.1 x.2).toArray].toArray w fun e w' => e = .returned (.bool (vastF x)) ∧ Ext w w' := by
  have hok : FnOk w (low w) x.1 x.2 := hok
  obtain ⟨es, hes, he⟩ := hok.b
  have hel : x.1.blocks.length = es.length := by rw [← hes, List.length_map]
  have hbl := hok.bl
  have hv : vastF x = es.any vastB := by
    unfold vastF
    rw [← hes, List.any_map]
    rfl
  refine enter Try.func29 rfl Try.ntmps29 rfl (Cls.start w) ?_
  (simp only [argEnv, Nat.zero_add, Nat.reduceAdd])
  have hbc : fnR.cells x.1 x.2 = [.int .i64 x.1.name, .slice x.2.q x.1.blocks.length x.2.c] := rfl
  rw [hbc, hel]
  apply W.sr
  apply OL.box; rfl; rfl; exact CellsL.agg; (intro bk hbk; simp only [AllLe, and_true] at hbk)
  apply oas; rfl; rfl
  apply OL.nsr
  apply ofa; rfl; rfl; rfl
  apply old; rfl; rfl; exact .head _; rfl; rfl
  (((first | (with_reducible apply OL.op) | (with_reducible apply QL.op)); (exact Guard.au); rfl; rfl); (exact Pev.call (v := .bool (es.any vastB)) rfl (by exact Args.au) (fun _ w2 hw2 => (KContainsFunc_calls x.2.q x.2.c es 74 [] [] vastB w2 (by omega) (he.at hw2 (by exact mau) (fun k hk => by exact NotOwned.au)) rfl (fun s hs w3 h3 => vast1_calls s w3 ((he.at (hw2.ext h3) (by exact mau) (fun k hk => by exact NotOwned.au)).2 s hs))).mono (fun e w3 h => ⟨h.1, hw2.ext h.2⟩))))
  apply oas; rfl; rfl
  apply OL.nx
  apply W.ret
  ((with_reducible apply At.fin1); rfl; rfl; intro w' hw')
  exact ⟨by rw [hv], by (exact hw'.fr)⟩
theorem small_calls (fns : List (Go.Ss.Fn × FnY)) (q : Option Addr) (c : Nat) (main : Int) (w : World) (hu : Arr fnR w (low w) fns q) (hl6 : fns.length ≤ 140737488355328) :
    Calls Try.prog 23 [.agg #[.slice q fns.length c, .int .i64 main]].toArray w fun e w' => ∃ b : Bool, e = .returned (.bool b) ∧ (b = true → fns.length ≤ 8 ∧ ∀ p ∈ fns, p.1.blocks.length ≤ 40 ∧ freshF p.1.blocks ≤ 300) ∧ Ext w w' := by
  refine enter Try.func23 rfl Try.ntmps23 rfl (Cls.start w) ?_
  (simp only [argEnv, Nat.zero_add, Nat.reduceAdd])
  apply W.sr
  apply OL.box; rfl; rfl; exact CellsL.agg; (intro bk hbk; simp only [AllLe, and_true] at hbk)
  apply oas; rfl; rfl
  apply OL.nx
  apply W.seq
  apply W.sr
  apply ofa; rfl; rfl; rfl
  apply old; rfl; rfl; exact .head _; rfl; rfl
  apply oop; rfl; apply Pev.len_slice; rfl; exact yes; rfl
  apply omv; rfl; rfl
  apply OL.nx
  apply W.block
  revert hbk
  revert bk
  intro bU hbU
  have hbU' : w.heap.size ≤ bU := hbU
  refine W.loop (G := Nat) (fun k => k ≤ fns.length ∧ ∀ (j : Nat) p, j < k → fns[j]? = some p → p.1.blocks.length ≤ 40 ∧ freshF p.1.blocks ≤ 300) (fun k => fns.length - k)
    (fun k => [(1, true, .pointer (some ⟨bU, 0, none⟩)), (6, true, .slice q fns.length c), (7, true, .int .i64 (fns.length : Int)), (8, true, .int .i64 (k : Int))])
    (fun _ => Cls [blk bU 55 [.slice q fns.length c, .int .i64 main]] [w]) 0 ⟨by omega, fun j p h => by omega⟩ (by exact Sub.au) (fun w' hw' => hw') ?_
  rintro k ⟨hk, hkE⟩
  apply W.sr
  apply obn; rfl; rfl; rfl; apply Bin.lss
  apply OL.nx
  apply W.seq
  (refine W.cnd (fun hlt => ?_) (fun hlt => ?_)) <;> (try (exfalso; first | omega | exact hlt trivial | contradiction))
  · have hkl : k < fns.length := by omega
    obtain ⟨a, x, hqa, hab, hx, hcF, hok⟩ := hu.get hkl
    have hab : a.block < w.heap.size := hab
    have hcF : CellsAt w (a.add (k * 2)) [.int .i64 x.1.name, .slice x.2.q x.1.blocks.length x.2.c] := hcF
    have hok : FnOk w (low w) x.1 x.2 := hok
    obtain ⟨es, hes, he⟩ := hok.b
    have hel : x.1.blocks.length = es.length := by rw [← hes, List.length_map]
    have hbl := hok.bl
    rw [hel] at hcF
    rw [hqa]
    apply W.sk
    apply W.sb
    apply W.sr
    apply oop; rfl; apply Pev.idx; rfl; exact yes; rfl; exact yes; rfl; rfl; intro hcond; omega
    apply oop; rfl; apply Pev.load_keptA; rfl; exact yes; exact .head _; rfl; intro hcond; assumption; rfl; intro hcond; (rw [add_block]; assumption); intro hcond; exact NotOwned.au
    apply OL.alloc; rfl; rfl; exact CellsL.agg; (intro bk hbk; simp only [AllLe, and_true] at hbk)
    apply OL.storeB; rfl; rfl; exact CellsL.agg; rfl; rfl; rfl; exact Swap.au; exact Put.au
    apply OL.nsr
    apply ofa; rfl; rfl; rfl
    apply old; rfl; rfl; exact .head _; rfl; rfl
    apply oop; rfl; apply Pev.len_slice; rfl; exact yes; rfl
    apply obn; rfl; rfl; rfl; apply Bin.gtr
    apply omv; rfl; rfl
    apply ono; rfl; rfl; rfl; apply Pev.load_blkA; rfl; exact yes; exact .head _; rfl; exact Take.au
    (((first | (with_reducible apply OL.op) | (with_reducible apply QL.op)); (exact Guard.au); rfl; rfl); (exact Pev.call (v := .int .i64 (freshF x.1.blocks)) rfl (by exact Args.au) (fun _ w2 hw2 => (Fresh_calls es x.2.q x.2.c x.1.name w2 (he.at hw2 (by exact mau) (fun k hk => by exact NotOwned.au)) (by omega)).mono (fun e w3 h => ⟨by rw [h.1, hes], hw2.ext h.2⟩))))
    apply ono; rfl; rfl; rfl; apply Pev.bin; rfl; exact fun h => h; rfl; exact yes; intro hcond; apply Bin.gtr
    apply oop; rfl; apply Pev.pick_or; rfl; exact yes; rfl; exact fun h => h
    apply OL.nx
    refine W.cond rfl (fun h => ?_) (fun h => ?_)
    · apply W.sr
      apply oas; rfl; rfl
      apply OL.nx
      refine W.rt ?_
      ((with_reducible apply At.fin1); rfl; rfl; intro w' hw')
      exact ⟨false, rfl, (fun h => absurd h (by decide)), by (exact hw'.fr)⟩
    · have hs : x.1.blocks.length ≤ 40 ∧ freshF x.1.blocks ≤ 300 := by
        simp at h
        omega
      apply W.skip
      with_reducible apply At.in_normal
      with_reducible apply At.next
      apply W.reg
      apply obn; rfl; rfl; rfl; apply Bin.add_in; omega
      apply omv; rfl; rfl
      apply OL.nil
      exact At.again (k + 1) ⟨by omega, fun j p hj hp => by
        by_cases e : j = k
        · subst e
          rw [hx] at hp
          obtain rfl := Option.some.inj hp
          exact hs
        · exact hkE j p (by omega) hp⟩ (by omega) (by exact Sub.au) (fun w' hw' => hw'.thin (by exact Thin.au))
  obtain rfl : k = fns.length := by omega
  refine W.xt ?_
  with_reducible apply At.next
  apply W.sr
  apply ofa; rfl; rfl; rfl
  apply old; rfl; rfl; exact .head _; rfl; rfl
  apply oop; rfl; apply Pev.len_slice; rfl; exact yes; rfl
  apply obn; rfl; rfl; rfl; apply Bin.leq
  apply oas; rfl; rfl
  apply OL.nx
  apply W.ret
  ((with_reducible apply At.fin1); rfl; rfl; intro w' hw')
  refine ⟨_, rfl, fun h => ⟨by have := of_decide_eq_true h; omega, fun p hp => ?_⟩, by (exact hw'.fr)⟩
  obtain ⟨j, hj, hjp⟩ := List.mem_iff_getElem.1 hp
  exact hkE j p hj (by rw [← hjp]; exact List.getElem?_eq_getElem hj)
end Go.Proofs.Ytehelljmaiophaa.ss

/- The walk of the law SsaChecks. Conditions: none. -/
namespace Go.Ss
open Go.Eng Go.RowKit
theorem wmax_ge {a v : Int} (h : 0 ≤ a) : 0 ≤ wmax a v := by
  unfold wmax
  split <;> omega
theorem foldl_wmax : ∀ {l : List Int} {a : Int}, 0 ≤ a → 0 ≤ l.foldl wmax a
  | [], _, h => h
  | v :: l, a, h => foldl_wmax (l := l) (wmax_ge (v := v) h)
theorem foldl_fresh : ∀ {l : List Bk} {a : Int}, 0 ≤ a → 0 ≤ l.foldl freshB a
  | [], _, h => h
  | b :: l, a, h => foldl_fresh (l := l) (foldl_wmax (foldl_wmax h))
theorem fresh_ge (bs : List Bk) : 0 ≤ freshF bs := foldl_fresh (Int.le_refl 0)
end Go.Ss
namespace Go.Proofs.Ytehelljmaiophaa.ss
set_option maxRecDepth 100000
open Go.Eng Go.RowKit Go.Ss
theorem ssaChecks_law (fns : List (Go.Ss.Fn × FnY)) (q : Option Addr) (c : Nat) (main op : Int) (w : World) (hu : Arr fnR w (low w) fns q) (hl6 : fns.length ≤ 140737488355328) (hm : I64 main) :
    Calls Try.prog 6 [.agg #[.slice q fns.length c, .int .i64 main], .int .i64 op].toArray w fun e w' => e = .returned (.bool true) ∧ Ext w w' := by
  refine enter Try.func6 rfl Try.ntmps6 rfl (Cls.start w) ?_
  (simp only [argEnv, Nat.zero_add, Nat.reduceAdd])
  apply W.sr
  apply OL.box; rfl; rfl; exact CellsL.agg; (intro bk hbk; simp only [AllLe, and_true] at hbk)
  apply oas; rfl; rfl
  apply OL.nx
  apply W.seq
  apply W.sr
  revert hbk
  revert bk
  intro bU hbU
  have hbU' : w.heap.size ≤ bU := hbU
  (((first | (with_reducible apply OL.op) | (with_reducible apply QL.op)); (exact Guard.au); rfl; rfl); (exact Pev.call (v := .bool true) rfl (by exact Args.au) (fun _ w2 hw2 => (ssaWorks_calls w2).mono (fun e w3 h => ⟨h.1, hw2.ext h.2⟩))))
  apply oop; rfl; apply Pev.not; rfl; exact yes
  apply OL.nx
  refine W.cond rfl (fun h => absurd h (by decide)) (fun _ => ?_)
  apply W.sk
  apply W.seq
  apply W.sr
  apply oop; rfl; apply Pev.load_blkA; rfl; exact yes; exact .head _; rfl; exact Take.au
  refine OL.callE (α := Bool) (fun b => .bool b) (fun b => b = true → fns.length ≤ 8) (fun _ => Cls [blk bU 55 [.slice q fns.length c, .int .i64 main]] [w]) rfl rfl (by exact Args.au) (fun w2 hw2 => (small_calls fns q c main w2 (hu.at hw2 (by exact mau) (fun k hk => by exact NotOwned.au)) hl6).mono fun e w3 ⟨b, h1, h2, h3⟩ => ⟨b, h1, fun h => (h2 h).1, hw2.ext h3⟩) ?_
  intro b hb8
  cases b with
  | false =>
    apply oop; rfl; apply Pev.not; rfl; exact yes
    apply omv; rfl; rfl
    apply ono; rfl; rfl; rfl; apply Pev.fld; rfl; exact yes; rfl
    apply ono; rfl; rfl; rfl; apply Pev.load_blk; rfl; exact fun h => h; exact .head _; rfl; rfl
    apply OL.gateOff; exact Guard.no rfl rfl; rfl; rfl
    apply oop; rfl; apply Pev.pick_on; rfl; exact yes; (intro hcond; rfl); rfl; exact yes
    apply OL.nx
    refine W.cond rfl (fun _ => ?_) (fun h => absurd h (by decide))
    apply W.sr
    apply oas; rfl; rfl
    apply OL.nx
    refine W.rt ?_
    ((with_reducible apply At.fin1); rfl; rfl; intro w' hw')
    exact ⟨rfl, by (exact hw'.fr)⟩
  | true =>
    have h8 := hb8 rfl
    apply oop; rfl; apply Pev.not; rfl; exact yes
    apply omv; rfl; rfl
    apply ono; rfl; rfl; rfl; apply Pev.fld; rfl; exact yes; rfl
    apply ono; rfl; rfl; rfl; apply Pev.load_blk; rfl; exact yes; exact .head _; rfl; rfl
    (((first | (with_reducible apply OL.op) | (with_reducible apply QL.op)); (exact Guard.au); rfl; rfl); (exact Pev.call (v := .bool (fns.any vastF)) rfl (by exact Args.au) (fun _ w2 hw2 => (VContainsFunc_calls q c fns 29 [] [] vastF w2 (by omega) (hu.at hw2 (by exact mau) (fun k hk => by exact NotOwned.au)) rfl (fun s hs w3 h3 => vast_calls s w3 ((hu.at (hw2.ext h3) (by exact mau) (fun k hk => by exact NotOwned.au)).2 s hs))).mono (fun e w3 h => ⟨h.1, hw2.ext h.2⟩))))
    cases fns.any vastF with
    | true =>
      apply oop; rfl; apply Pev.pick_or; rfl; exact yes; rfl; exact yes
      apply OL.nx
      refine W.cond rfl (fun _ => ?_) (fun h => absurd h (by decide))
      apply W.sr
      apply oas; rfl; rfl
      apply OL.nx
      refine W.rt ?_
      ((with_reducible apply At.fin1); rfl; rfl; intro w' hw')
      exact ⟨rfl, by (exact hw'.fr)⟩
    | false =>
      apply oop; rfl; apply Pev.pick_or; rfl; exact yes; rfl; exact yes
      apply OL.nx
      refine W.cond rfl (fun h => absurd h (by decide)) (fun _ => ?_)
      apply W.sk
      apply W.seq
      apply W.sr
      apply ofa; rfl; rfl; rfl
      apply old; rfl; rfl; exact .head _; rfl; rfl
      apply oop; rfl; apply Pev.len_slice; rfl; exact yes; rfl
      apply omv; rfl; rfl
      apply OL.nx
      apply W.block
      refine W.loop (G := Nat) (fun k => k ≤ fns.length) (fun k => fns.length - k)
        (fun k => [(1, true, .int .i64 op), (2, true, .pointer (some ⟨bU, 0, none⟩)), (19, true, .slice q fns.length c), (20, true, .int .i64 (fns.length : Int)), (21, true, .int .i64 (k : Int))])
        (fun _ => Cls [blk bU 55 [.slice q fns.length c, .int .i64 main]] [w]) 0 (by omega) (by exact Sub.au) (fun w' hw' => hw') ?_
      rintro k hk
      apply W.sr
      apply obn; rfl; rfl; rfl; apply Bin.lss
      apply OL.nx
      apply W.seq
      (refine W.cnd (fun hlt => ?_) (fun hlt => ?_)) <;> (try (exfalso; first | omega | exact hlt trivial | contradiction))
      · have hkl : k < fns.length := by omega
        obtain ⟨a, x, hqa, hab, hx, hcF, hok⟩ := hu.get hkl
        have hab : a.block < w.heap.size := hab
        have hcF : CellsAt w (a.add (k * 2)) [.int .i64 x.1.name, .slice x.2.q x.1.blocks.length x.2.c] := hcF
        have hok : FnOk w (low w) x.1 x.2 := hok
        obtain ⟨es, hes, he⟩ := hok.b
        have hel : x.1.blocks.length = es.length := by rw [← hes, List.length_map]
        have hbl := hok.bl
        rw [hqa]
        apply W.sk
        apply W.sb
        apply W.sr
        apply oop; rfl; apply Pev.idx; rfl; exact yes; rfl; exact yes; rfl; rfl; intro hcond; omega
        apply oop; rfl; apply Pev.load_keptA; rfl; exact yes; exact .head _; rfl; intro hcond; assumption; rfl; intro hcond; (rw [add_block]; assumption); intro hcond; exact NotOwned.au
        apply OL.alloc; rfl; rfl; exact CellsL.agg; (intro bk hbk; simp only [AllLe, and_true] at hbk)
        apply OL.storeB; rfl; rfl; exact CellsL.agg; rfl; rfl; rfl; exact Swap.au; exact Put.au
        apply OL.nx
        apply W.seq
        apply W.regd0; decide +kernel; kernel_rfl; decide +kernel; exact fun w hw => hw.drew
        apply qop; rfl; apply Pev.load_blkA; rfl; exact yes; exact .head _; rfl; exact Take.au
        revert hbk
        revert bk
        intro b6 hb6
        have hb6' : w.heap.size ≤ b6 := hb6
        have hF : ∀ (H : List Eng.Item) (S : List World) (w2 : World), Cls H S w2 → w ∈ S → (∀ k, k < w.heap.size → NotOwned H k) → FnOk w2 (low w2) x.1 x.2 := fun H S w2 hw2 hs hno => fnR.mono (hw2.up hs) (fnR.stab (hw2.same hs hno) hok)
        have hFr : ∀ (H : List Eng.Item) (S : List World) (w7 : World), Cls H S w7 → w ∈ S → (∀ k, k < w.heap.size → NotOwned H k) → Calls Try.prog 31 [.agg #[.int .i64 x.1.name, .slice x.2.q x.1.blocks.length x.2.c]].toArray w7 fun e w' => e = .returned (.int .i64 (freshF x.1.blocks)) ∧ Ext w7 w' := fun H S w7 h7 hs hno => by
          have h := SFresh_calls es x.2.q x.2.c x.1.name w7 (he.at h7 hs hno) (by omega)
          rw [← hel, hes] at h
          exact h
        have hFr2 : ∀ (H : List Eng.Item) (S : List World) (w7 : World), Cls H S w7 → w ∈ S → (∀ k, k < w.heap.size → NotOwned H k) → Calls Try.prog 13 [.agg #[.int .i64 x.1.name, .slice x.2.q x.1.blocks.length x.2.c]].toArray w7 fun e w' => e = .returned (.int .i64 (freshF x.1.blocks)) ∧ Ext w7 w' := fun H S w7 h7 hs hno => by
          have h := Fresh_calls es x.2.q x.2.c x.1.name w7 (he.at h7 hs hno) (by omega)
          rw [← hel, hes] at h
          exact h
        (((first | (with_reducible apply OL.op) | (with_reducible apply QL.op)); (exact Guard.au); rfl; rfl); (exact Pev.call (v := .int .i64 (funcE x.1)) rfl (by exact Args.au) (fun _ w2 hw2 => (CheckFunc_calls x.1 x.2 w2 (hF _ _ w2 hw2 (by exact mau) (fun k hk => by exact NotOwned.au))).mono (fun e w3 h => ⟨h.1, hw2.ext h.2⟩))))
        apply qop; rfl; apply Pev.load_blkA; rfl; exact yes; exact .head _; rfl; exact Take.au
        (((first | (with_reducible apply OL.op) | (with_reducible apply QL.op)); (exact Guard.au); rfl; rfl); (exact Pev.call (v := .int .i64 (funcE x.1)) rfl (by exact Args.au) (fun _ w2 hw2 => (FuncErr_calls x.1 x.2 w2 (hF _ _ w2 hw2 (by exact mau) (fun k hk => by exact NotOwned.au))).mono (fun e w3 h => ⟨h.1, hw2.ext h.2⟩))))
        apply qbn; rfl; rfl; rfl; apply Bin.neq
        apply qmv; rfl; rfl
        apply qno; rfl; rfl; rfl; apply Pev.load_blkA; rfl; exact yes; exact .head _; rfl; exact Take.au
        (((first | (with_reducible apply OL.op) | (with_reducible apply QL.op)); (exact Guard.au); rfl; rfl); (exact Pev.call (v := .int .i64 (freshF x.1.blocks)) rfl (by exact Args.au) (fun _ w2 hw2 => (hFr _ _ w2 hw2 (by exact mau) (fun k hk => by exact NotOwned.au)).mono (fun e w3 h => ⟨h.1, hw2.ext h.2⟩))))
        apply qno; rfl; rfl; rfl; apply Pev.load_blkA; rfl; exact yes; exact .head _; rfl; exact Take.au
        (((first | (with_reducible apply OL.op) | (with_reducible apply QL.op)); (exact Guard.au); rfl; rfl); (exact Pev.call (v := .int .i64 (freshF x.1.blocks)) rfl (by exact Args.au) (fun _ w2 hw2 => (hFr2 _ _ w2 hw2 (by exact mau) (fun k hk => by exact NotOwned.au)).mono (fun e w3 h => ⟨h.1, hw2.ext h.2⟩))))
        apply qno; rfl; rfl; rfl; apply Pev.max2; rfl; exact fun h => h; rfl; exact yes
        apply qno; rfl; rfl; rfl; apply Pev.bin; rfl; exact fun h => h; rfl; exact fun h => h; intro hcond; apply Bin.neq
        apply qop; rfl; apply Pev.pick_or; rfl; exact yes; rfl; exact fun h => h
        apply QL.nil
        with_reducible apply At.next
        have hfg := fresh_ge x.1.blocks
        refine W.cond rfl (fun h => ?_) (fun _ => ?_)
        · rw [if_neg (by omega)] at h
          simp at h
        apply W.skip
        with_reducible apply At.in_normal
        with_reducible apply At.next
        apply W.reg
        apply obn; rfl; rfl; rfl; apply Bin.add_in; omega
        apply omv; rfl; rfl
        apply OL.nil
        exact At.again (k + 1) (by omega) (by omega) (by exact Sub.au) (fun w' hw' => hw'.thin (by exact Thin.au))
      obtain rfl : k = fns.length := by omega
      refine W.xt ?_
      with_reducible apply At.next
      apply W.sr
      apply OL.buildSlice; rfl; rfl; rfl; exact Elems.au; rfl; rfl; (intro bk hbk; simp only [AllLe, and_true] at hbk)
      apply omv; rfl; rfl
      revert hbk
      revert bk
      intro b39 hb39
      have hb39' : w.heap.size ≤ b39 := hb39
      (((first | (with_reducible apply OL.op) | (with_reducible apply QL.op)); (exact Guard.au); rfl; rfl); (exact Pev.call (v := .bool (decide (op ∈ pureL))) rfl (by exact Args.au) (fun _ w2 hw2 => (HasInt_calls (some ⟨b39, 0, none⟩) 15 pureL op w2 (by simp [pureL]) (blkInts (hw2.item (.head _)))).mono (fun e w3 h => ⟨h.1, hw2.ext h.2⟩))))
      apply oas; rfl; rfl
      apply OL.nx
      apply W.seq
      apply W.regd0; decide +kernel; kernel_rfl; decide +kernel; exact fun w hw => hw.drew
      apply qop; rfl; apply Pev.load_blkA; rfl; exact yes; exact .tail _ (.head _); rfl; exact Take.au
      (((first | (with_reducible apply OL.op) | (with_reducible apply QL.op)); (exact Guard.au); rfl; rfl); (exact Pev.call (v := .int .i64 (unitE (fns.map Prod.fst) main)) rfl (by exact Args.au) (fun _ w2 hw2 => (Check_calls fns q c main w2 (hu.at hw2 (by exact mau) (fun k hk => by exact NotOwned.au)) hl6 hm).mono (fun e w3 h => ⟨h.1, hw2.ext h.2⟩))))
      apply qop; rfl; apply Pev.load_blkA; rfl; exact yes; exact .tail _ (.head _); rfl; exact Take.au
      (((first | (with_reducible apply OL.op) | (with_reducible apply QL.op)); (exact Guard.au); rfl; rfl); (exact Pev.call (v := .int .i64 (unitE (fns.map Prod.fst) main)) rfl (by exact Args.au) (fun _ w2 hw2 => (UnitErr_calls fns q c main w2 (hu.at hw2 (by exact mau) (fun k hk => by exact NotOwned.au)) hl6 hm).mono (fun e w3 h => ⟨h.1, hw2.ext h.2⟩))))
      apply qbn; rfl; rfl; rfl; apply Bin.eql
      apply qmv; rfl; rfl
      apply qy; rfl; rfl; rfl; apply Pev.move; rfl; exact yes
      (((first | (with_reducible apply OL.op) | (with_reducible apply QL.op)); (exact Guard.au); rfl; rfl); (exact Pev.call (v := .bool (decide (op ∈ pureL))) rfl (by exact Args.au) (fun _ w2 hw2 => (Pure_calls op w2).mono (fun e w3 h => ⟨h.1, hw2.ext h.2⟩))))
      apply qy; rfl; rfl; rfl; apply Pev.move; rfl; exact yes
      apply qy; rfl; rfl; rfl; apply Pev.bin; rfl; exact fun h => h; rfl; exact fun h => h; intro hcond; apply Bin.bool_eql; rfl
      apply qop; rfl; apply Pev.pick_and; rfl; exact yes; rfl; exact fun h => h
      apply qas; rfl; rfl
      apply QL.nil
      with_reducible apply At.next
      apply W.ret
      ((with_reducible apply At.fin1); rfl; rfl; intro w' hw')
      exact ⟨by simp, by (exact hw'.fr)⟩
end Go.Proofs.Ytehelljmaiophaa.ss

/- Readings with the reach: what a slice's and a struct's parts are, and how much they weigh at most. General. No condition. -/
namespace Go.Eng
open Go.RowKit Go.ChangeShapes Go.WideShapes Go.ChangeAt
section
variable {H : Type} {enc : TypeId × Value → H} {P : Program} {w : World} {spare : Nat → Bool} {held : Bool}
def Lt (P : Program) (t : TypeId) (d : DataW H) : Prop := ∀ n ∈ d.weights P t, n ≤ reachBytes
theorem weightsAll_mem {e : TypeId} : ∀ {ds : List (DataW H)} {d : DataW H}, d ∈ ds → ∀ n ∈ d.weights P e, n ∈ DataW.weightsAll P e ds
  | x :: ds, d, hd, n, hn => by
    simp only [DataW.weightsAll, List.mem_append]
    rcases List.mem_cons.1 hd with rfl | hd
    · exact .inl hn
    · exact .inr (weightsAll_mem hd n hn)
theorem Lt.arg {ts : List TypeId} {ds : List (DataW H)} (h : (DataW.weightsEach P ts ds).all (· ≤ reachBytes) = true) {j : Nat} {t : TypeId} {d : DataW H} (ht : ts[j]? = some t) (hd : ds[j]? = some d) : Lt P t d := fun n hn => by
  have := List.all_eq_true.1 h _ (DataW.weights_mem_each ht hd n hn)
  simpa using this
theorem rd_struct {t : TypeId} {fs : Array Field} {fuel : Nat} {cs : List Value} {x : DataW H × List MemPlace} (ht : P.underlying t = some (.struct fs)) (h : DataW.trod enc P w 0 spare held fuel t cs = some x) (hw : Lt P t x.1) :
    cs.length = P.cellsOf t ∧ ∃ n, n < fuel ∧ ∀ (i : Nat) (f : Field), fs[i]? = some f → ∃ y, DataW.trod enc P w 0 spare held n f.type ((cs.drop f.offset).take (P.cellsOf f.type)) = some y ∧ Lt P f.type y.1 := by
  obtain ⟨xs, n, hfu, rfl, hlen, hxl, hf⟩ := DataW.trod_struct ht h
  refine ⟨hlen, n, by omega, fun i f hi => ?_⟩
  have hlt : i < xs.length := by rw [hxl]; exact (Array.getElem?_eq_some_iff.1 hi).1
  refine ⟨xs[i], by rw [hf i f hi, List.getElem?_eq_getElem hlt], fun k hk => hw k ?_⟩
  simp only [DataW.weights, ht]
  exact DataW.weights_mem_each (j := i) (t := f.type) (d := xs[i].1) (by simpa using ⟨f, by simpa using hi, rfl⟩) (by simp [hlt]) k hk
theorem rd_slice0 {t e : TypeId} {sz fuel : Nat} {cs : List Value} {x : DataW H × List MemPlace} (ht : P.underlying t = some (.slice e)) (hs : P.cellsOf e = sz) (h : DataW.trod enc P w 0 spare held fuel t cs = some x) (hw : Lt P t x.1) :
    ∃ (q : Option Addr) (len cap : Nat), cs = [.slice q len cap] ∧ len ≤ cap ∧ cap ≤ maxLen ∧ len * P.bytesOf e ≤ reachBytes ∧ (q = none → len = 0) ∧
      ∃ n, n < fuel ∧ ∀ a, q = some a → ∀ i, i < len → ∃ cs' y, CellsAt w (a.add (i * sz)) cs' ∧ cs'.length = sz ∧ DataW.trod enc P w 0 spare held n e cs' = some y ∧ Lt P e y.1 := by
  rcases DataW.trod_slice ht h with ⟨rfl, _⟩ | ⟨a, len, cap, elems, rest, n, hf, rfl, rfl, _, hl, hm, hlen, hel, _, _⟩
  · refine ⟨none, 0, 0, rfl, Nat.le_refl _, by simp [maxLen], by simp, fun _ => rfl, 0, ?_, fun a ha => by cases ha⟩
    cases fuel with
    | zero => simp [DataW.trod] at h
    | succ n => omega
  · have hwt : len * P.bytesOf e ≤ reachBytes := by
      have h1 := hw ((elems.map (·.1)).length * P.bytesOf e + (rest.map (·.1)).length * P.bytesOf e) (by simp [DataW.weights, ht, Nat.add_mul])
      rw [List.length_map, hlen] at h1
      omega
    refine ⟨some a, len, cap, rfl, hl, hm, hwt, (fun hn => by cases hn), n, by omega, fun a' ha i hi => ?_⟩
    obtain rfl := Option.some.inj ha
    have h1 := hel i hi
    rw [List.getElem?_eq_getElem (by omega)] at h1
    rw [hs] at h1
    obtain ⟨cs', hc, ht'⟩ := Option.bind_eq_some_iff.1 h1
    obtain ⟨h2, h3⟩ := cellsAt_of hc
    refine ⟨cs', _, h2, h3, ht', fun k hk => hw k ?_⟩
    simp only [DataW.weights, ht]
    exact List.mem_cons_of_mem _ (List.mem_append_left _ (weightsAll_mem (d := elems[i].1) (List.mem_map.2 ⟨_, List.getElem_mem (by omega), rfl⟩) k hk))
variable {α : Type} {f : α → List Value} {sz : Nat} {R : α → Prop}
theorem rd_slice {t e : TypeId} {fuel : Nat} {cs : List Value} {x : DataW H × List MemPlace} (ht : P.underlying t = some (.slice e)) (hs : P.cellsOf e = sz) (hsz : 0 < sz) (hf : ∀ x, (f x).length = sz)
    (he : ∀ (n : Nat) (cs' : List Value) (y : DataW H × List MemPlace), n < fuel → DataW.trod enc P w 0 spare held n e cs' = some y → Lt P e y.1 → ∃ u : α, cs' = f u ∧ R u)
    (h : DataW.trod enc P w 0 spare held fuel t cs = some x) (hw : Lt P t x.1) :
    ∃ (q : Option Addr) (l : List α) (cap : Nat), cs = [.slice q l.length cap] ∧ l.length ≤ cap ∧ cap ≤ maxLen ∧ l.length * P.bytesOf e ≤ reachBytes ∧ SlAt w w.heap.size q (cat f l) ∧ ∀ u ∈ l, R u := by
  obtain ⟨q, len, cap, rfl, hle, hcap, hwt, hq0, m, hm, hel⟩ := rd_slice0 ht hs h hw
  cases q with
  | none =>
    obtain rfl := hq0 rfl
    exact ⟨none, [], cap, rfl, hle, hcap, by simp, SlAt.nil, fun u hu => by cases hu⟩
  | some a =>
    obtain ⟨l, hl, hr⟩ := list_of (fun i (u : α) => CellsAt w (a.add (i * sz)) (f u) ∧ R u) len (fun i hi => by
      obtain ⟨cs', y, hc, hl1, ht', hy⟩ := hel a rfl i hi
      obtain ⟨u, rfl, hR⟩ := he m cs' y hm ht' hy
      exact ⟨u, hc, hR⟩)
    subst hl
    refine ⟨some a, l, cap, rfl, hle, hcap, hwt, fun hv => ⟨a, rfl, ?_, fun j v hj => ?_⟩, fun u hu => ?_⟩
    · rw [cat_length hf] at hv
      have hl0 : 0 < l.length := Nat.pos_of_mul_pos_right hv
      have h0 := (hr 0 _ (List.getElem?_eq_getElem hl0)).1
      rw [Nat.zero_mul, add_zero_] at h0
      have hz : 0 < (f l[0]).length := by rw [hf]; exact hsz
      have := h0 0 _ (List.getElem?_eq_getElem hz)
      rw [add_zero_] at this
      exact cell_lt this
    · have hjl := (List.getElem?_eq_some_iff.1 hj).1
      rw [cat_length hf] at hjl
      have hi : j / sz < l.length := Nat.div_lt_of_lt_mul (by rwa [Nat.mul_comm] at hjl)
      have h0 := (hr (j / sz) _ (List.getElem?_eq_getElem hi)).1
      have hm' : j % sz < (f l[j / sz]).length := by rw [hf]; exact Nat.mod_lt _ hsz
      have h1 := cat_get hf (List.getElem?_eq_getElem hi) (j % sz) _ (List.getElem?_eq_getElem hm')
      have ej : j / sz * sz + j % sz = j := by rw [Nat.mul_comm]; exact Nat.div_add_mod j sz
      rw [ej, hj] at h1
      have h2 := h0 (j % sz) _ (List.getElem?_eq_getElem hm')
      rw [add_add, ej] at h2
      rw [h2, h1]
    · obtain ⟨i, hi, rfl⟩ := List.getElem_of_mem hu
      exact (hr i _ (List.getElem?_eq_getElem hi)).2
end
end Go.Eng

/- Readings with the reach, as relations. General. No condition. Readings of functions in single assignment form. No condition. (Printed by ssw.py.) -/
namespace Go.Eng
open Go.RowKit Go.ChangeShapes Go.WideShapes Go.ChangeAt
section
variable {H : Type} {enc : TypeId × Value → H} {P : Program} {w : World} {spare : Nat → Bool} {held : Bool} {α μ : Type} {R : Rel α μ}
theorem rd_arrL {t e : TypeId} {fuel : Nat} {cs : List Value} {x : DataW H × List MemPlace} (ht : P.underlying t = some (.slice e)) (hs : P.cellsOf e = R.sz)
    (he : ∀ (n : Nat) (cs' : List Value) (y : DataW H × List MemPlace), n < fuel → DataW.trod enc P w 0 spare held n e cs' = some y → Lt P e y.1 → ∃ u : α × μ, cs' = R.c u ∧ R.ok w (low w) u.1 u.2)
    (h : DataW.trod enc P w 0 spare held fuel t cs = some x) (hw : Lt P t x.1) :
    ∃ (q : Option Addr) (l : List (α × μ)) (cap : Nat), cs = [.slice q l.length cap] ∧ l.length ≤ cap ∧ cap ≤ maxLen ∧ l.length * P.bytesOf e ≤ reachBytes ∧ Arr R w (low w) l q := by
  obtain ⟨q, l, cap, e1, h1, h2, h3, h4, h5⟩ := rd_slice (α := α × μ) (f := R.c) (R := fun u => R.ok w (low w) u.1 u.2) ht hs R.pos R.clen he h hw
  exact ⟨q, l, cap, e1, h1, h2, h3, fun hl => h4 (by rw [cat_length (f := R.c) R.clen]; exact Nat.mul_pos hl R.pos), h5⟩
end
end Go.Eng
namespace Go.Proofs.Ytehelljmaiophaa.ss
open Go.RowKit Go.Eng Go.Ss Go.ChangeShapes Go.WideShapes Go.ChangeAt
set_option maxRecDepth 100000
section
variable {H : Type} {enc : TypeId × Value → H} {w : World} {spare : Nat → Bool} {held : Bool}
theorem list2 {α : Type} {l : List α} (h : l.length = 2) : ∃ a0 a1, l = [a0, a1] := by
  match l, h with
  | [a0, a1], _ => exact ⟨a0, a1, rfl⟩
theorem list4 {α : Type} {l : List α} (h : l.length = 4) : ∃ a0 a1 a2 a3, l = [a0, a1, a2, a3] := by
  match l, h with
  | [a0, a1, a2, a3], _ => exact ⟨a0, a1, a2, a3, rfl⟩
theorem list5 {α : Type} {l : List α} (h : l.length = 5) : ∃ a0 a1 a2 a3 a4, l = [a0, a1, a2, a3, a4] := by
  match l, h with
  | [a0, a1, a2, a3, a4], _ => exact ⟨a0, a1, a2, a3, a4, rfl⟩
theorem list7 {α : Type} {l : List α} (h : l.length = 7) : ∃ a0 a1 a2 a3 a4 a5 a6, l = [a0, a1, a2, a3, a4, a5, a6] := by
  match l, h with
  | [a0, a1, a2, a3, a4, a5, a6], _ => exact ⟨a0, a1, a2, a3, a4, a5, a6, rfl⟩
theorem reach47 : reachBytes ≤ 140737488355328 := by decide
theorem cat_ints (l : List Int) : cat (fun x : Int => [Value.int .i64 x]) l = ints l := by
  induction l with
  | nil => rfl
  | cons x r ih =>
    show [Value.int .i64 x] ++ cat (fun x : Int => [Value.int .i64 x]) r = _
    rw [ih]
    rfl
theorem ints_rd {fuel : Nat} {cs : List Value} {x : DataW H × List MemPlace} (h : DataW.trod enc Try.prog w 0 spare held fuel 35 cs = some x) (hw : Lt Try.prog 35 x.1) :
    ∃ (q : Option Addr) (l : List Int) (cap : Nat), cs = [.slice q l.length cap] ∧ l.length ≤ cap ∧ l.length ≤ 140737488355328 ∧ IntsO w (low w) l q ∧ ∀ n ∈ l, I64 n := by
  obtain ⟨q, l, cap, e1, h1, h2, h3, h4, h5⟩ := rd_slice (α := Int) (f := fun x => [Value.int .i64 x]) (R := fun n => I64 n) Try.underlying35 (by kernel_rfl) (by decide) (fun _ => rfl) (fun n cs' y _ hy _ => by
    obtain ⟨k, e1, hk⟩ := DataW.trod_int Try.underlying3 hy
    exact ⟨k, e1, wf_i64 hk.2⟩) h hw
  rw [cat_ints] at h4
  have hb : Try.prog.bytesOf 3 = 8 := by kernel_rfl
  rw [hb] at h3
  have := reach47
  exact ⟨q, l, cap, e1, h1, by omega, fun hl => h4 (by rw [ints_length]; exact hl), h5⟩
theorem ed_rd {fuel : Nat} {cs : List Value} {x : DataW H × List MemPlace} (h : DataW.trod enc Try.prog w 0 spare held fuel 105 cs = some x) (hw : Lt Try.prog 105 x.1) : ∃ u : Ed × Sc, cs = edC u.1 u.2 ∧ edR.ok w (low w) u.1 u.2 := by
  obtain ⟨hlen, n, hn, hf⟩ := rd_struct Try.underlying105 h hw
  rw [show Try.prog.cellsOf 105 = 2 by kernel_rfl] at hlen
  obtain ⟨a0, a1, rfl⟩ := list2 hlen
  obtain ⟨y0, g0, w0⟩ := hf 0 _ rfl
  obtain ⟨y1, g1, w1⟩ := hf 1 _ rfl
  change DataW.trod enc Try.prog w 0 spare held n 3 ((List.drop 0 [a0, a1]).take (Try.prog.cellsOf 3)) = some y0 at g0
  change DataW.trod enc Try.prog w 0 spare held n 35 ((List.drop 1 [a0, a1]).take (Try.prog.cellsOf 35)) = some y1 at g1
  rw [show Try.prog.cellsOf 3 = 1 by kernel_rfl] at g0
  rw [show Try.prog.cellsOf 35 = 1 by kernel_rfl] at g1
  obtain ⟨i0, e0, j0⟩ := DataW.trod_int Try.underlying3 g0
  obtain ⟨q1, l1, c1, e1, b1, m1, n1, o1⟩ := ints_rd g1 w1
  have h47 := reach47
  simp [tmC] at e0 e1
  refine ⟨(⟨i0, l1⟩, (q1, c1)), ?_, ⟨wf_i64 j0.2, ⟨m1, b1⟩, n1, o1⟩⟩
  simp [edC, e0, e1]
theorem tm_rd {fuel : Nat} {cs : List Value} {x : DataW H × List MemPlace} (h : DataW.trod enc Try.prog w 0 spare held fuel 39 cs = some x) (hw : Lt Try.prog 39 x.1) : ∃ u : Tm × TmY, cs = tmC u.1 u.2 ∧ TmOk w (low w) u.1 u.2 := by
  obtain ⟨hlen, n, hn, hf⟩ := rd_struct Try.underlying39 h hw
  rw [show Try.prog.cellsOf 39 = 5 by kernel_rfl] at hlen
  obtain ⟨a0, a1, a2, a3, a4, rfl⟩ := list5 hlen
  obtain ⟨y0, g0, w0⟩ := hf 0 _ rfl
  obtain ⟨y1, g1, w1⟩ := hf 1 _ rfl
  obtain ⟨y2, g2, w2⟩ := hf 2 _ rfl
  obtain ⟨y3, g3, w3⟩ := hf 3 _ rfl
  obtain ⟨y4, g4, w4⟩ := hf 4 _ rfl
  change DataW.trod enc Try.prog w 0 spare held n 3 ((List.drop 0 [a0, a1, a2, a3, a4]).take (Try.prog.cellsOf 3)) = some y0 at g0
  change DataW.trod enc Try.prog w 0 spare held n 3 ((List.drop 1 [a0, a1, a2, a3, a4]).take (Try.prog.cellsOf 3)) = some y1 at g1
  change DataW.trod enc Try.prog w 0 spare held n 3 ((List.drop 2 [a0, a1, a2, a3, a4]).take (Try.prog.cellsOf 3)) = some y2 at g2
  change DataW.trod enc Try.prog w 0 spare held n 35 ((List.drop 3 [a0, a1, a2, a3, a4]).take (Try.prog.cellsOf 35)) = some y3 at g3
  change DataW.trod enc Try.prog w 0 spare held n 37 ((List.drop 4 [a0, a1, a2, a3, a4]).take (Try.prog.cellsOf 37)) = some y4 at g4
  rw [show Try.prog.cellsOf 3 = 1 by kernel_rfl] at g0 g1 g2
  rw [show Try.prog.cellsOf 35 = 1 by kernel_rfl] at g3
  rw [show Try.prog.cellsOf 37 = 1 by kernel_rfl] at g4
  obtain ⟨i0, e0, j0⟩ := DataW.trod_int Try.underlying3 g0
  obtain ⟨i1, e1, j1⟩ := DataW.trod_int Try.underlying3 g1
  obtain ⟨i2, e2, j2⟩ := DataW.trod_int Try.underlying3 g2
  obtain ⟨q3, l3, c3, e3, b3, m3, n3, o3⟩ := ints_rd g3 w3
  obtain ⟨q4, l4, c4, e4, b4, m4, n4, o4⟩ := rd_arrL (R := edR) Try.underlying37 (by kernel_rfl) (fun n cs' y _ hy hwy => ed_rd hy hwy) g4 w4
  rw [show Try.prog.bytesOf 105 = 32 by kernel_rfl] at n4
  have h47 := reach47
  simp [tmC] at e0 e1 e2 e3 e4
  refine ⟨(⟨i0, i1, i2, l3, l4.map Prod.fst⟩, ⟨(q3, c3), (q4, c4)⟩), ?_, ⟨wf_i64 j0.2, wf_i64 j1.2, wf_i64 j2.2, m3, by simp only [List.length_map]; omega, b3, by simp only [List.length_map]; exact b4, n3, o3, ⟨l4, rfl, o4⟩⟩⟩
  simp [tmC, e0, e1, e2, e3, e4]
theorem in_rd {fuel : Nat} {cs : List Value} {x : DataW H × List MemPlace} (h : DataW.trod enc Try.prog w 0 spare held fuel 85 cs = some x) (hw : Lt Try.prog 85 x.1) : ∃ u : In × Sc, cs = inC u.1 u.2 ∧ InOk w (low w) u.1 u.2 := by
  obtain ⟨hlen, n, hn, hf⟩ := rd_struct Try.underlying85 h hw
  rw [show Try.prog.cellsOf 85 = 4 by kernel_rfl] at hlen
  obtain ⟨a0, a1, a2, a3, rfl⟩ := list4 hlen
  obtain ⟨y0, g0, w0⟩ := hf 0 _ rfl
  obtain ⟨y1, g1, w1⟩ := hf 1 _ rfl
  obtain ⟨y2, g2, w2⟩ := hf 2 _ rfl
  obtain ⟨y3, g3, w3⟩ := hf 3 _ rfl
  change DataW.trod enc Try.prog w 0 spare held n 3 ((List.drop 0 [a0, a1, a2, a3]).take (Try.prog.cellsOf 3)) = some y0 at g0
  change DataW.trod enc Try.prog w 0 spare held n 3 ((List.drop 1 [a0, a1, a2, a3]).take (Try.prog.cellsOf 3)) = some y1 at g1
  change DataW.trod enc Try.prog w 0 spare held n 3 ((List.drop 2 [a0, a1, a2, a3]).take (Try.prog.cellsOf 3)) = some y2 at g2
  change DataW.trod enc Try.prog w 0 spare held n 35 ((List.drop 3 [a0, a1, a2, a3]).take (Try.prog.cellsOf 35)) = some y3 at g3
  rw [show Try.prog.cellsOf 3 = 1 by kernel_rfl] at g0 g1 g2
  rw [show Try.prog.cellsOf 35 = 1 by kernel_rfl] at g3
  obtain ⟨i0, e0, j0⟩ := DataW.trod_int Try.underlying3 g0
  obtain ⟨i1, e1, j1⟩ := DataW.trod_int Try.underlying3 g1
  obtain ⟨i2, e2, j2⟩ := DataW.trod_int Try.underlying3 g2
  obtain ⟨q3, l3, c3, e3, b3, m3, n3, o3⟩ := ints_rd g3 w3
  have h47 := reach47
  simp [tmC] at e0 e1 e2 e3
  refine ⟨(⟨i0, i1, i2, l3⟩, (q3, c3)), ?_, ⟨wf_i64 j0.2, wf_i64 j1.2, wf_i64 j2.2, m3, b3, n3, o3⟩⟩
  simp [inC, e0, e1, e2, e3]
theorem bk_rd {fuel : Nat} {cs : List Value} {x : DataW H × List MemPlace} (h : DataW.trod enc Try.prog w 0 spare held fuel 41 cs = some x) (hw : Lt Try.prog 41 x.1) : ∃ u : Bk × BkY, cs = bkC u.1 u.2 ∧ BkOk w (low w) u.1 u.2 := by
  obtain ⟨hlen, n, hn, hf⟩ := rd_struct Try.underlying41 h hw
  rw [show Try.prog.cellsOf 41 = 7 by kernel_rfl] at hlen
  obtain ⟨a0, a1, a2, a3, a4, a5, a6, rfl⟩ := list7 hlen
  obtain ⟨y0, g0, w0⟩ := hf 0 _ rfl
  obtain ⟨y1, g1, w1⟩ := hf 1 _ rfl
  obtain ⟨y2, g2, w2⟩ := hf 2 _ rfl
  change DataW.trod enc Try.prog w 0 spare held n 35 ((List.drop 0 [a0, a1, a2, a3, a4, a5, a6]).take (Try.prog.cellsOf 35)) = some y0 at g0
  change DataW.trod enc Try.prog w 0 spare held n 36 ((List.drop 1 [a0, a1, a2, a3, a4, a5, a6]).take (Try.prog.cellsOf 36)) = some y1 at g1
  change DataW.trod enc Try.prog w 0 spare held n 39 ((List.drop 2 [a0, a1, a2, a3, a4, a5, a6]).take (Try.prog.cellsOf 39)) = some y2 at g2
  rw [show Try.prog.cellsOf 35 = 1 by kernel_rfl] at g0
  rw [show Try.prog.cellsOf 36 = 1 by kernel_rfl] at g1
  rw [show Try.prog.cellsOf 39 = 5 by kernel_rfl] at g2
  obtain ⟨q0, l0, c0, e0, b0, m0, n0, o0⟩ := ints_rd g0 w0
  obtain ⟨q1, l1, c1, e1, b1, m1, n1, o1⟩ := rd_arrL (R := inR) Try.underlying36 (by kernel_rfl) (fun n cs' y _ hy hwy => in_rd hy hwy) g1 w1
  rw [show Try.prog.bytesOf 85 = 48 by kernel_rfl] at n1
  obtain ⟨u2, e2, o2⟩ := tm_rd g2 w2
  have h47 := reach47
  simp [tmC] at e0 e1 e2
  refine ⟨(⟨l0, l1.map Prod.fst, u2.1⟩, ⟨(q0, c0), (q1, c1), u2.2⟩), ?_, ⟨m0, by simp only [List.length_map]; omega, b0, by simp only [List.length_map]; exact b1, n0, o0, ⟨l1, rfl, o1⟩, o2⟩⟩
  simp [bkC, e0, e1, e2]
theorem fn_rd {fuel : Nat} {cs : List Value} {x : DataW H × List MemPlace} (h : DataW.trod enc Try.prog w 0 spare held fuel 24 cs = some x) (hw : Lt Try.prog 24 x.1) : ∃ u : Go.Ss.Fn × FnY, cs = fnC u.1 u.2 ∧ FnOk w (low w) u.1 u.2 := by
  obtain ⟨hlen, n, hn, hf⟩ := rd_struct Try.underlying24 h hw
  rw [show Try.prog.cellsOf 24 = 2 by kernel_rfl] at hlen
  obtain ⟨a0, a1, rfl⟩ := list2 hlen
  obtain ⟨y0, g0, w0⟩ := hf 0 _ rfl
  obtain ⟨y1, g1, w1⟩ := hf 1 _ rfl
  change DataW.trod enc Try.prog w 0 spare held n 3 ((List.drop 0 [a0, a1]).take (Try.prog.cellsOf 3)) = some y0 at g0
  change DataW.trod enc Try.prog w 0 spare held n 22 ((List.drop 1 [a0, a1]).take (Try.prog.cellsOf 22)) = some y1 at g1
  rw [show Try.prog.cellsOf 3 = 1 by kernel_rfl] at g0
  rw [show Try.prog.cellsOf 22 = 1 by kernel_rfl] at g1
  obtain ⟨i0, e0, j0⟩ := DataW.trod_int Try.underlying3 g0
  obtain ⟨q1, l1, c1, e1, b1, m1, n1, o1⟩ := rd_arrL (R := bkR) Try.underlying22 (by kernel_rfl) (fun n cs' y _ hy hwy => bk_rd hy hwy) g1 w1
  rw [show Try.prog.bytesOf 41 = 120 by kernel_rfl] at n1
  have h47 := reach47
  simp [tmC] at e0 e1
  refine ⟨(⟨i0, l1.map Prod.fst⟩, ⟨q1, c1⟩), ?_, ⟨wf_i64 j0.2, by simp only [List.length_map]; omega, by simp only [List.length_map]; exact b1, ⟨l1, rfl, o1⟩⟩⟩
  simp [fnC, e0, e1]
end
end Go.Proofs.Ytehelljmaiophaa.ss

/- Readings of units. No condition. -/
namespace Go.Proofs.Ytehelljmaiophaa.ss
open Go.RowKit Go.Eng Go.Ss Go.ChangeShapes Go.WideShapes Go.ChangeAt
set_option maxRecDepth 100000
section
variable {H : Type} {enc : TypeId × Value → H} {w : World} {spare : Nat → Bool} {held : Bool}
theorem unit_rd {fuel : Nat} {cs : List Value} {x : DataW H × List MemPlace} (h : DataW.trod enc Try.prog w 0 spare held fuel 55 cs = some x) (hw : Lt Try.prog 55 x.1) : ∃ (q : Option Addr) (l : List (Go.Ss.Fn × FnY)) (c : Nat) (main : Int), cs = [.slice q l.length c, .int .i64 main] ∧ l.length ≤ 140737488355328 ∧ I64 main ∧ Arr fnR w (low w) l q := by
  obtain ⟨hlen, n, hn, hf⟩ := rd_struct Try.underlying55 h hw
  rw [show Try.prog.cellsOf 55 = 2 by kernel_rfl] at hlen
  obtain ⟨a0, a1, rfl⟩ := list2 hlen
  obtain ⟨y0, g0, w0⟩ := hf 0 _ rfl
  obtain ⟨y1, g1, w1⟩ := hf 1 _ rfl
  change DataW.trod enc Try.prog w 0 spare held n 53 ((List.drop 0 [a0, a1]).take (Try.prog.cellsOf 53)) = some y0 at g0
  change DataW.trod enc Try.prog w 0 spare held n 3 ((List.drop 1 [a0, a1]).take (Try.prog.cellsOf 3)) = some y1 at g1
  rw [show Try.prog.cellsOf 3 = 1 by kernel_rfl] at g1
  rw [show Try.prog.cellsOf 53 = 1 by kernel_rfl] at g0
  obtain ⟨i1, e1, j1⟩ := DataW.trod_int Try.underlying3 g1
  obtain ⟨q0, l0, c0, e0, b0, m0, n0, o0⟩ := rd_arrL (R := fnR) Try.underlying53 (by kernel_rfl) (fun n cs' y _ hy hwy => fn_rd hy hwy) g0 w0
  rw [show Try.prog.bytesOf 24 = 32 by kernel_rfl] at n0
  have h47 := reach47
  simp [tmC] at e0 e1
  refine ⟨q0, l0, c0, i1, ?_, by omega, wf_i64 j1.2, o0⟩
  simp [e0, e1]
end
end Go.Proofs.Ytehelljmaiophaa.ss
