/- Texts of the proof of FlowSays, part 4: rules of a calculus for walking, plain laws, and walks of the functions that the law reaches. No condition. -/
import Derived.Test.YtkpjndhgicbjjaaDoorProg
import Derived.Shelf.SlGeneric
import Derived.Shelf.Spec.TrailingZeros
import Derived.Laws.StructEq
import Derived.RangeFuncNested
import Derived.Test.YtkpjndhgicbjjaaDoorFlowSays3
set_option linter.unusedVariables false
set_option linter.unusedSimpArgs false
/- Plain: what a checked core expression's nodes have, for the rules of flow; the rows that the rules name are there. No program in sight. No condition. -/
namespace Go.Co
structure FSh (x : Ex) : Prop where
 lam : x.op = 2 → x.kids.length = 1
 app : x.op = 3 → 1 ≤ x.kids.length
 lets : x.op = 4 → x.kids.length = 2 ∧ x.binds.length = 1
 recs : x.op = 5 → x.kids.length = x.binds.length + 1
 alts : x.op = 7 ∨ x.op = 13 → x.kids.length = 1 + x.alts.length
 noalt : ¬ (x.op = 7 ∨ x.op = 13) → x.alts.length = 0
 h0 : x.op = 13 → ∀ a, x.alts[0]? = some a → a.binds.length = 1
 new : x.op = 8 → x.n = 8 → x.kids.length = 2
 set : x.op = 8 → x.n = 11 → x.kids.length = 3
 one : x.op = 12 → x.kids.length = 1
 two : x.op = 11 → x.kids.length = 2
theorem FSh.of {x : Ex} (h : shapeB x = true) : FSh x := by
 obtain ⟨s1, s2, s3⟩ := shape_kids h
 unfold shapeB at h
 by_cases h7 : x.op = 7 ∨ x.op = 13
 ·rw [if_pos h7] at h
  simp only [Bool.and_eq_true, altsB, decide_eq_true_eq] at h
  refine ⟨by omega, by omega, by omega, by omega, s1, s2, fun h13 a ha => ?_, by omega, by omega, by omega, by omega⟩
  have h1 := h.1.1.1.1
  unfold altsOk at h1
  rw [List.all_eq_true] at h1
  have hl := (List.getElem?_eq_some_iff.1 ha).1
  have h2 := h1 0 (List.mem_range.2 hl)
  rw [List.getD_eq_getElem?_getD, ha] at h2
  unfold altOk at h2
  simp [h13] at h2
  omega
 ·rw [if_neg h7] at h
  split at h
  ·cases h
  ·rename_i k b u hs
   simp only [Bool.and_eq_true, decide_eq_true_eq] at h
   obtain ⟨⟨⟨hk, hb⟩, _⟩, _⟩ := h
   unfold sh at hs
   refine ⟨fun h5 => ?_, fun h5 => ?_, fun h5 => ?_, fun h5 => ?_, s1, s2, fun h5 => absurd (.inr h5) h7, fun h5 h6 => ?_, fun h5 h6 => ?_, fun h5 => ?_, fun h5 => ?_⟩
   ·simp [h5] at hs; omega
   ·simp [h5] at hs; omega
   ·simp [h5] at hs; omega
   ·simp [h5] at hs; omega
   ·simp [h5, h6, primN] at hs; omega
   ·simp [h5, h6, primN] at hs; omega
   ·simp [h5] at hs; omega
   ·simp [h5] at hs; omega
structure FOk (e : List Ex) : Prop where
 len : e.length ≤ 4096
 pos : 0 < e.length
 down : Down e
 sh : ∀ (i : Nat) (x : Ex), e[i]? = some x → FSh x
 var : ∀ (i : Nat) (x : Ex), e[i]? = some x → x.op = 0 → x.n ∈ e.flatMap bindersX
theorem bound_sub {x : Ex} {m : Nat} {n : Int} (h : n ∈ scopeX x m) : n ∈ bindersX x := by
 unfold scopeX bound at h
 unfold bindersX
 by_cases h1 : x.op = 2 ∨ x.op = 5 ∨ (x.op = 4 ∧ m = 1)
 ·rw [if_pos h1] at h
  rw [if_pos (by omega)]
  exact List.mem_append_left _ h
 ·rw [if_neg h1] at h
  split at h
  ·rename_i h2
   refine List.mem_append_right _ (List.mem_flatMap.2 ⟨_, ?_, h⟩)
   rw [List.getD_eq_getElem?_getD, List.getElem?_eq_getElem (by omega)]
   exact List.getElem_mem _
  ·cases h
theorem under_sub {e : List Ex} {i j : Nat} {sc : List Int} (h : Under e i j sc) : ∀ n ∈ sc, n ∈ e.flatMap bindersX := by
 induction h with
 | here => intro n hn; cases hn
 | up hp hx _ ih =>
  intro n hn
  rcases List.mem_append.1 hn with h1 | h1
  ·exact List.mem_flatMap.2 ⟨_, List.mem_of_getElem? hx, bound_sub h1⟩
  ·exact ih n h1
theorem FOk.of {e : List Ex} (h : bodyE e [] false = 0) : FOk e := by
 have hb := BodyOk.of h
 refine ⟨hb.tree.len, hb.tree.pos, hb.tree.tree.down, fun i x hx => ?_, fun i x hx ho => ?_⟩
 ·exact FSh.of (nodeE_zero (hb.node (List.mem_of_getElem? hx)).1).1
 ·have hi := (List.getElem?_eq_some_iff.1 hx).1
  obtain ⟨sc, hu⟩ := hb.tree.tree.root hi
  apply Decidable.byContradiction
  intro hn
  have := hb.fr x.n ((mem_fv hb.tree.tree.down (e.length - 1) (by have := hb.tree.pos; omega) []).2 ⟨i, x, sc, hx, ho, rfl, hu, fun h2 => hn (under_sub hu _ (by simpa using h2))⟩)
  cases this
def ixF (e : List Ex) (id : Int) : Nat := e.length + 2 + (e.flatMap bindersX).idxOf id
def rowsN (e : List Ex) : Nat := e.length + 2 + (e.flatMap bindersX).length
theorem ixF_lt {e : List Ex} {id : Int} (h : id ∈ e.flatMap bindersX) : ixF e id < rowsN e := by
 unfold ixF rowsN
 have := List.idxOf_lt_length_of_mem h
 omega
theorem ixF_inj {e : List Ex} {a b : Int} (ha : a ∈ e.flatMap bindersX) (h : ixF e a = ixF e b) : a = b := by
 unfold ixF at h
 have h1 : (e.flatMap bindersX).idxOf a = (e.flatMap bindersX).idxOf b := by omega
 have la := List.idxOf_lt_length_of_mem ha
 have ga := List.getElem_idxOf la
 have lb : (e.flatMap bindersX).idxOf b < (e.flatMap bindersX).length := by omega
 have gb := List.getElem_idxOf lb
 rw [← ga, ← gb]
 congr 1
def LamOnly (e : List Ex) (R : FR) : Prop := ∀ p g, hB R p g = true → g = e.length ∨ ∃ x, e[g]? = some x ∧ x.op = 2
theorem FOk.kid {e : List Ex} (h : FOk e) {i : Nat} {x : Ex} (hx : e[i]? = some x) {k : Nat} (hk : k < x.kids.length) : kidN x k < i ∧ x.kids[k]? = some (kidN x k : Int) := by
 have hd := h.down i x hx (x.kids[k]) (List.getElem_mem hk)
 have e1 : x.kids[k]? = some x.kids[k] := List.getElem?_eq_getElem hk
 have e2 : x.kids.getD k 0 = x.kids[k] := by rw [List.getD_eq_getElem?_getD, e1]; rfl
 unfold kidN
 rw [e2, e1, Int.toNat_of_nonneg hd.1]
 exact ⟨by omega, rfl⟩
theorem FOk.bind {e : List Ex} {i : Nat} {x : Ex} (hx : e[i]? = some x) (ho : x.op = 2 ∨ x.op = 4 ∨ x.op = 5) {id : Int} (h : id ∈ x.binds) : id ∈ e.flatMap bindersX :=
 List.mem_flatMap.2 ⟨x, List.mem_of_getElem? hx, by unfold bindersX; rw [if_pos ho]; exact List.mem_append_left _ h⟩
theorem FOk.alt {e : List Ex} {i : Nat} {x : Ex} (hx : e[i]? = some x) {a : Al} (ha : a ∈ x.alts) {id : Int} (h : id ∈ a.binds) : id ∈ e.flatMap bindersX :=
 List.mem_flatMap.2 ⟨x, List.mem_of_getElem? hx, by unfold bindersX; exact List.mem_append_right _ (List.mem_flatMap.2 ⟨a, ha, h⟩)⟩
theorem getD_mem_ {α : Type} {l : List α} {d : α} {k : Nat} (h : k < l.length) : l.getD k d ∈ l := by
 rw [List.getD_eq_getElem?_getD, List.getElem?_eq_getElem h]
 exact List.getElem_mem h
theorem FOk.rng {e : List Ex} (h : FOk e) {R : FR} (hR : LamOnly e R) : ERng e.length (rowsN e) (ixF e) e R := by
 intro i x hx p hp
 have hi := (List.getElem?_eq_some_iff.1 hx).1
 have r0 : i < rowsN e := by unfold rowsN; omega
 have r1 : e.length < rowsN e := by unfold rowsN; omega
 unfold edges at hp
 by_cases h3 : x.op = 3
 ·rw [if_pos h3] at hp
  unfold eApp at hp
  obtain ⟨g, hg, hx2⟩ := List.mem_flatMap.1 hp
  by_cases hb : hB R (kidN x 0) g = true
  ·rw [if_pos hb] at hx2
   unfold eCall at hx2
   split at hx2
   ·simp only [List.mem_cons, List.not_mem_nil, or_false] at hx2
    rcases hx2 with rfl | rfl
    ·exact r1
    ·exact r0
   ·split at hx2
    ·rename_i y hy
     split at hx2
     ·rcases List.mem_append.1 hx2 with h5 | h5
      ·obtain ⟨k, hk, rfl⟩ := List.mem_map.1 h5
       rcases hR _ _ hb with rfl | ⟨y', hy', ho⟩
       ·rw [List.getElem?_eq_none (Nat.le_refl _)] at hy; cases hy
       ·rw [hy] at hy'
        cases hy'
        exact ixF_lt (FOk.bind hy (.inl ho) (getD_mem_ (List.mem_range.1 hk)))
      ·simp only [List.mem_cons, List.not_mem_nil, or_false] at h5
       subst h5
       exact r0
     ·cases hx2
    ·cases hx2
  ·rw [if_neg hb] at hx2
   cases hx2
 ·rw [if_neg h3] at hp
  unfold eStat at hp
  split at hp
  ·simp only [List.mem_cons, List.not_mem_nil, or_false] at hp; subst hp; exact r0
  split at hp
  ·rename_i ho
   rcases List.mem_append.1 hp with h5 | h5
   ·obtain ⟨k, hk, rfl⟩ := List.mem_map.1 h5
    exact ixF_lt (FOk.bind hx (by omega) (getD_mem_ (List.mem_range.1 hk)))
   ·simp only [List.mem_cons, List.not_mem_nil, or_false] at h5; subst h5; exact r0
  split at hp
  ·obtain ⟨k, hk, rfl⟩ := List.mem_map.1 hp
   exact r1
  split at hp
  ·rcases List.mem_append.1 hp with h5 | h5
   ·obtain ⟨k, hk, h6⟩ := List.mem_flatMap.1 h5
    unfold eAlt at h6
    rcases List.mem_append.1 h6 with h7 | h7
    ·obtain ⟨m, hm, rfl⟩ := List.mem_map.1 h7
     exact ixF_lt (FOk.alt hx (getD_mem_ (List.mem_range.1 hk)) (getD_mem_ (List.mem_range.1 hm)))
    ·simp only [List.mem_cons, List.not_mem_nil, or_false] at h7; subst h7; exact r0
   ·split at h5
    ·simp only [List.mem_cons, List.not_mem_nil, or_false] at h5; subst h5; exact r1
    ·cases h5
  repeat' (split at hp)
  all_goals (simp only [List.mem_cons, List.not_mem_nil, or_false] at hp)
  all_goals (first | (subst hp; first | exact r0 | exact r1) | (rcases hp with rfl | rfl <;> first | exact r0 | exact r1) | exact hp.elim)
end Go.Co

/- The walks of flow's empty and ident. Conditions: none. -/
namespace Go.Co
open Go.Eng
def idP (e : List Ex) (M : List (Int × Nat)) : List (Nat × Nat) := M.map fun p => (ixF e p.1, p.2)
def idM (n : Nat) (M : List (Int × Nat)) : MI := M.map fun p => (p.1, .slice (some ⟨p.2, 0, none⟩) (n / 64 + 1) (n / 64 + 1))
theorem iget_idM {n : Nat} {M : List (Int × Nat)} {id : Int} : iget (idM n M) id = none ∧ (∀ p ∈ M, p.1 ≠ id) ∨ ∃ b, iget (idM n M) id = some (.slice (some ⟨b, 0, none⟩) (n / 64 + 1) (n / 64 + 1)) ∧ (id, b) ∈ M := by
 induction M with
 | nil => exact .inl ⟨rfl, fun p hp => by cases hp⟩
 | cons p r ih =>
  by_cases h : p.1 = id
  ·refine .inr ⟨p.2, ?_, by rw [← h]; exact .head _⟩
   simp [idM, iget, h]
  ·have e1 : iget (idM n (p :: r)) id = iget (idM n r) id := by simp [idM, iget, h]
   rw [e1]
   rcases ih with ⟨h1, h2⟩ | ⟨b, h1, h2⟩
   ·exact .inl ⟨h1, fun q hq => by
     rcases List.mem_cons.1 hq with rfl | hq
     ·exact h
     ·exact h2 q hq⟩
   ·exact .inr ⟨b, h1, .tail _ h2⟩
theorem words_zero (n : Nat) {r : List Bool} (h : ∀ f, r.getD f false = false) : wordsB n r = List.replicate (n / 64 + 1) 0 := by
 refine List.ext_getElem? fun i => ?_
 by_cases hi : i < n / 64 + 1
 ·rw [wordsB_get _ hi, List.getElem?_replicate, if_pos hi]
  congr 1
  apply Nat.eq_of_testBit_eq
  intro j
  rw [word_bit, h, Bool.and_false, Nat.zero_testBit]
 ·rw [List.getElem?_eq_none (by rw [wordsB_len]; omega), List.getElem?_eq_none (by rw [List.length_replicate]; omega)]
end Go.Co
namespace Go.Proofs.YtkpjndhgicbjjaaDoor.co
open Go.RowKit Go.Eng Go.Co
set_option maxRecDepth 100000
theorem empty_calls (bs n : Nat) (q : Option Addr) (ce : Nat) (cN cM cH cA : Value) (mv : Bool) (hn : n ≤ 4096) (H : List Eng.Item) (S : List World) (w : World)
  (hc : Cls (blk bs 56 [.slice q n ce, cN, cM, cH, cA, .bool mv] :: H) S w) :
  Calls Tryd.prog 22 [.pointer (some ⟨bs, 0, none⟩)].toArray w fun e w' => ∃ b, e = .returned (.slice (some ⟨b, 0, none⟩) (n / 64 + 1) (n / 64 + 1)) ∧ AllLe S b ∧
   Cls (blk b 67 (u64s (List.replicate (n / 64 + 1) 0)) :: blk bs 56 [.slice q n ce, cN, cM, cH, cA, .bool mv] :: H) S w' := by
 refine enter Tryd.func22 rfl Tryd.ntmps22 rfl hc ?_
 (simp only [argEnv, Nat.zero_add, Nat.reduceAdd])
 apply W.sr
 apply oas; rfl; rfl
 apply OL.nsr
 apply omv; rfl; rfl
 apply oop; rfl; apply Pev.nil_ptr; rfl; exact yes
 apply ofa; rfl; rfl; rfl
 apply old; rfl; rfl; exact .head _; rfl; rfl
 apply oop; rfl; apply Pev.len_slice; rfl; exact yes; rfl
 apply obn; rfl; rfl; rfl; apply Bin.quo_in; omega
 apply obn; rfl; rfl; rfl; apply Bin.add_in; omega
 refine OL.makeSlice (m := n / 64 + 1) rfl rfl rfl rfl rfl (by omega) (by omega) (by omega) ?_
 intro b hb
 apply oas; rfl; rfl
 apply OL.nx
 apply W.ret
 ((with_reducible apply At.fin1); rfl; rfl; intro w' hw')
 exact ⟨b, rfl, hb, by rw [← u64s_rep]; exact hw'⟩
theorem ident_calls (bs bm B n : Nat) (e : List Ex) (he : n = e.length) (id : Int) (q : Option Addr) (ce : Nat) (cN cH cA : Value) (mv : Bool) (hn : n ≤ 4096) (R : FR) (P0 : List (Nat × Nat)) (M : List (Int × Nat)) (hz : (∀ p ∈ M, p.1 ≠ id) → ∀ f, hB R (ixF e id) f = false) (H : List Eng.Item) (S : List World) (s0 : World) (hs0 : s0 ∈ S) (hB : B ≤ s0.heap.size) (w : World)
  (hc : Cls (blk bs 56 [.slice q n ce, cN, .map (some bm), cH, cA, .bool mv] :: mapI bm (idM n M) :: bag B (setsI 67 n R (P0 ++ idP e M)) :: H) S w) :
  Calls Tryd.prog 47 [.pointer (some ⟨bs, 0, none⟩), .int .i64 id].toArray w fun r w' => ∃ b M', r = .returned (.slice (some ⟨b, 0, none⟩) (n / 64 + 1) (n / 64 + 1)) ∧ (id, b) ∈ M' ∧ (M' = M ∨ (∀ p ∈ M, p.1 ≠ id) ∧ B ≤ b ∧ M' = M ++ [(id, b)]) ∧
   Cls (blk bs 56 [.slice q n ce, cN, .map (some bm), cH, cA, .bool mv] :: mapI bm (idM n M') :: bag B (setsI 67 n R (P0 ++ idP e M')) :: H) S w' := by
 refine enter Tryd.func47 rfl Tryd.ntmps47 rfl hc ?_
 (simp only [argEnv, Nat.zero_add, Nat.reduceAdd])
 apply W.sr
 apply oas; rfl; rfl
 apply OL.nx
 apply W.seq
 apply W.sr
 apply omv; rfl; rfl
 apply oop; rfl; apply Pev.nil_ptr; rfl; exact yes
 apply ofa; rfl; rfl; rfl
 apply old; rfl; rfl; exact .head _; rfl; rfl
 apply omv; rfl; rfl
 rcases iget_idM (n := n) (M := M) (id := id) with ⟨h1, h2⟩ | ⟨b, h1, h2⟩
 ·(((first | (with_reducible apply OL.op) | (with_reducible apply QL.op)); (exact Guard.au); rfl; rfl); (exact Pev.ilookup rfl (by (first | exact fun _ => rfl | exact fun h => h | (intro h; simp_all; done))) rfl (by (first | exact fun _ => rfl | exact fun h => h | (intro h; simp_all; done))) rfl rfl (fun w hw => hw.item (by exact mau))))
  rw [h1]
  simp only [Option.getD_none]
  apply obn; rfl; rfl; rfl; apply Bin.slice_nil; rfl
  apply OL.nx
  (refine W.cnd (fun hnn => ?_) (fun hnn => ?_)) <;> (try (exfalso; first | omega | exact hnn trivial | contradiction))
  (apply W.regz; (repeat (first | exact ZSplit.nil | apply ZSplit.pure rfl | apply ZSplit.tail)); kernel_rfl; (decide +kernel); (exact fun w hw => hw.drew))
  apply ZL.op rfl; exact Guard.none; rfl; rfl; apply Pev.move; rfl; exact yes
  apply ZL.op rfl; exact Guard.none; rfl; rfl; apply Pev.nil_ptr; rfl; exact yes
  apply ZL.op rfl; exact Guard.none; rfl; rfl; apply Pev.fld; rfl; exact yes; rfl
  apply ZL.ld rfl; exact Guard.none; rfl; rfl; apply Pev.load_blk; rfl; exact yes; exact .head _; rfl; rfl
  apply ZL.op rfl; exact Guard.none; rfl; rfl; apply Pev.move; rfl; exact yes
  apply ZL.op rfl; exact Guard.none; rfl; rfl; apply Pev.move; rfl; exact yes
  apply ZL.nil
  apply TL.one rfl
  refine OL.callE (α := Nat) (fun b => .slice (some ⟨b, 0, none⟩) (n / 64 + 1) (n / 64 + 1)) (fun b => AllLe S b) (fun b => Cls (blk b 67 (u64s (List.replicate (n / 64 + 1) 0)) :: blk bs 56 [.slice q n ce, cN, .map (some bm), cH, cA, .bool mv] :: mapI bm (idM n M) :: bag B (setsI 67 n R (P0 ++ idP e M)) :: H) S) rfl rfl (by exact Args.au) (fun w2 hw2 => (empty_calls bs n q ce cN _ cH cA mv hn _ S w2 hw2).mono (fun e1 w3 ⟨b, h3, h4, h5⟩ => ⟨b, h3, h4, h5⟩)) ?_
  intro b hb
  refine OL.nil (At.tk (fun w9 hw9 => Cls.thin hw9 (.any (fun k hk => by rw [show k = b from hk]; exact hb) Thin.same)) ?_)
  apply TL.one rfl
  apply OL.iput; rfl; rfl; rfl; rfl; exact Hole.au
  apply OL.nil
  with_reducible apply At.tn; decide +kernel
  apply TL.nil
  with_reducible apply At.np
  with_reducible apply At.next
  apply W.sr
  apply omv; rfl; rfl
  apply oop; rfl; apply Pev.nil_ptr; rfl; exact yes
  apply ofa; rfl; rfl; rfl
  apply old; rfl; rfl; exact .tail _ (.head _); rfl; rfl
  apply omv; rfl; rfl
  rw [iput_new h1]
  refine OL.cls (C' := Cls (blk bs 56 [.slice q n ce, cN, .map (some bm), cH, cA, .bool mv] :: mapI bm (idM n (M ++ [(id, b)])) :: bag B (setsI 67 n R (P0 ++ idP e (M ++ [(id, b)]))) :: H) S) (fun w2 hw2 => ?_) ?_
  ·have g1 := hw2.perm (((List.perm_append_comm (l₁ := [_, _, _]) (l₂ := [_])).append_right H))
   have g2 : Cls (blk b 67 (u64s (List.replicate (n / 64 + 1) 0)) :: bag B (setsI 67 n R (P0 ++ idP e M)) :: blk bs 56 [.slice q n ce, cN, .map (some bm), cH, cA, .bool mv] :: mapI bm (idM n M ++ [(id, .slice (some ⟨b, 0, none⟩) (n / 64 + 1) (n / 64 + 1))]) :: H) S w2 := g1.perm (List.Perm.swap _ _ _)
   have g3 := g2.bag_in (fun k hk => by rw [show k = b from hk]; exact Nat.le_trans hB (hb.mem s0 hs0))
   have e1 : blk b 67 (u64s (List.replicate (n / 64 + 1) 0)) = setI 67 n R (ixF e id, b) := by
    unfold setI
    rw [words_zero n (hz h2)]
   rw [e1] at g3
   have g4 := g3.bag_perm (L' := setsI 67 n R (P0 ++ idP e (M ++ [(id, b)]))) (by
    unfold setsI
    rw [← List.map_cons]
    refine List.Perm.map _ ?_
    have e3 : idP e (M ++ [(id, b)]) = idP e M ++ [(ixF e id, b)] := by simp [idP]
    rw [e3, ← List.append_assoc]
    exact (List.perm_append_comm (l₁ := [_])))
   have g5 : Cls (blk bs 56 [.slice q n ce, cN, .map (some bm), cH, cA, .bool mv] :: mapI bm (idM n (M ++ [(id, b)])) :: bag B (setsI 67 n R (P0 ++ idP e (M ++ [(id, b)]))) :: H) S w2 := by
    have e2 : idM n (M ++ [(id, b)]) = idM n M ++ [(id, .slice (some ⟨b, 0, none⟩) (n / 64 + 1) (n / 64 + 1))] := by simp [idM]
    rw [e2]
    exact g4.perm ((List.perm_append_comm (l₁ := [_]) (l₂ := [_, _])).append_right H)
   exact g5
  have h3 : iget (idM n (M ++ [(id, b)])) id = some (.slice (some ⟨b, 0, none⟩) (n / 64 + 1) (n / 64 + 1)) := by
   have e2 : idM n (M ++ [(id, b)]) = iput (idM n M) id (.slice (some ⟨b, 0, none⟩) (n / 64 + 1) (n / 64 + 1)) := by rw [iput_new h1]; simp [idM]
   rw [e2, iget_iput, if_pos rfl]
  (((first | (with_reducible apply OL.op) | (with_reducible apply QL.op)); (exact Guard.au); rfl; rfl); (exact Pev.ilookup rfl (by (first | exact fun _ => rfl | exact fun h => h | (intro h; simp_all; done))) rfl (by (first | exact fun _ => rfl | exact fun h => h | (intro h; simp_all; done))) rfl rfl (fun w hw => hw.item (by exact mau))))
  rw [h3]
  simp only [Option.getD_some]
  apply oas; rfl; rfl
  apply OL.nx
  apply W.ret
  ((with_reducible apply At.fin1); rfl; rfl; intro w' hw')
  exact ⟨b, M ++ [(id, b)], rfl, by simp, .inr ⟨h2, Nat.le_trans hB (hb.mem s0 hs0), rfl⟩, hw'⟩
 ·(((first | (with_reducible apply OL.op) | (with_reducible apply QL.op)); (exact Guard.au); rfl; rfl); (exact Pev.ilookup rfl (by (first | exact fun _ => rfl | exact fun h => h | (intro h; simp_all; done))) rfl (by (first | exact fun _ => rfl | exact fun h => h | (intro h; simp_all; done))) rfl rfl (fun w hw => hw.item (by exact mau))))
  rw [h1]
  simp only [Option.getD_some]
  apply obn; rfl; rfl; rfl; apply Bin.slice_nil; rfl
  apply OL.nx
  (refine W.cnd (fun hnn => ?_) (fun hnn => ?_)) <;> (try (exfalso; first | omega | exact hnn trivial | contradiction))
  apply W.sk
  apply W.sr
  apply omv; rfl; rfl
  apply oop; rfl; apply Pev.nil_ptr; rfl; exact yes
  apply ofa; rfl; rfl; rfl
  apply old; rfl; rfl; exact .head _; rfl; rfl
  apply omv; rfl; rfl
  (((first | (with_reducible apply OL.op) | (with_reducible apply QL.op)); (exact Guard.au); rfl; rfl); (exact Pev.ilookup rfl (by (first | exact fun _ => rfl | exact fun h => h | (intro h; simp_all; done))) rfl (by (first | exact fun _ => rfl | exact fun h => h | (intro h; simp_all; done))) rfl rfl (fun w hw => hw.item (by exact mau))))
  rw [h1]
  simp only [Option.getD_some]
  apply oas; rfl; rfl
  apply OL.nx
  apply W.ret
  ((with_reducible apply At.fin1); rfl; rfl; intro w' hw')
  exact ⟨b, M, rfl, h2, .inl rfl, hw'⟩
end Go.Proofs.YtkpjndhgicbjjaaDoor.co

/- A drawn region whose pure operations look at a part of memory alone (the same as in SbI, which is not imported beside this). General. No condition. -/
namespace Go.Eng
open Go.RowKit
theorem AllLe.of {k : Nat} : ∀ {S : List World}, (∀ s ∈ S, s.heap.size ≤ k) → AllLe S k
 | [], _ => trivial
 | s :: S, h => ⟨h s (.head _), AllLe.of fun x hx => h x (.tail _ hx)⟩
section
variable {P : Program} {n : Nm} {l : Env} {H : List Item} {S : List World} {ops : Array Oper} {rest : List Oper} {Q : Exit → Act → World → Prop} {t ty : TypeId} {pos : String} {af : Array Edge}
theorem Cls.sub {w : World} {L : List Item} (h : Cls H S w) (hs : L.Sublist H) : Cls L [] w where
 holds := fun j hj => h.holds _ (hs.subset hj)
 lt := fun j hj => h.lt _ (hs.subset hj)
 dj := h.dj.sublist hs
 kp := fun s hs => by cases hs
theorem Cls.onlyI {w : World} {i : Item} (h : Cls H S w) (hi : i ∈ H) : Cls [i] [] w where
 holds := fun j hj => by obtain rfl := List.mem_singleton.1 hj; exact h.holds _ hi
 lt := fun j hj => by obtain rfl := List.mem_singleton.1 hj; exact h.lt _ hi
 dj := List.pairwise_singleton _ _
 kp := fun s hs => by cases hs
variable {C C0 : World → Prop} {x y : List (Nat × Oper)}
theorem W.regzC {id : Nat} {l0 : List Oper} (hs : ZSplit 0 [] l0 x y) (hm : P.follows .mixedOrders = true) (hB : zB l0.toArray (x.map (·.1)) (y.map (·.1)) = true) (hC : ∀ w, C w → C { w with drawn := w.drawn + 1 }) (hC0 : ∀ w, C w → C0 w)
  (h : ZL P n l0.toArray C0 (fun a' => ∀ w', C w' → wpT P l0.toArray C0 (needZ l0.toArray (x.map (·.1))) (NoPanic Q) y a' w') x l) : W P n (.region id l0.toArray true) Q l C := ⟨fun a w hs' hc => by
 simp only [zB, Bool.and_eq_true] at hB
 obtain ⟨h1, h2, h3⟩ := hB
 obtain ⟨hx, hy, hlen⟩ := hs.spec
 refine wpp_region_any hm (wpAny_np _ _ _ _ (wpAny_of_Z (C0 := C0) (need := needZ l0.toArray (x.map (·.1))) _ _ _ _ ?_))
 have key := wpZ_pre (P := P) (ops := l0.toArray) (C0 := C0) (Q := NoPanic Q) (xi0 := x.map (·.1)) (f := y.length) (w := { w with drawn := w.drawn + 1 }) h1 (fun _ _ _ h => h) (hC0 _ (hC w hc)) x (Array.replicate l0.toArray.size false) a
  (fun p hp => ⟨List.mem_map.2 ⟨p, hp, rfl⟩, by have := (hx p hp).2.1; simpa using this⟩) (fun j o _ hj => by rw [getD_rep] at hj; cases hj) h2 (h.run a hs')
  (fun a' hK => wpZ_seq y _ a' _ h3 (hK _ (hC w hc)))
 have e : x.length + y.length = l0.toArray.size := by simpa using hlen
 exact (congrArg (fun s => wpZ P l0.toArray C0 (needZ l0.toArray (x.map (·.1))) (NoPanic Q) s (Array.replicate l0.toArray.size false) a { w with drawn := w.drawn + 1 }) e).mp key⟩
theorem ZL.nilC {need : Nat → Bool} (h : TL P n ops C0 need Q y l C) : ZL P n ops C0 (fun a' => ∀ w', C w' → wpT P ops C0 need Q y a' w') [] l := ⟨fun a hs w hc => h.run a w hs hc⟩
end
end Go.Eng

/- The solver's memory; ident and into on it. Conditions: none. -/
namespace Go.Co
open Go.Eng
structure FY where
 bs : Nat
 bm : Nat
 B : Nat
 O : Nat → Prop
 gn : Nat
 cn : Nat
 qe : Option Addr
 ce : Nat
 N : List Nat
 bh : Nat
 ba : Nat
structure FS where
 R : FR
 mv : Bool
 M : List (Int × Nat)
def FY.P0 (y : FY) : List (Nat × Nat) := (y.N.zipIdx.map fun p => (p.2, p.1)) ++ [(y.N.length, y.bh), (y.N.length + 1, y.ba)]
def slW (n b : Nat) : Value := .slice (some ⟨b, 0, none⟩) (n / 64 + 1) (n / 64 + 1)
def FY.c (y : FY) (mv : Bool) : List Value := [.slice y.qe y.N.length y.ce, .slice (some ⟨y.gn, 0, none⟩) y.N.length y.cn, .map (some y.bm), slW y.N.length y.bh, slW y.N.length y.ba, .bool mv]
structure FYOk (e : List Ex) (y : FY) : Prop where
 ok : FOk e
 len : y.N.length = e.length
 B : ∀ p ∈ y.P0, y.B ≤ p.2
structure FSOk (e : List Ex) (y : FY) (s : FS) : Prop where
 dim : FDim e.length (rowsN e) s.R
 lam : LamOnly e s.R
 nd : (s.M.map Prod.fst).Nodup
 ids : ∀ p ∈ s.M, p.1 ∈ e.flatMap bindersX
 B : ∀ p ∈ s.M, y.B ≤ p.2
 zero : ∀ id ∈ e.flatMap bindersX, (∀ p ∈ s.M, p.1 ≠ id) → ∀ f, hB s.R (ixF e id) f = false
def FS.P (e : List Ex) (y : FY) (s : FS) : List (Nat × Nat) := y.P0 ++ idP e s.M
theorem P0_fst (y : FY) : y.P0.map Prod.fst = List.range (y.N.length + 2) := by
 unfold FY.P0
 rw [List.map_append, List.map_map]
 have h1 : (y.N.zipIdx.map (Prod.fst ∘ fun p : Nat × Nat => (p.2, p.1))) = List.range y.N.length := by
  have : (Prod.fst ∘ fun p : Nat × Nat => (p.2, p.1)) = Prod.snd := rfl
  rw [this, List.zipIdx_map_snd, List.range_eq_range']
 rw [h1, List.range_succ, List.range_succ]
 simp
theorem P_nodup {e : List Ex} {y : FY} {s : FS} (hl : y.N.length = e.length) (h : FSOk e y s) : ((s.P e y).map Prod.fst).Nodup := by
 unfold FS.P
 rw [List.map_append, P0_fst, List.nodup_append]
 refine ⟨List.nodup_range, ?_, fun a ha b hb => ?_⟩
 ·unfold idP
  rw [List.map_map]
  have h1 := h.nd
  have h2 := h.ids
  clear h
  generalize s.M = M at h1 h2
  induction M with
  | nil => exact .nil
  | cons p r ih =>
   rw [List.map_cons, List.nodup_cons] at h1 ⊢
   refine ⟨fun hm => ?_, ih h1.2 fun q hq => h2 q (.tail _ hq)⟩
   obtain ⟨q, hq, he⟩ := List.mem_map.1 hm
   exact h1.1 (List.mem_map.2 ⟨q, hq, ixF_inj (h2 q (.tail _ hq)) he⟩)
 ·have := List.mem_range.1 ha
  unfold idP at hb
  rw [List.map_map] at hb
  obtain ⟨q, hq, rfl⟩ := List.mem_map.1 hb
  simp only [Function.comp, ixF]
  omega
theorem P_B {e : List Ex} {y : FY} {s : FS} (hy : FYOk e y) (h : FSOk e y s) : ∀ p ∈ s.P e y, y.B ≤ p.2 := by
 intro p hp
 rcases List.mem_append.1 hp with hp | hp
 ·exact hy.B p hp
 ·obtain ⟨q, hq, rfl⟩ := List.mem_map.1 hp
  exact h.B q hq
theorem P_lt {e : List Ex} {y : FY} {s : FS} (hy : FYOk e y) (h : FSOk e y s) : ∀ p ∈ s.P e y, p.1 < rowsN e := by
 intro p hp
 rcases List.mem_append.1 hp with hp | hp
 ·have h1 : p.1 ∈ y.P0.map Prod.fst := List.mem_map_of_mem hp
  rw [P0_fst, hy.len] at h1
  have := List.mem_range.1 h1
  unfold rowsN
  omega
 ·obtain ⟨q, hq, rfl⟩ := List.mem_map.1 hp
  exact ixF_lt (h.ids q hq)
def FS.into (s : FS) (p q : Nat) : FS := ⟨inR s.R p q, s.mv || !decide (inR s.R p q = s.R), s.M⟩
theorem FSOk.into {e : List Ex} {y : FY} {s : FS} (hy : FYOk e y) (h : FSOk e y s) {p b : Nat} (hp : (p, b) ∈ s.P e y) (q : Nat) : FSOk e y (s.into p q) where
 dim := h.dim.into p q
 lam := fun a g hg => by
  have hg : hB (inR s.R p q) a g = true := hg
  rw [hB_in] at hg
  cases h1 : hB s.R a g with
  | true => exact h.lam a g h1
  | false =>
   rw [h1] at hg
   simp only [Bool.false_or, Bool.and_eq_true] at hg
   exact h.lam q g hg.2
 nd := h.nd
 ids := h.ids
 B := h.B
 zero := fun id hid hn f => by
  show hB (inR s.R p q) (ixF e id) f = false
  rw [hB_in, h.zero id hid hn f, Bool.false_or]
  have : ¬ ixF e id = p := by
   rcases List.mem_append.1 hp with hp | hp
   ·have h1 : p ∈ y.P0.map Prod.fst := List.mem_map_of_mem (f := Prod.fst) hp
    rw [P0_fst, hy.len] at h1
    have := List.mem_range.1 h1
    unfold ixF
    omega
   ·obtain ⟨r, hr, h2⟩ := List.mem_map.1 hp
    intro h3
    have h4 : ixF e r.1 = p := congrArg Prod.fst h2
    exact hn r hr (ixF_inj (h.ids r hr) (h4.trans h3.symm))
  simp [this]
def FS.with (s : FS) (M : List (Int × Nat)) : FS := ⟨s.R, s.mv, M⟩
theorem FSOk.with {e : List Ex} {y : FY} {s : FS} (h : FSOk e y s) {id : Int} (hid : id ∈ e.flatMap bindersX) {b : Nat} {M : List (Int × Nat)} (hM : M = s.M ∨ (∀ p ∈ s.M, p.1 ≠ id) ∧ y.B ≤ b ∧ M = s.M ++ [(id, b)]) : FSOk e y (s.with M) := by
 rcases hM with rfl | ⟨h1, h2, rfl⟩
 ·exact h
 ·refine ⟨h.dim, h.lam, ?_, ?_, ?_, ?_⟩
  ·show ((s.M ++ [(id, b)]).map Prod.fst).Nodup
   rw [List.map_append, List.nodup_append]
   refine ⟨h.nd, by simp, fun a ha c hc => ?_⟩
   obtain ⟨p, hp, rfl⟩ := List.mem_map.1 ha
   have : c = id := by simpa using hc
   rw [this]
   exact h1 p hp
  ·intro p hp
   rcases List.mem_append.1 hp with hp | hp
   ·exact h.ids p hp
   ·obtain rfl := List.mem_singleton.1 hp
    exact hid
  ·intro p hp
   rcases List.mem_append.1 hp with hp | hp
   ·exact h.B p hp
   ·obtain rfl := List.mem_singleton.1 hp
    exact h2
  ·intro id2 hid2 hn f
   exact h.zero id2 hid2 (fun p hp => hn p (List.mem_append_left _ hp)) f
end Go.Co
namespace Go.Proofs.YtkpjndhgicbjjaaDoor.co
open Go.RowKit Go.Eng Go.Co
set_option maxRecDepth 100000
def flI (e : List Ex) (y : FY) (s : FS) (H : List Eng.Item) : List Eng.Item :=
 blk y.bs 56 (y.c s.mv) :: mapI y.bm (idM y.N.length s.M) :: bag y.B (setsI 67 y.N.length s.R (s.P e y)) :: row y.B y.O (some ⟨y.gn, 0, none⟩) y.N.length y.cn 52 1 (y.N.map (slW y.N.length)) :: H
theorem identI_calls (e : List Ex) (y : FY) (s : FS) (hy : FYOk e y) (hs : FSOk e y s) (id : Int) (hid : id ∈ e.flatMap bindersX) (H : List Eng.Item) (S : List World) (s0 : World) (hs0 : s0 ∈ S) (hB : y.B ≤ s0.heap.size) (w : World)
  (hc : Cls (flI e y s H) S w) :
  Calls Tryd.prog 47 [.pointer (some ⟨y.bs, 0, none⟩), .int .i64 id].toArray w fun r w' => ∃ b M', r = .returned (slW y.N.length b) ∧ (ixF e id, b) ∈ (s.with M').P e y ∧ FSOk e y (s.with M') ∧ Cls (flI e y (s.with M') H) S w' := by
 have hlen := hy.ok.len
 refine (ident_calls y.bs y.bm y.B y.N.length e hy.len id y.qe y.ce _ _ _ s.mv (by rw [hy.len]; exact hlen) s.R y.P0 s.M (fun h f => hs.zero id hid h f) _ S s0 hs0 hB w hc).mono ?_
 rintro r w' ⟨b, M', h1, h2, h3, h4⟩
 exact ⟨b, M', h1, List.mem_append_right _ (List.mem_map.2 ⟨(id, b), h2, rfl⟩), hs.with hid h3, h4⟩
theorem inR_self {R : FR} {p : Nat} : inR R p p = R := by
 unfold inR
 have h1 : orR (R.getD p []) (R.getD p []) = R.getD p [] := by
  refine List.ext_getElem? fun f => ?_
  unfold orR
  rw [List.getElem?_mapIdx]
  cases h : (R.getD p [])[f]? with
  | none => rfl
  | some v =>
   rw [List.getD_eq_getElem?_getD (l := R.getD p []), h]
   simp
 rw [h1]
 by_cases hp : p < R.length
 ·rw [List.getD_eq_getElem?_getD, List.getElem?_eq_getElem hp]
  simp
 ·exact List.set_eq_of_length_le (by omega)
theorem fst_one {P : List (Nat × Nat)} (h : (P.map Prod.fst).Nodup) {p b c : Nat} (hb : (p, b) ∈ P) (hc : (p, c) ∈ P) : b = c := by
 induction P with
 | nil => cases hb
 | cons x r ih =>
  rw [List.map_cons, List.nodup_cons] at h
  rcases List.mem_cons.1 hb with h1 | hb2
  ·rcases List.mem_cons.1 hc with h2 | hc2
   ·exact congrArg Prod.snd (h1.trans h2.symm)
   ·exact (h.1 (List.mem_map.2 ⟨(p, c), hc2, (show p = x.1 from congrArg Prod.fst h1)⟩)).elim
  ·rcases List.mem_cons.1 hc with h2 | hc2
   ·exact (h.1 (List.mem_map.2 ⟨(p, b), hb2, (show p = x.1 from congrArg Prod.fst h2)⟩)).elim
   ·exact ih h.2 hb2 hc2
theorem intoI_calls (e : List Ex) (y : FY) (s : FS) (hy : FYOk e y) (hs : FSOk e y s) (p b q c : Nat) (hp : (p, b) ∈ s.P e y) (hq : (q, c) ∈ s.P e y) (H : List Eng.Item) (S : List World) (w : World)
  (hc : Cls (flI e y s H) S w) :
  Calls Tryd.prog 46 [.pointer (some ⟨y.bs, 0, none⟩), slW y.N.length b, slW y.N.length c].toArray w fun r w' => r = .returned (.tuple #[]) ∧ FSOk e y (s.into p q) ∧ Cls (flI e y (s.into p q) H) S w' := by
 have hlen := hy.ok.len
 have hd := hs.dim
 rw [← hy.len] at hd
 have h1 : Cls (blk y.bs 56 (y.c s.mv) :: bag y.B (setsI 67 y.N.length s.R (s.P e y)) :: mapI y.bm (idM y.N.length s.M) :: row y.B y.O (some ⟨y.gn, 0, none⟩) y.N.length y.cn 52 1 (y.N.map (slW y.N.length)) :: H) S w := hc.perm (List.Perm.cons _ (List.Perm.swap _ _ _))
 by_cases hne : p = q
 ·subst hne
  obtain rfl := fst_one (P_nodup hy.len hs) hp hq
  refine (intoS_calls y.bs y.B y.N.length _ _ _ _ _ _ s.R (s.P e y) p b _ _ (by rw [hy.len]; exact hlen) hp (P_B hy hs) _ S w h1).mono ?_
  rintro r w' ⟨h2, h3⟩
  have h4 : s.into p p = s := by
   unfold FS.into
   rw [inR_self]
   simp
  refine ⟨h2, hs.into hy hp p, ?_⟩
  rw [h4]
  exact h3.perm (List.Perm.cons _ (List.Perm.swap _ _ _))
 refine (intoR_calls y.bs y.B y.N.length (rowsN e) _ _ _ _ _ s.mv s.R (s.P e y) p b q c _ _ hd (by rw [hy.len]; exact hlen) (P_lt hy hs _ hp) (P_lt hy hs _ hq) hp hq hne (P_nodup hy.len hs) (P_B hy hs) _ S w h1).mono ?_
 rintro r w' ⟨h2, h3⟩
 exact ⟨h2, hs.into hy hp q, h3.perm (List.Perm.cons _ (List.Perm.swap _ _ _))⟩
end Go.Proofs.YtkpjndhgicbjjaaDoor.co

/-
 DERIVED: THE SHELF's CONTRACTS AT THIS DUMP, IN PLAIN WORDS (tools/lay-plain.mjs out of 'YtkpjndhgicbjjaaDoorShelfD.lean', which tools/lay-shelf.mjs wrote): THE SAME DECLARATIONS UNDER THE SAME NAMES: 'import', 'namespace', 'open', 'def', 'theorem' AND NOTHING ELSE: no command of the shelf's: FOR A HAND-IN. Each laying: the table of numbers ('.._ren') and one theorem, a field a fact of the dump's own or the kernel's comparison; each contract: ONE APPLICATION.
-/
namespace Go.Proofs
open Go.Shelf
def Tryd.tz29_ren : Go.Shelf.Ren := ⟨fun | 29 => 24 | n => n, fun | 22 => 67 | 3 => 3 | 4 => 4 | 25 => 91 | 54 => 90 | 0 => 0 | 5 => 5 | n => n, fun | 1 => 0 | n => n⟩
theorem Tryd.tz29 : Go.Proofs.Lays7.n29 Tryd.prog Tryd.tz29_ren := {
 mixed := by kernel_rfl
 f29 := Tryd.func24.trans (congrArg some (by kernel_rfl))
 t0 := Tryd.underlying0
 a0 := Tryd.isAgg0
 z0 := Tryd.sizeOf0
 v0 := Tryd.zeroValue0
 i0 := by kernel_rfl
 t3 := Tryd.underlying3
 a3 := Tryd.isAgg3
 z3 := Tryd.sizeOf3
 v3 := Tryd.zeroValue3
 i3 := by kernel_rfl
 t4 := Tryd.underlying4
 a4 := Tryd.isAgg4
 z4 := Tryd.sizeOf4
 v4 := Tryd.zeroValue4
 i4 := by kernel_rfl
 t5 := Tryd.underlying5
 a5 := Tryd.isAgg5
 z5 := Tryd.sizeOf5
 v5 := Tryd.zeroValue5
 i5 := by kernel_rfl
 t22 := Tryd.underlying67
 a22 := Tryd.isAgg67
 z22 := Tryd.sizeOf67
 v22 := Tryd.zeroValue67
 i22 := by kernel_rfl
 t25 := Tryd.underlying91
 a25 := Tryd.isAgg91
 z25 := Tryd.sizeOf91
 v25 := Tryd.zeroValue91
 i25 := by kernel_rfl
 t54 := Tryd.underlying90
 a54 := Tryd.isAgg90
 z54 := Tryd.sizeOf90
 g1 := by kernel_rfl }
end Go.Proofs

/- The walk of flow's set.all: a function is called for each fact of a set, in increasing order. Conditions: none. -/
namespace Go.Eng
open Go.RowKit
section
variable {P : Program} {n : Nm} {l : Env} {C : World → Prop} {c : Bool} {d : Option Nat} {ty : TypeId} {pos : String} {af : Array Edge} {g : Option (Nat × Bool)} {t : TypeId} {x : Operand} {cx : Bool}
theorem Pev.load_w1 {a : Addr} {v : Value} (hx : evl l x = some (cx, .pointer (some a))) (hcx : c = true → cx = true) (hs : scalB P t = true) (hf : c = true → ∀ w, C w → w.cell? a = some v) : Pev P n l C ⟨d, .load t x, ty, pos, af, g⟩ c v :=
 .load_of hx hcx fun h w hw => run_loadVar_scal hs (hf h w hw)
end
end Go.Eng
namespace Go.Proofs.YtkpjndhgicbjjaaDoor.co
open Go.RowKit Go.Eng Go.Co
set_option maxRecDepth 100000
def tzAt (w : World) : Prop := TabAt 0 Lib.deBruijn64tab w
theorem tz_calls (x : Nat) (w : World) (hx : x < 18446744073709551616) (hT : tzAt w) : Calls Tryd.prog 24 [.int .u64 (x : Int)].toArray w fun e w' => e = .returned (.int .i64 (Lib.ctz 64 x : Int)) ∧ Ext w w' :=
 (Any7.bits_TrailingZeros64 Tryd.tz29 x hx w (fun _ => hT)).mono fun e w' h => by
  obtain ⟨h1, h2⟩ := h
  subst h2
  exact ⟨h1, Ext.of_below ⟨rfl, rfl, rfl, Nat.le_refl _, fun k hk => rfl⟩⟩
theorem skip_to {σ : Type} {φ : Nat → σ → Prop} {r : List Bool} (hskip : ∀ g x, r.getD g false = false → φ g x → φ (g + 1) x) {x : σ} {a : Nat} (h : φ a x) : ∀ k, (∀ j, a ≤ j → j < a + k → r.getD j false = false) → φ (a + k) x
 | 0, _ => h
 | k + 1, hh => hskip (a + k) x (hh _ (by omega) (by omega)) (skip_to hskip h k fun j h1 h2 => hh j h1 (by omega))
theorem all_calls {σ : Type} (f : FuncId) (first caps : List Value) (hf : callable Tryd.prog f = true) (bA ca n : Nat) (hn : n ≤ 4096) (r : List Bool) (I : σ → List Eng.Item) (S : List World) (φ : Nat → σ → Prop)
  (hT : ∀ x w, Cls (I x) S w → tzAt w)
  (hread : ∀ x w, (∃ c, φ c x) → Cls (I x) S w → CellsAt w ⟨bA, 0, none⟩ (u64s (wordsB n r)))
  (hstep : ∀ g x w, r.getD g false = true → φ g x → Cls (I x) S w → Calls Tryd.prog f (first ++ [Value.int .i64 (g : Int)] ++ caps).toArray w fun e w' => ∃ x', e = .returned (.bool true) ∧ φ (g + 1) x' ∧ Cls (I x') S w')
  (hskip : ∀ g x, r.getD g false = false → φ g x → φ (g + 1) x)
  (x0 : σ) (h0 : φ 0 x0) (w : World) (hc : Cls (I x0) S w) :
  Calls Tryd.prog 16 [.slice (some ⟨bA, 0, none⟩) (n / 64 + 1) ca, .func (.func f) first.toArray caps.toArray].toArray w fun e w' => e = .returned (.tuple #[]) ∧ ∃ x', φ (64 * (n / 64 + 1)) x' ∧ Cls (I x') S w' := by
 refine enter Tryd.func16 rfl Tryd.ntmps16 rfl hc ?_
 (simp only [argEnv, Nat.zero_add, Nat.reduceAdd])
 apply W.sr
 apply omv; rfl; rfl
 apply oop; rfl; apply Pev.len_slice; rfl; exact yes; rfl
 apply omv; rfl; rfl
 apply OL.nx
 apply W.block
 refine W.loop (G := Nat × σ) (fun g => g.1 ≤ n / 64 + 1 ∧ φ (64 * g.1) g.2) (fun g => n / 64 + 1 - g.1)
  (fun g => [(1, true, .func (.func f) first.toArray caps.toArray), (6, true, .slice (some ⟨bA, 0, none⟩) (n / 64 + 1) ca), (7, true, .int .i64 ((n / 64 + 1 : Nat) : Int)), (8, true, .int .i64 (g.1 : Int))])
  (fun g => Cls (I g.2) S) (0, x0) ⟨Nat.zero_le _, h0⟩ (by exact Sub.au) (fun w' hw' => hw') ?_
 rintro ⟨i, x⟩ ⟨hi, hx⟩
 simp only at hi hx ⊢
 apply W.sr
 apply obn; rfl; rfl; rfl; apply Bin.lss
 apply OL.nx
 apply W.seq
 (refine W.cnd (fun hlt => ?_) (fun hlt => ?_)) <;> (try (exfalso; first | omega | exact hlt trivial | contradiction))
 ·have hil : i < n / 64 + 1 := by omega
  have hcw : ∀ w', Cls (I x) S w' → w'.cell? ⟨bA, 0 + (i : Int).toNat * 1, none⟩ = some (.int .u64 (wordB r i : Int)) := fun w' hw' => by
   have := hread x w' ⟨_, hx⟩ hw' i _ (u64s_get (wordsB_get r hil))
   rw [add_mid] at this
   rw [← this]
   congr 2
   omega
  apply W.sk
  apply W.sb
  apply W.sr
  apply omv; rfl; rfl
  apply oop; rfl; apply Pev.idxB; rfl; exact yes; rfl; exact yes; rfl; intro hcond; omega; rfl
  (((first | (with_reducible apply OL.op) | (with_reducible apply QL.op)); (exact Guard.au); rfl; rfl); (apply Pev.load_w1; rfl; ((first | exact fun _ => rfl | exact fun h => h | (intro h; simp_all; done))); rfl; exact fun _ w' hw' => hcw w' hw'))
  apply oas; rfl; rfl
  apply oas; rfl; rfl
  apply OL.nx
  apply W.block
  refine W.loop (G := Nat × Nat × σ) (fun g => g.1 < 18446744073709551616 ∧ hiW (wordB r i) g.2.1 g.1 ∧ g.2.1 ≤ 64 ∧ φ (64 * i + g.2.1) g.2.2) (fun g => 64 - g.2.1)
   (fun g => [(1, true, .func (.func f) first.toArray caps.toArray), (4, true, .int .i64 (i : Int)), (5, true, .int .u64 (g.1 : Int)), (6, true, .slice (some ⟨bA, 0, none⟩) (n / 64 + 1) ca), (7, true, .int .i64 ((n / 64 + 1 : Nat) : Int)), (8, true, .int .i64 (i : Int))])
   (fun g => Cls (I g.2.2) S) (wordB r i, 0, x) ⟨word_lt r i, hiW_zero _, Nat.zero_le _, hx⟩ (by exact Sub.au) (fun w' hw' => hw') ?_
  rintro ⟨y, c, x1⟩ ⟨hy, hhi, hc64, hx1⟩
  simp only at hy hhi hc64 hx1 ⊢
  apply W.seq
  apply W.sr
  apply omv; rfl; rfl
  apply obn; rfl; rfl; rfl; apply Bin.neq
  apply OL.nx
  (refine W.cnd (fun hne => ?_) (fun hne => ?_)) <;> (try (exfalso; first | omega | exact hne trivial | contradiction))
  ·have hy0 : y ≠ 0 := by omega
   obtain ⟨g1, g2, g3, g4, g5⟩ := hiW_next hhi (word_lt r i) hy0 hy
   obtain ⟨tz, htz⟩ : ∃ tz, Lib.ctz 64 y = tz := ⟨_, rfl⟩
   rw [htz] at g1 g2 g3 g4 g5
   apply W.sk
   apply W.sb
   apply W.sr
   apply omv; rfl; rfl
   apply omv; rfl; rfl
   apply obn; rfl; rfl; rfl; apply Bin.mul_in; omega
   apply omv; rfl; rfl
   (((first | (with_reducible apply OL.op) | (with_reducible apply QL.op)); (exact Guard.au); rfl; rfl); (exact Pev.call (v := .int .i64 (tz : Int)) rfl (by exact Args.au) (fun _ w2 hw2 => (tz_calls y w2 hy (hT x1 w2 hw2)).mono (fun e w3 h => ⟨by rw [h.1, htz], hw2.ext h.2⟩))))
   have hgg : r.getD (64 * i + tz) false = true := by
    have := word_bit r i tz
    rw [g3] at this
    simp only [g2, decide_true, Bool.true_and] at this
    exact this.symm
   have hx2 : φ (64 * i + tz) x1 := by
    have := skip_to hskip hx1 (tz - c) (fun j h1 h2 => by
     have h3 := g4 (j - 64 * i) (by omega) (by omega)
     rw [word_bit, show 64 * i + (j - 64 * i) = j by omega] at h3
     simpa [show j - 64 * i < 64 by omega] using h3)
    rwa [show 64 * i + c + (tz - c) = 64 * i + tz by omega] at this
   apply obn; rfl; rfl; rfl; apply Bin.add_in; omega
   refine OL.callvE (α := σ) (first := first) (cap := caps) (vs := [.int .i64 ((64 * i + tz : Nat) : Int)]) (fun _ => .bool true) (fun x' => φ (64 * i + tz + 1) x') (fun x' => Cls (I x') S) rfl rfl hf (by exact Args.au) (fun w2 hw2 => (hstep (64 * i + tz) x1 w2 hgg hx2 hw2).mono fun e w3 ⟨x', h1, h2, h3⟩ => ⟨x', h1, h2, h3⟩) ?_
   intro x2 hx3
   apply oop; rfl; apply Pev.not; rfl; exact yes
   apply OL.nx
   refine W.cond rfl (fun h => by cases h) (fun _ => ?_)
   apply W.skip
   with_reducible apply At.in_normal
   with_reducible apply At.next
   apply W.reg
   apply omv; rfl; rfl
   apply omv; rfl; rfl
   apply obn; rfl; rfl; rfl; apply Bin.sub
   apply obn; rfl; rfl; rfl; apply Bin.and
   apply oas; rfl; rfl
   apply OL.nil
   have e1 : IntKind.u64.wrap ((y : Int) - 1) = ((y - 1 : Nat) : Int) := by rw [IntKind.wrap_u64]; omega
   have e2 : bits .and .u64 (y : Int) (IntKind.u64.wrap ((y : Int) - 1)) = ((y &&& (y - 1) : Nat) : Int) := by
    rw [e1]
    exact bits_and_u64_nat y (y - 1) hy (by omega)
   rw [e2]
   exact At.again (y &&& (y - 1), tz + 1, x2) ⟨and_lt hy, g5, g2, hx3⟩ (by simp only; omega) (by exact Sub.au) (fun w' hw' => hw')
  ·obtain rfl : y = 0 := by omega
   have hx4 : φ (64 * (i + 1)) x1 := by
    have := skip_to hskip hx1 (64 - c) (fun j h1 h2 => by
     have h3 := hiW_end hhi (j - 64 * i) (by omega)
     rw [word_bit, show 64 * i + (j - 64 * i) = j by omega] at h3
     simpa [show j - 64 * i < 64 by omega] using h3)
    rwa [show 64 * i + c + (64 - c) = 64 * (i + 1) by omega] at this
   refine W.xt ?_
   with_reducible apply At.in_normal
   with_reducible apply At.next
   apply W.reg
   apply obn; rfl; rfl; rfl; apply Bin.add_in; omega
   apply omv; rfl; rfl
   apply OL.nil
   exact At.again (i + 1, x1) ⟨by omega, hx4⟩ (by simp only; omega) (by exact Sub.au) (fun w' hw' => hw')
 ·obtain rfl : i = n / 64 + 1 := by omega
  refine W.xt ?_
  refine At.end_ (At.fin0 rfl (fun w' hw' => ⟨rfl, x, hx, hw'⟩))
end Go.Proofs.YtkpjndhgicbjjaaDoor.co

/- What the solver's steps do, as lists of rules; the walks of flow's call and its function. Conditions: none. -/
namespace Go.Co
open Go.Eng
structure FStep (e : List Ex) (y : FY) (s : FS) (l : List (Nat × Nat)) (s' : FS) : Prop where
 R : s'.R = inAll s.R l
 mv : s'.mv = (s.mv || !decide (inAll s.R l = s.R))
 ok : FSOk e y s'
theorem FStep.nil {e : List Ex} {y : FY} {s : FS} (h : FSOk e y s) : FStep e y s [] s := ⟨rfl, by simp [inAll], h⟩
theorem FStep.app {e : List Ex} {y : FY} {s s' s'' : FS} {l k : List (Nat × Nat)} (h0 : FSOk e y s) (h : FStep e y s l s') (h' : FStep e y s' k s'') : FStep e y s (l ++ k) s'' where
 R := by rw [h'.R, h.R, inAll_app]
 mv := by
  rw [h'.mv, h.mv, h.R, inAll_app]
  by_cases h1 : inAll (inAll s.R l) k = s.R
  ·have h2 : inAll s.R l = s.R := FLe.anti (h0.dim.all l) h0.dim (by have := FLe.all (inAll s.R l) k; rw [h1] at this; exact this) (.all _ _)
   rw [h2] at h1 ⊢
   simp [h1]
  ·by_cases h2 : inAll s.R l = s.R
   ·rw [h2] at h1 ⊢
    simp [h1]
   ·simp [h1, h2]
 ok := h'.ok
theorem FStep.with {e : List Ex} {y : FY} {s s' : FS} {M : List (Int × Nat)} {l : List (Nat × Nat)} (h : FStep e y (s.with M) l s') : FStep e y s l s' := ⟨h.R, h.mv, h.ok⟩
theorem FStep.one {e : List Ex} {y : FY} {s : FS} {p q : Nat} (h : FSOk e y (s.into p q)) : FStep e y s [(p, q)] (s.into p q) := ⟨rfl, rfl, h⟩
theorem inAll_getD {R : FR} {l : List (Nat × Nat)} {r : Nat} (h : ∀ p ∈ l, p.1 ≠ r) : (inAll R l).getD r [] = R.getD r [] := by
 induction l generalizing R with
 | nil => rfl
 | cons p k ih =>
  show (inAll (inR R p.1 p.2) k).getD r [] = _
  rw [ih fun q hq => h q (.tail _ hq), getD_in_ne (fun hh => h p (.head _) hh.symm)]
theorem P_node {e : List Ex} {y : FY} {s : FS} {i b : Nat} (h : y.N[i]? = some b) : (i, b) ∈ s.P e y :=
 List.mem_append_left _ (List.mem_append_left _ (List.mem_map.2 ⟨(b, i), List.mem_zipIdx_iff_getElem?.2 h, rfl⟩))
theorem P_heap {e : List Ex} {y : FY} {s : FS} : (y.N.length, y.bh) ∈ s.P e y := List.mem_append_left _ (List.mem_append_right _ (.head _))
theorem P_again {e : List Ex} {y : FY} {s : FS} : (y.N.length + 1, y.ba) ∈ s.P e y := List.mem_append_left _ (List.mem_append_right _ (.tail _ (.head _)))
theorem eCall_ne {e : List Ex} (h : FOk e) {i : Nat} {x : Ex} (hx : e[i]? = some x) (g : Nat) : ∀ p ∈ eCall e.length (ixF e) e i x g, p.1 = i ∨ e.length ≤ p.1 := by
 intro p hp
 unfold eCall at hp
 split at hp
 ·simp only [List.mem_cons, List.not_mem_nil, or_false] at hp
  rcases hp with rfl | rfl
  ·exact .inr (Nat.le_refl _)
  ·exact .inl rfl
 ·split at hp
  ·split at hp
   ·rcases List.mem_append.1 hp with h1 | h1
    ·obtain ⟨k, _, rfl⟩ := List.mem_map.1 h1
     exact .inr (by simp only [ixF]; omega)
    ·simp only [List.mem_cons, List.not_mem_nil, or_false] at h1
     subst h1
     exact .inl rfl
   ·cases hp
  ·cases hp
end Go.Co
namespace Go.Proofs.YtkpjndhgicbjjaaDoor.co
open Go.RowKit Go.Eng Go.Co
set_option maxRecDepth 100000
def caI (y : FY) (b1 b2 b3 : Nat) (qa : Option Addr) (na ca i : Nat) (H : List Eng.Item) : List Eng.Item :=
 blk b1 48 [.pointer (some ⟨y.bs, 0, none⟩)] :: blk b2 33 [.slice qa na ca] :: blk b3 3 [.int .i64 (i : Int)] :: H
theorem call1_calls (s0 : World) (es : List (Ex × ExY)) (e : List Ex) (hee : es.map Prod.fst = e) (y : FY) (hy : FYOk e y) (he : Arr exR s0 (low s0) es y.qe) (hB : y.B = s0.heap.size) (hbs : s0.heap.size ≤ y.bs) (hbm : s0.heap.size ≤ y.bm) (i : Nat) (x : Ex) (hx : e[i]? = some x) (ho : x.op = 3) (qa : Option Addr) (ca : Nat) (hargs : IntsO s0 (low s0) (x.kids.drop 1) qa)
  (b1 b2 b3 : Nat) (hb1 : s0.heap.size ≤ b1) (hb2 : s0.heap.size ≤ b2) (hb3 : s0.heap.size ≤ b3) (s : FS) (hs : FSOk e y s) (g : Nat) (hg : g = e.length ∨ ∃ z, e[g]? = some z ∧ z.op = 2) (H : List Eng.Item) (hno : ∀ k, k < s0.heap.size → NotOwned H k) (S : List World) (hs0 : s0 ∈ S) (hSS : ∀ s ∈ S, s.heap.size ≤ s0.heap.size) (w : World)
  (hc : Cls (flI e y s (caI y b1 b2 b3 qa (x.kids.length - 1) ca i H)) S w) :
  Calls Tryd.prog 62 [.int .i64 (g : Int), .pointer (some ⟨b1, 0, none⟩), .pointer (some ⟨b2, 0, none⟩), .pointer (some ⟨b3, 0, none⟩)].toArray w fun r w' => ∃ s', r = .returned (.bool true) ∧ FStep e y s (eCall e.length (ixF e) e i x g) s' ∧ Cls (flI e y s' (caI y b1 b2 b3 qa (x.kids.length - 1) ca i H)) S w' := by
 have hsh := hy.ok.sh i x hx
 have hn := hy.len
 have hlen := hy.ok.len
 have hk1 := hsh.app ho
 have hel : e.length = es.length := by rw [← hee, List.length_map]
 have hil := (List.getElem?_eq_some_iff.1 hx).1
 refine enter Tryd.func62 rfl Tryd.ntmps62 rfl hc ?_
 (simp only [argEnv, Nat.zero_add, Nat.reduceAdd])
 unfold flI caI FY.c
 apply W.sr
 apply oas; rfl; rfl
 apply OL.nx
 apply W.sb
 apply W.sr
 apply omv; rfl; rfl
 apply old; rfl; rfl; apply List.Mem.tail; apply List.Mem.tail; exact .tail _ (.tail _ (.head _)); rfl; rfl
 apply oop; rfl; apply Pev.nil_ptr; rfl; exact yes
 apply ofa; rfl; rfl; rfl
 apply old; rfl; rfl; exact .head _; rfl; rfl
 apply oop; rfl; apply Pev.len_slice; rfl; exact yes; rfl
 apply obn; rfl; rfl; rfl; apply Bin.eql
 apply omv; rfl; rfl
 apply oy; rfl; rfl; rfl; apply Pev.load_blk; rfl; exact yes; apply List.Mem.tail; apply List.Mem.tail; apply List.Mem.tail; exact .tail _ (.tail _ (.head _)); rfl; rfl
 apply oy; rfl; rfl; rfl; apply Pev.len_slice; rfl; exact fun h => h; rfl
 apply oy; rfl; rfl; rfl; apply Pev.bin; rfl; exact fun h => h; rfl; exact yes; intro hcond; apply Bin.eql
 apply oop; rfl; apply Pev.pick_and; rfl; exact yes; rfl; exact fun h => h
 apply oas; rfl; rfl
 apply OL.nx
 refine W.cond rfl (fun h => ?_) (fun h => ?_)
 ·have h1 : g = e.length ∧ x.kids.length = 2 := by simp only [Bool.and_eq_true, decide_eq_true_eq] at h; omega
  obtain ⟨a0, u0, rfl, hab0, hu0, hcell⟩ := hargs.get (show 0 < (x.kids.drop 1).length by rw [List.length_drop]; omega)
  obtain ⟨hk, hke⟩ := hy.ok.kid hx (k := 1) (by omega)
  have hu : u0 = (kidN x 1 : Int) := by
   rw [List.getElem?_drop] at hu0
   exact Option.some.inj (hu0.symm.trans hke)
  subst hu
  have hab0 : a0.block < s0.heap.size := hab0
  have hcell : s0.cell? (a0.add (0 * 1)) = some (.int .i64 (kidN x 1 : Int)) := hcell
  have hec : eCall e.length (ixF e) e i x g = [(e.length, kidN x 1), (i, e.length)] := by
   unfold eCall
   rw [if_pos h1]
  obtain ⟨k1, hk1'⟩ : ∃ k1, kidN x 1 = k1 := ⟨_, rfl⟩
  rw [hk1'] at hcell hk hec
  obtain ⟨bk1, hbk1⟩ : ∃ b, y.N[k1]? = some b := ⟨y.N[k1], List.getElem?_eq_getElem (by omega)⟩
  obtain ⟨bi, hbi⟩ : ∃ b, y.N[i]? = some b := ⟨y.N[i], List.getElem?_eq_getElem (by omega)⟩
  have hrow : (y.N.map (slW y.N.length))[0 + (k1 : Int).toNat * 1]? = some (slW y.N.length bk1) := by
   rw [show 0 + (k1 : Int).toNat * 1 = k1 by omega, List.getElem?_map, hbk1]
   rfl
  have hrowi : (y.N.map (slW y.N.length))[0 + (i : Int).toNat * 1]? = some (slW y.N.length bi) := by
   rw [show 0 + (i : Int).toNat * 1 = i by omega, List.getElem?_map, hbi]
   rfl
  apply W.seq
  refine W.regn 14 (by (repeat (first | exact SplitN.z | apply SplitN.s))) (by kernel_rfl) (by decide +kernel) (fun w hw => hw.drew) ?_
  apply qld; rfl; rfl; apply List.Mem.tail; apply List.Mem.tail; exact .tail _ (.tail _ (.head _)); rfl; rfl
  apply qld; rfl; rfl; apply List.Mem.tail; apply List.Mem.tail; exact .tail _ (.tail _ (.head _)); rfl; rfl
  apply qop; rfl; apply Pev.nil_ptr; rfl; exact yes
  apply qfa; rfl; rfl; rfl
  apply qld; rfl; rfl; exact .head _; rfl; rfl
  apply qld; rfl; rfl; apply List.Mem.tail; apply List.Mem.tail; exact .tail _ (.tail _ (.head _)); rfl; rfl
  apply qop; rfl; apply Pev.nil_ptr; rfl; exact yes
  apply qfa; rfl; rfl; rfl
  apply qld; rfl; rfl; exact .head _; rfl; rfl
  apply qld; rfl; rfl; apply List.Mem.tail; apply List.Mem.tail; apply List.Mem.tail; exact .tail _ (.tail _ (.head _)); rfl; rfl
  apply qop; rfl; apply Pev.idx; rfl; exact yes; rfl; exact yes; rfl; rfl; intro hcond; (simp only [Bool.and_eq_true, Bool.or_eq_true, Bool.not_eq_true', decide_eq_true_eq, decide_eq_false_iff_not] at *; omega)
  apply qop; rfl; apply Pev.load_kept; rfl; exact yes; assumption; rfl; intro hcond; assumption; intro hcond; assumption; intro hcond; (focus ((try simp only [add_block]); (repeat (first | exact NotOwned.nil | exact hno _ (by omega) | exact hnr _ (by omega) | refine NotOwned.any (hXn _ (by omega)) ?_ | refine NotOwned.blk (by omega) ?_ | refine NotOwned.row (by omega) ?_ | refine NotOwned.rws (by omega) ?_ | refine NotOwned.pile (by omega) ?_ | refine NotOwned.pool (by omega) ?_ | refine NotOwned.bag (by omega) ?_ | refine NotOwned.mapI (by omega) ?_ | apply NotOwned.bif | refine NotOwned.nothing ?_)); done))
  apply qop; rfl; apply Pev.idxB; rfl; exact yes; rfl; exact yes; rfl; intro hcond; omega; rfl
  apply qop; rfl; apply Pev.load_row; rfl; exact yes; apply List.Mem.tail; exact .tail _ (.tail _ (.head _)); rfl; assumption
  with_reducible apply QL.tail
  refine OL.callE (α := Unit) (fun _ => .tuple #[]) (fun _ => FSOk e y (s.into e.length k1)) (fun _ => Cls (flI e y (s.into e.length k1) (caI y b1 b2 b3 (some a0) (x.kids.length - 1) ca i H)) S) rfl rfl (by exact Args.au) (fun w2 hw2 => (intoI_calls e y s hy hs e.length y.bh k1 bk1 (by rw [← hn]; exact P_heap) (P_node hbk1) _ S w2 hw2).mono (fun e1 w3 ⟨h1, h2, h3⟩ => ⟨(), h1, h2, h3⟩)) ?_
  rintro ⟨⟩ hs1
  unfold flI caI FY.c
  apply OL.nx
  refine W.regn 12 (by (repeat (first | exact SplitN.z | apply SplitN.s))) (by kernel_rfl) (by decide +kernel) (fun w hw => hw.drew) ?_
  apply qld; rfl; rfl; apply List.Mem.tail; apply List.Mem.tail; exact .tail _ (.tail _ (.head _)); rfl; rfl
  apply qld; rfl; rfl; apply List.Mem.tail; apply List.Mem.tail; exact .tail _ (.tail _ (.head _)); rfl; rfl
  apply qop; rfl; apply Pev.nil_ptr; rfl; exact yes
  apply qfa; rfl; rfl; rfl
  apply qld; rfl; rfl; exact .head _; rfl; rfl
  apply qld; rfl; rfl; apply List.Mem.tail; apply List.Mem.tail; apply List.Mem.tail; apply List.Mem.tail; exact .tail _ (.tail _ (.head _)); rfl; rfl
  apply qop; rfl; apply Pev.idxB; rfl; exact yes; rfl; exact yes; rfl; intro hcond; omega; rfl
  apply qop; rfl; apply Pev.load_row; rfl; exact yes; apply List.Mem.tail; exact .tail _ (.tail _ (.head _)); rfl; assumption
  apply qld; rfl; rfl; apply List.Mem.tail; apply List.Mem.tail; exact .tail _ (.tail _ (.head _)); rfl; rfl
  apply qop; rfl; apply Pev.nil_ptr; rfl; exact yes
  apply qfa; rfl; rfl; rfl
  apply qld; rfl; rfl; exact .head _; rfl; rfl
  with_reducible apply QL.tail
  refine OL.callE (α := Unit) (fun _ => .tuple #[]) (fun _ => FSOk e y ((s.into e.length k1).into i e.length)) (fun _ => Cls (flI e y ((s.into e.length k1).into i e.length) (caI y b1 b2 b3 (some a0) (x.kids.length - 1) ca i H)) S) rfl rfl (by exact Args.au) (fun w2 hw2 => (intoI_calls e y _ hy hs1 i bi e.length y.bh (P_node hbi) (by rw [← hn]; exact P_heap) _ S w2 hw2).mono (fun e1 w3 ⟨h1, h2, h3⟩ => ⟨(), h1, h2, h3⟩)) ?_
  rintro ⟨⟩ hs2
  apply OL.nil
  with_reducible apply At.in_normal
  with_reducible apply At.next
  apply W.sr
  apply oas; rfl; rfl
  apply OL.nx
  apply W.ret
  ((with_reducible apply At.fin1); rfl; rfl; intro w' hw')
  rw [hec]
  exact ⟨_, rfl, FStep.app hs (.one hs1) (.one hs2), hw'⟩
 ·have hnc : ¬ (g = e.length ∧ x.kids.length = 2) := by intro hh; simp only [Bool.and_eq_false_iff, decide_eq_false_iff_not] at h; omega
  rcases hg with rfl | ⟨z, hz, hoz⟩
  ·have hec : eCall e.length (ixF e) e i x e.length = [] := by
    unfold eCall
    rw [if_neg hnc, List.getElem?_eq_none (Nat.le_refl _)]
   rw [← hn] at hec ⊢
   apply W.seq
   apply W.regd0; decide +kernel; kernel_rfl; decide +kernel; exact fun w hw => hw.drew
   apply qmv; rfl; rfl
   apply qld; rfl; rfl; apply List.Mem.tail; apply List.Mem.tail; exact .tail _ (.tail _ (.head _)); rfl; rfl
   apply qop; rfl; apply Pev.nil_ptr; rfl; exact yes
   apply qfa; rfl; rfl; rfl
   apply qld; rfl; rfl; exact .head _; rfl; rfl
   apply qop; rfl; apply Pev.len_slice; rfl; exact yes; rfl
   apply qbn; rfl; rfl; rfl; apply Bin.lss
   apply qmv; rfl; rfl
   apply qy; rfl; rfl; rfl; apply Pev.load_blk; rfl; exact yes; apply List.Mem.tail; apply List.Mem.tail; exact .tail _ (.tail _ (.head _)); rfl; rfl
   apply qy; rfl; rfl; rfl; apply Pev.nil_ptr; rfl; exact fun h => h
   apply qy; rfl; rfl; rfl; apply Pev.fld; rfl; exact fun h => h; rfl
   apply qy; rfl; rfl; rfl; apply Pev.load_blk; rfl; exact fun h => h; exact .head _; rfl; rfl
   apply qy; rfl; rfl; rfl; apply Pev.move; rfl; exact yes
   apply QL.gateOff; exact Guard.yes rfl rfl; (focus (simp; done)); rfl
   apply QL.gateOff; exact Guard.yes rfl rfl; (focus (simp; done)); rfl
   apply QL.gateOff; exact Guard.yes rfl rfl; (focus (simp; done)); rfl
   apply QL.gateOff; exact Guard.yes rfl rfl; (focus (simp; done)); rfl
   apply qy; rfl; rfl; rfl; apply Pev.load_blk; rfl; exact yes; apply List.Mem.tail; apply List.Mem.tail; apply List.Mem.tail; exact .tail _ (.tail _ (.head _)); rfl; rfl
   apply qy; rfl; rfl; rfl; apply Pev.len_slice; rfl; exact fun h => h; rfl
   apply QL.gateOff; exact Guard.yes rfl rfl; (focus (simp; done)); rfl
   apply qop; rfl; apply Pev.pick_off; rfl; exact yes; (focus (intro hcond; simp; done)); rfl; exact yes
   apply qas; rfl; rfl
   apply QL.nil
   with_reducible apply At.next
   refine W.cond rfl (fun h5 => ?_) (fun h5 => ?_)
   ·simp at h5
   apply W.skip
   with_reducible apply At.in_normal
   with_reducible apply At.next
   apply W.sr
   apply oas; rfl; rfl
   apply OL.nx
   apply W.ret
   ((with_reducible apply At.fin1); rfl; rfl; intro w' hw')
   rw [hec]
   exact ⟨_, rfl, .nil hs, hw'⟩
  have hgl := (List.getElem?_eq_some_iff.1 hz).1
  obtain ⟨a, p, hqa, hab, hp, hcell, hok⟩ := he.get (show g < es.length by omega)
  have hpz : p.1 = z := by
   have h5 : (es.map Prod.fst)[g]? = some p.1 := by rw [List.getElem?_map, hp]; rfl
   rw [hee, hz] at h5
   exact (Option.some.inj h5).symm
  subst hpz
  have hab : a.block < s0.heap.size := hab
  have hcell : CellsAt s0 (a.add (g * 5)) [.int .i64 p.1.op, .int .i64 p.1.n, .slice p.2.b.1 p.1.binds.length p.2.b.2, .slice p.2.k.1 p.1.kids.length p.2.k.2, .slice p.2.a.1 p.1.alts.length p.2.a.2] := hcell
  have hbl := hok.bl
  rw [hqa]
  have hLim : ∀ k, s0.heap.size ≤ k → AllLe S k := fun k hk => AllLe.of fun s hs => Nat.le_trans (hSS s hs) hk
  apply W.seq
  apply W.regd0; decide +kernel; kernel_rfl; decide +kernel; exact fun w hw => hw.drew
  apply qmv; rfl; rfl
  apply qld; rfl; rfl; apply List.Mem.tail; apply List.Mem.tail; exact .tail _ (.tail _ (.head _)); rfl; rfl
  apply qop; rfl; apply Pev.nil_ptr; rfl; exact yes
  apply qfa; rfl; rfl; rfl
  apply qld; rfl; rfl; exact .head _; rfl; rfl
  apply qop; rfl; apply Pev.len_slice; rfl; exact yes; rfl
  apply qbn; rfl; rfl; rfl; apply Bin.lss
  apply qmv; rfl; rfl
  apply qy; rfl; rfl; rfl; apply Pev.load_blk; rfl; exact yes; apply List.Mem.tail; apply List.Mem.tail; exact .tail _ (.tail _ (.head _)); rfl; rfl
  apply qy; rfl; rfl; rfl; apply Pev.nil_ptr; rfl; exact fun h => h
  apply qy; rfl; rfl; rfl; apply Pev.fld; rfl; exact fun h => h; rfl
  apply qy; rfl; rfl; rfl; apply Pev.load_blk; rfl; exact fun h => h; exact .head _; rfl; rfl
  apply qy; rfl; rfl; rfl; apply Pev.move; rfl; exact yes
  apply qy; rfl; rfl; rfl; apply Pev.idx; rfl; exact fun h => h; rfl; exact fun h => h; rfl; rfl; intro hcond; omega
  apply qy; rfl; rfl; rfl; apply Pev.fldA; rfl; exact fun h => h; rfl
  apply qy; rfl; rfl; rfl; apply Pev.load_kept; rfl; exact fun h => h; assumption; rfl; intro hcond; apply CellsAt.at_ (by assumption) rfl; intro hcond; (simp only [add_block]; assumption); intro hcond; (focus ((try simp only [add_block]); (repeat (first | exact NotOwned.nil | exact hno _ (by omega) | exact hnr _ (by omega) | refine NotOwned.any (hXn _ (by omega)) ?_ | refine NotOwned.blk (by omega) ?_ | refine NotOwned.row (by omega) ?_ | refine NotOwned.rws (by omega) ?_ | refine NotOwned.pile (by omega) ?_ | refine NotOwned.pool (by omega) ?_ | refine NotOwned.bag (by omega) ?_ | refine NotOwned.mapI (by omega) ?_ | apply NotOwned.bif | refine NotOwned.nothing ?_)); done))
  apply qy; rfl; rfl; rfl; apply Pev.len_slice; rfl; exact fun h => h; rfl
  apply qy; rfl; rfl; rfl; apply Pev.load_blk; rfl; exact yes; apply List.Mem.tail; apply List.Mem.tail; apply List.Mem.tail; exact .tail _ (.tail _ (.head _)); rfl; rfl
  apply qy; rfl; rfl; rfl; apply Pev.len_slice; rfl; exact fun h => h; rfl
  apply qy; rfl; rfl; rfl; apply Pev.bin; rfl; exact fun h => h; rfl; exact fun h => h; intro hcond; apply Bin.eql
  apply qop; rfl; apply Pev.pick_and; rfl; exact yes; rfl; exact fun h => h
  apply qas; rfl; rfl
  apply QL.nil
  with_reducible apply At.next
  refine W.cond rfl (fun h5 => ?_) (fun h5 => ?_)
  ·have h6 : p.1.binds.length + 1 = x.kids.length := by simp only [Bool.and_eq_true, decide_eq_true_eq] at h5; omega
   have hec : eCall e.length (ixF e) e i x g = ((List.range p.1.binds.length).map fun k => (ixF e (p.1.binds.getD k 0), kidN x (k + 1))) ++ [(i, kidN p.1 0)] := by
    unfold eCall
    rw [if_neg hnc, hz]
    simp only
    rw [if_pos h6]
   apply W.seq
   apply W.sr
   apply old; rfl; rfl; apply List.Mem.tail; apply List.Mem.tail; apply List.Mem.tail; exact .tail _ (.tail _ (.head _)); rfl; rfl
   apply oop; rfl; apply Pev.len_slice; rfl; exact yes; rfl
   apply omv; rfl; rfl
   apply OL.nx
   apply W.block
   refine W.loop (G := Nat × FS) (fun G => G.1 ≤ p.1.binds.length ∧ FStep e y s ((List.range G.1).map fun k => (ixF e (p.1.binds.getD k 0), kidN x (k + 1))) G.2) (fun G => p.1.binds.length - G.1)
    (fun G => [(0, true, .int .i64 (g : Int)), (1, true, .pointer (some ⟨b1, 0, none⟩)), (3, true, .pointer (some ⟨b3, 0, none⟩)), (71, true, .slice qa (x.kids.length - 1) ca), (72, true, .int .i64 ((x.kids.length - 1 : Nat) : Int)), (73, true, .int .i64 (G.1 : Int))])
    (fun G => Cls (flI e y G.2 (caI y b1 b2 b3 qa (x.kids.length - 1) ca i H)) S) (0, s) ⟨Nat.zero_le _, .nil hs⟩ (by exact Sub.au) (fun w' hw' => by unfold flI caI FY.c; rw [hqa]; exact hw') ?_
   rintro ⟨k, s1⟩ ⟨hk, hst⟩
   simp only at hk hst ⊢
   have hs1 := hst.ok
   unfold flI caI FY.c
   apply W.sr
   apply obn; rfl; rfl; rfl; apply Bin.lss
   apply OL.nx
   apply W.seq
   (refine W.cnd (fun hlt => ?_) (fun hlt => ?_)) <;> (try (exfalso; first | omega | exact hlt trivial | contradiction))
   ·obtain ⟨a0, u0, hq0, hab0, hu0, hcell0⟩ := hargs.get (show k < (x.kids.drop 1).length by rw [List.length_drop]; omega)
    obtain ⟨hkl, hke⟩ := hy.ok.kid hx (k := k + 1) (by omega)
    have hu : u0 = (kidN x (k + 1) : Int) := by
     rw [List.getElem?_drop, Nat.add_comm] at hu0
     exact Option.some.inj (hu0.symm.trans hke)
    subst hu
    have hab0 : a0.block < s0.heap.size := hab0
    have hcell0 : s0.cell? (a0.add (k * 1)) = some (.int .i64 (kidN x (k + 1) : Int)) := hcell0
    obtain ⟨av, v, hqv, habv, hv, hcellv⟩ := hok.b.get (show k < p.1.binds.length by omega)
    have habv : av.block < s0.heap.size := habv
    have hgv : p.1.binds.getD k 0 = v := by rw [List.getD_eq_getElem?_getD, hv]; rfl
    have hid : v ∈ e.flatMap bindersX := FOk.bind hz (.inl hoz) (List.mem_of_getElem? hv)
    obtain ⟨k1, hk1'⟩ : ∃ k1, kidN x (k + 1) = k1 := ⟨_, rfl⟩
    rw [hk1'] at hcell0 hkl
    obtain ⟨bk1, hbk1⟩ : ∃ b, y.N[k1]? = some b := ⟨y.N[k1], List.getElem?_eq_getElem (by omega)⟩
    have hrow : (y.N.map (slW y.N.length))[0 + (k1 : Int).toNat * 1]? = some (slW y.N.length bk1) := by
     rw [show 0 + (k1 : Int).toNat * 1 = k1 by omega, List.getElem?_map, hbk1]
     rfl
    rw [hq0, hqa]
    rw [hqv] at hcell
    apply W.sk
    apply W.sb
    apply W.sr
    apply omv; rfl; rfl
    apply oop; rfl; apply Pev.idx; rfl; exact yes; rfl; exact yes; rfl; rfl; intro hcond; omega
    apply oop; rfl; apply Pev.load_kept; rfl; exact yes; assumption; rfl; intro hcond; assumption; intro hcond; (rw [add_block]; assumption); intro hcond; (focus ((try simp only [add_block]); (repeat (first | exact NotOwned.nil | exact hno _ (by omega) | exact hnr _ (by omega) | refine NotOwned.any (hXn _ (by omega)) ?_ | refine NotOwned.blk (by omega) ?_ | refine NotOwned.row (by omega) ?_ | refine NotOwned.rws (by omega) ?_ | refine NotOwned.pile (by omega) ?_ | refine NotOwned.pool (by omega) ?_ | refine NotOwned.bag (by omega) ?_ | refine NotOwned.mapI (by omega) ?_ | apply NotOwned.bif | refine NotOwned.nothing ?_)); done))
    apply oas; rfl; rfl
    apply oas; rfl; rfl
    apply OL.nx
    refine W.regzC (C0 := Cls (blk y.bs 56 [.slice (some a) y.N.length y.ce, .slice (some ⟨y.gn, 0, none⟩) y.N.length y.cn, .map (some y.bm), slW y.N.length y.bh, slW y.N.length y.ba, .bool s1.mv] :: row y.B y.O (some ⟨y.gn, 0, none⟩) y.N.length y.cn 52 1 (y.N.map (slW y.N.length)) :: blk b1 48 [.pointer (some ⟨y.bs, 0, none⟩)] :: blk b2 33 [.slice (some a0) (x.kids.length - 1) ca] :: blk b3 3 [.int .i64 (i : Int)] :: H) S) (by (repeat (first | exact ZSplit.nil | apply ZSplit.pure rfl | apply ZSplit.tail))) (by kernel_rfl) (by decide +kernel) (fun w hw => hw.drew) (fun w hw => hw.thin (.keep (.any (fun k hk => hLim k (by rw [show k = y.bm from hk]; exact hbm)) (.any (fun k hk => hLim k (by rw [← hB]; exact hk.1)) .same)))) ?_
    apply ZL.ld rfl; exact Guard.none; rfl; rfl; apply Pev.load_blk; rfl; exact yes; exact .tail _ (.tail _ (.head _)); rfl; rfl
    apply ZL.ld rfl; exact Guard.none; rfl; rfl; apply Pev.load_blk; rfl; exact yes; exact .tail _ (.tail _ (.head _)); rfl; rfl
    apply ZL.ld rfl; exact Guard.none; rfl; rfl; apply Pev.load_blk; rfl; exact yes; exact .tail _ (.tail _ (.head _)); rfl; rfl
    apply ZL.op rfl; exact Guard.none; rfl; rfl; apply Pev.nil_ptr; rfl; exact yes
    apply ZL.op rfl; exact Guard.none; rfl; rfl; apply Pev.fld; rfl; exact yes; rfl
    apply ZL.ld rfl; exact Guard.none; rfl; rfl; apply Pev.load_blk; rfl; exact yes; exact .head _; rfl; rfl
    apply ZL.op rfl; exact Guard.none; rfl; rfl; apply Pev.move; rfl; exact yes
    apply ZL.op rfl; exact Guard.none; rfl; rfl; apply Pev.idx; rfl; exact yes; rfl; exact yes; rfl; rfl; intro hcond; omega
    apply ZL.op rfl; exact Guard.none; rfl; rfl; apply Pev.fldA; rfl; exact yes; rfl
    apply ZL.ld rfl; exact Guard.none; rfl; rfl; apply Pev.load_kept; rfl; exact yes; assumption; rfl; intro hcond; apply CellsAt.at_ (by assumption) rfl; intro hcond; (simp only [add_block]; assumption); intro hcond; exact NotOwned.au
    apply ZL.op rfl; exact Guard.none; rfl; rfl; apply Pev.move; rfl; exact yes
    apply ZL.op rfl; exact Guard.none; rfl; rfl; apply Pev.idx; rfl; exact yes; rfl; exact yes; rfl; rfl; intro hcond; omega
    apply ZL.ld rfl; exact Guard.none; rfl; rfl; apply Pev.load_kept; rfl; exact yes; assumption; rfl; intro hcond; assumption; intro hcond; (rw [add_block]; assumption); intro hcond; exact NotOwned.au
    apply ZL.ld rfl; exact Guard.none; rfl; rfl; apply Pev.load_blk; rfl; exact yes; exact .tail _ (.tail _ (.head _)); rfl; rfl
    apply ZL.op rfl; exact Guard.none; rfl; rfl; apply Pev.nil_ptr; rfl; exact yes
    apply ZL.op rfl; exact Guard.none; rfl; rfl; apply Pev.fld; rfl; exact yes; rfl
    apply ZL.ld rfl; exact Guard.none; rfl; rfl; apply Pev.load_blk; rfl; exact yes; exact .head _; rfl; rfl
    apply ZL.op rfl; exact Guard.none; rfl; rfl; apply Pev.move; rfl; exact yes
    apply ZL.op rfl; exact Guard.none; rfl; rfl; apply Pev.idxB; rfl; exact yes; rfl; exact yes; rfl; intro hcond; omega; rfl
    apply ZL.ld rfl; exact Guard.none; rfl; rfl; apply Pev.load_row; rfl; exact yes; exact .tail _ (.head _); rfl; assumption
    apply ZL.nilC
    apply TL.one rfl
    refine OL.callE (α := Nat × List (Int × Nat)) (fun z => slW y.N.length z.1) (fun z => (ixF e v, z.1) ∈ (s1.with z.2).P e y ∧ FSOk e y (s1.with z.2)) (fun z => Cls (flI e y (s1.with z.2) (caI y b1 b2 b3 qa (x.kids.length - 1) ca i H)) S) rfl rfl (by exact Args.au) (fun w2 hw2 => (identI_calls e y s1 hy hs1 v hid _ S s0 hs0 (by omega) w2 (by unfold flI caI FY.c; rw [hqa, hq0]; exact hw2)).mono (fun e1 w3 ⟨b, M', h1, h2, h3, h4⟩ => ⟨(b, M'), h1, ⟨h2, h3⟩, h4⟩)) ?_
    rintro ⟨bv, M1⟩ ⟨hbv, hs2⟩
    simp only at hbv hs2 ⊢
    refine OL.nil (At.tk (fun w hw => ?_) ?_)
    ·unfold flI caI FY.c at hw
     rw [hqa, hq0] at hw
     exact hw.thin (.keep (.any (fun k hk => hLim k (by rw [show k = y.bm from hk]; exact hbm)) (.any (fun k hk => hLim k (by rw [← hB]; exact hk.1)) .same)))
    apply TL.one rfl
    refine OL.callE (α := Unit) (fun _ => .tuple #[]) (fun _ => FSOk e y ((s1.with M1).into (ixF e v) k1)) (fun _ => Cls (flI e y ((s1.with M1).into (ixF e v) k1) (caI y b1 b2 b3 qa (x.kids.length - 1) ca i H)) S) rfl rfl (by exact Args.au) (fun w2 hw2 => (intoI_calls e y _ hy hs2 (ixF e v) bv k1 bk1 hbv (P_node hbk1) _ S w2 hw2).mono (fun e1 w3 ⟨h1, h2, h3⟩ => ⟨(), h1, h2, h3⟩)) ?_
    rintro ⟨⟩ hs3
    apply OL.nil
    with_reducible apply At.tn; decide +kernel
    apply TL.nil
    with_reducible apply At.np
    with_reducible apply At.in_normal
    with_reducible apply At.next
    apply W.reg
    apply obn; rfl; rfl; rfl; apply Bin.add_in; omega
    apply omv; rfl; rfl
    apply OL.nil
    refine At.again (k + 1, (s1.with M1).into (ixF e v) k1) ⟨by omega, ?_⟩ (by simp only; omega) (by exact Sub.au) (fun w' hw' => by unfold flI caI FY.c at hw'; rw [hqa, hq0] at hw'; exact hw')
    rw [List.range_succ, List.map_append, List.map_singleton, hgv, hk1']
    exact hst.app hs (FStep.with (.one hs3))
   ·obtain rfl : k = p.1.binds.length := by omega
    have hlk := (hy.ok.sh g p.1 hz).lam hoz
    obtain ⟨hk0, hke0⟩ := hy.ok.kid hz (k := 0) (by have := (hy.ok.sh g p.1 hz).lam hoz; omega)
    obtain ⟨ak, uk, hqk, habk, huk, hcellk⟩ := hok.k.get (show 0 < p.1.kids.length by have := (hy.ok.sh g p.1 hz).lam hoz; omega)
    have hu : uk = (kidN p.1 0 : Int) := Option.some.inj (huk.symm.trans hke0)
    subst hu
    have habk : ak.block < s0.heap.size := habk
    have hcellk : s0.cell? (ak.add (0 * 1)) = some (.int .i64 (kidN p.1 0 : Int)) := hcellk
    obtain ⟨k1, hk1'⟩ : ∃ k1, kidN p.1 0 = k1 := ⟨_, rfl⟩
    rw [hk1'] at hcellk hk0 hec
    obtain ⟨bk1, hbk1⟩ : ∃ b, y.N[k1]? = some b := ⟨y.N[k1], List.getElem?_eq_getElem (by omega)⟩
    obtain ⟨bi, hbi⟩ : ∃ b, y.N[i]? = some b := ⟨y.N[i], List.getElem?_eq_getElem (by omega)⟩
    have hrow : (y.N.map (slW y.N.length))[0 + (k1 : Int).toNat * 1]? = some (slW y.N.length bk1) := by
     rw [show 0 + (k1 : Int).toNat * 1 = k1 by omega, List.getElem?_map, hbk1]
     rfl
    have hrowi : (y.N.map (slW y.N.length))[0 + (i : Int).toNat * 1]? = some (slW y.N.length bi) := by
     rw [show 0 + (i : Int).toNat * 1 = i by omega, List.getElem?_map, hbi]
     rfl
    rw [hqk] at hcell
    rw [hqa]
    refine W.xt ?_
    with_reducible apply At.next
    refine W.regn 24 (by (repeat (first | exact SplitN.z | apply SplitN.s))) (by kernel_rfl) (by decide +kernel) (fun w hw => hw.drew) ?_
    apply qld; rfl; rfl; apply List.Mem.tail; apply List.Mem.tail; exact .tail _ (.tail _ (.head _)); rfl; rfl
    apply qld; rfl; rfl; apply List.Mem.tail; apply List.Mem.tail; exact .tail _ (.tail _ (.head _)); rfl; rfl
    apply qop; rfl; apply Pev.nil_ptr; rfl; exact yes
    apply qfa; rfl; rfl; rfl
    apply qld; rfl; rfl; exact .head _; rfl; rfl
    apply qld; rfl; rfl; apply List.Mem.tail; apply List.Mem.tail; apply List.Mem.tail; apply List.Mem.tail; exact .tail _ (.tail _ (.head _)); rfl; rfl
    apply qop; rfl; apply Pev.idxB; rfl; exact yes; rfl; exact yes; rfl; intro hcond; omega; rfl
    apply qop; rfl; apply Pev.load_row; rfl; exact yes; apply List.Mem.tail; exact .tail _ (.tail _ (.head _)); rfl; assumption
    apply qld; rfl; rfl; apply List.Mem.tail; apply List.Mem.tail; exact .tail _ (.tail _ (.head _)); rfl; rfl
    apply qop; rfl; apply Pev.nil_ptr; rfl; exact yes
    apply qfa; rfl; rfl; rfl
    apply qld; rfl; rfl; exact .head _; rfl; rfl
    apply qld; rfl; rfl; apply List.Mem.tail; apply List.Mem.tail; exact .tail _ (.tail _ (.head _)); rfl; rfl
    apply qop; rfl; apply Pev.nil_ptr; rfl; exact yes
    apply qfa; rfl; rfl; rfl
    apply qld; rfl; rfl; exact .head _; rfl; rfl
    apply qmv; rfl; rfl
    apply qop; rfl; apply Pev.idx; rfl; exact yes; rfl; exact yes; rfl; rfl; intro hcond; omega
    apply qop; rfl; apply Pev.fldA; rfl; exact yes; rfl
    apply qop; rfl; apply Pev.load_kept; rfl; exact yes; assumption; rfl; intro hcond; apply CellsAt.at_ (by assumption) rfl; intro hcond; (simp only [add_block]; assumption); intro hcond; (focus ((try simp only [add_block]); (repeat (first | exact NotOwned.nil | exact hno _ (by omega) | exact hnr _ (by omega) | refine NotOwned.any (hXn _ (by omega)) ?_ | refine NotOwned.blk (by omega) ?_ | refine NotOwned.row (by omega) ?_ | refine NotOwned.rws (by omega) ?_ | refine NotOwned.pile (by omega) ?_ | refine NotOwned.pool (by omega) ?_ | refine NotOwned.bag (by omega) ?_ | refine NotOwned.mapI (by omega) ?_ | apply NotOwned.bif | refine NotOwned.nothing ?_)); done))
    apply qop; rfl; apply Pev.idx; rfl; exact yes; rfl; exact yes; rfl; rfl; intro hcond; (simp only [Bool.and_eq_true, Bool.or_eq_true, Bool.not_eq_true', decide_eq_true_eq, decide_eq_false_iff_not] at *; omega)
    apply qop; rfl; apply Pev.load_kept; rfl; exact yes; assumption; rfl; intro hcond; assumption; intro hcond; assumption; intro hcond; (focus ((try simp only [add_block]); (repeat (first | exact NotOwned.nil | exact hno _ (by omega) | exact hnr _ (by omega) | refine NotOwned.any (hXn _ (by omega)) ?_ | refine NotOwned.blk (by omega) ?_ | refine NotOwned.row (by omega) ?_ | refine NotOwned.rws (by omega) ?_ | refine NotOwned.pile (by omega) ?_ | refine NotOwned.pool (by omega) ?_ | refine NotOwned.bag (by omega) ?_ | refine NotOwned.mapI (by omega) ?_ | apply NotOwned.bif | refine NotOwned.nothing ?_)); done))
    apply qop; rfl; apply Pev.idxB; rfl; exact yes; rfl; exact yes; rfl; intro hcond; omega; rfl
    apply qop; rfl; apply Pev.load_row; rfl; exact yes; apply List.Mem.tail; exact .tail _ (.tail _ (.head _)); rfl; assumption
    with_reducible apply QL.tail
    refine OL.callE (α := Unit) (fun _ => .tuple #[]) (fun _ => FSOk e y (s1.into i k1)) (fun _ => Cls (flI e y (s1.into i k1) (caI y b1 b2 b3 qa (x.kids.length - 1) ca i H)) S) rfl rfl (by exact Args.au) (fun w2 hw2 => (intoI_calls e y s1 hy hs1 i bi k1 bk1 (P_node hbi) (P_node hbk1) _ S w2 (by unfold flI caI FY.c; rw [hqa]; exact hw2)).mono (fun e1 w3 ⟨h1, h2, h3⟩ => ⟨(), h1, h2, h3⟩)) ?_
    rintro ⟨⟩ hs2
    apply OL.nil
    with_reducible apply At.in_normal
    with_reducible apply At.next
    apply W.sr
    apply oas; rfl; rfl
    apply OL.nx
    apply W.ret
    ((with_reducible apply At.fin1); rfl; rfl; intro w' hw')
    rw [hec]
    unfold flI caI FY.c at hw'
    rw [hqa] at hw'
    exact ⟨_, rfl, hst.app hs (.one hs2), hw'⟩
  ·have hec : eCall e.length (ixF e) e i x g = [] := by
    unfold eCall
    rw [if_neg hnc, hz]
    simp only
    rw [if_neg (by simp only [Bool.and_eq_false_iff, decide_eq_false_iff_not] at h5; omega)]
   apply W.skip
   with_reducible apply At.in_normal
   with_reducible apply At.next
   apply W.sr
   apply oas; rfl; rfl
   apply OL.nx
   apply W.ret
   ((with_reducible apply At.fin1); rfl; rfl; intro w' hw')
   rw [hec]
   exact ⟨_, rfl, .nil hs, hw'⟩
end Go.Proofs.YtkpjndhgicbjjaaDoor.co

/- The walk of flow's call. Conditions: none. -/
namespace Go.Co
open Go.Eng
theorem eApp_succ {n : Nat} {ix : Int → Nat} {e : List Ex} {R : FR} {i : Nat} {x : Ex} {c : Nat} : eApp n ix e R i x (c + 1) = eApp n ix e R i x c ++ (if hB R (kidN x 0) c then eCall n ix e i x c else []) := by
 unfold eApp
 rw [List.range_succ, List.flatMap_append]
 simp
theorem eApp_more {n : Nat} {ix : Int → Nat} {e : List Ex} {R : FR} {i : Nat} {x : Ex} {c : Nat} (h : ∀ g, c ≤ g → hB R (kidN x 0) g = false) : ∀ k, eApp n ix e R i x (c + k) = eApp n ix e R i x c
 | 0 => rfl
 | k + 1 => by
  rw [← Nat.add_assoc, eApp_succ, h _ (by omega), eApp_more h k]
  simp
theorem eApp_ne {e : List Ex} (h : FOk e) {R : FR} {i : Nat} {x : Ex} (hx : e[i]? = some x) (c : Nat) : ∀ p ∈ eApp e.length (ixF e) e R i x c, p.1 = i ∨ e.length ≤ p.1 := by
 intro p hp
 unfold eApp at hp
 obtain ⟨g, _, hp⟩ := List.mem_flatMap.1 hp
 split at hp
 ·exact eCall_ne h hx g p hp
 ·cases hp
end Go.Co
namespace Go.Proofs.YtkpjndhgicbjjaaDoor.co
open Go.RowKit Go.Eng Go.Co
set_option maxRecDepth 100000
theorem tzAt.at {w w' : World} {H : List Eng.Item} {S : List World} (h : tzAt w) (hg : 0 < w.heap.size) (hw : Cls H S w') (hs : w ∈ S) (hno : ∀ k, k < w.heap.size → NotOwned H k) : tzAt w' := fun j hj => by
 rw [← h j hj]
 exact cell_heap (hw.same hs hno _ hg)
theorem row_cells {e : List Ex} {y : FY} {s : FS} {H : List Eng.Item} {S : List World} {w : World} (hc : Cls (flI e y s H) S w) {k b : Nat} (hk : (k, b) ∈ s.P e y) : CellsAt w ⟨b, 0, none⟩ (u64s (wordsB y.N.length (s.R.getD k []))) := by
 have h1 := (hc.holds (bag y.B (setsI 67 y.N.length s.R (s.P e y))) (by unfold flI; simp)).1 (setI 67 y.N.length s.R (k, b)) (List.mem_map.2 ⟨(k, b), hk, rfl⟩)
 intro j v hj
 rw [add_mid, blk_cell h1.1, Nat.zero_add]
 exact hj
theorem flI_no {e : List Ex} {y : FY} {s : FS} {H : List Eng.Item} {m : Nat} (hB : m ≤ y.B) (hbs : m ≤ y.bs) (hbm : m ≤ y.bm) (hno : ∀ k, k < m → NotOwned H k) : ∀ k, k < m → NotOwned (flI e y s H) k := fun k hk =>
 NotOwned.blk (by omega) (NotOwned.mapI (by omega) (NotOwned.bag (by omega) (NotOwned.row (by omega) (hno k hk))))
theorem call_calls (s0 : World) (es : List (Ex × ExY)) (e : List Ex) (hee : es.map Prod.fst = e) (y : FY) (hy : FYOk e y) (he : Arr exR s0 (low s0) es y.qe) (hyB : y.B = s0.heap.size) (hbs : s0.heap.size ≤ y.bs) (hbm : s0.heap.size ≤ y.bm) (hT : tzAt s0) (hTg : 0 < s0.heap.size) (i : Nat) (p : Ex × ExY) (hp : es[i]? = some p) (ho : p.1.op = 3)
  (s : FS) (hs : FSOk e y s) (H : List Eng.Item) (hno : ∀ k, k < s0.heap.size → NotOwned H k) (S : List World) (hs0 : s0 ∈ S) (hSS : ∀ s ∈ S, s.heap.size ≤ s0.heap.size) (w : World) (hc : Cls (flI e y s H) S w) :
  Calls Tryd.prog 48 [.pointer (some ⟨y.bs, 0, none⟩), .int .i64 (i : Int), .agg (exC p.1 p.2).toArray].toArray w fun r w' => ∃ s', r = .returned (.tuple #[]) ∧ FStep e y s (eApp e.length (ixF e) e s.R i p.1 (e.length + 1)) s' ∧ Cls (flI e y s' H) S w' := by
 have hx : e[i]? = some p.1 := by rw [← hee, List.getElem?_map, hp]; rfl
 have hsh := hy.ok.sh i p.1 hx
 have hn := hy.len
 have hlen := hy.ok.len
 have hk1 := hsh.app ho
 have hil := (List.getElem?_eq_some_iff.1 hx).1
 have hel : e.length = es.length := by rw [← hee, List.length_map]
 obtain ⟨a, p', hqa, hab, hp', hcell, hok⟩ := he.get (show i < es.length by omega)
 rw [hp] at hp'
 obtain rfl := Option.some.inj hp'
 obtain ⟨ak, uk, hqk, habk, huk, hcellk⟩ := hok.k.get (show 0 < p.1.kids.length by omega)
 obtain ⟨hk0, hke⟩ := hy.ok.kid hx (k := 0) (by omega)
 have hu : uk = (kidN p.1 0 : Int) := Option.some.inj (huk.symm.trans hke)
 subst hu
 have habk : ak.block < s0.heap.size := habk
 have hcellk : s0.cell? (ak.add (0 * 1)) = some (.int .i64 (kidN p.1 0 : Int)) := hcellk
 obtain ⟨k1, hk1'⟩ : ∃ k1, kidN p.1 0 = k1 := ⟨_, rfl⟩
 rw [hk1'] at hcellk hk0
 obtain ⟨bk1, hbk1⟩ : ∃ b, y.N[k1]? = some b := ⟨y.N[k1], List.getElem?_eq_getElem (by omega)⟩
 have hrow : (y.N.map (slW y.N.length))[0 + (k1 : Int).toNat * 1]? = some (slW y.N.length bk1) := by
  rw [show 0 + (k1 : Int).toNat * 1 = k1 by omega, List.getElem?_map, hbk1]
  rfl
 have hkl := hok.kl
 have hkc := hok.kc
 refine enter Tryd.func48 rfl Tryd.ntmps48 rfl hc ?_
 (simp only [argEnv, Nat.zero_add, Nat.reduceAdd])
 unfold flI FY.c exC
 have hargs : IntsO s0 (low s0) (p.1.kids.drop 1) (cutq (some ak) p.2.k.2 1 1) := fun hl => by
  have h1 := (hok.k.slAt).cut (cap := p.2.k.2) (i := 1) (sz := 1) (by rw [ints_length]; omega)
  rw [hqk, show (ints p.1.kids).drop (1 * 1) = ints (p.1.kids.drop 1) by simp [ints]] at h1
  exact h1 (by rw [ints_length]; exact hl)
 obtain ⟨qa, hqa2⟩ : ∃ qa, cutq (some ak) p.2.k.2 1 1 = qa := ⟨_, rfl⟩
 obtain ⟨ca, hca⟩ : ∃ ca, p.2.k.2 - 1 = ca := ⟨_, rfl⟩
 rw [hqa2] at hargs
 rw [hqk]
 apply W.sr
 apply OL.box; rfl; rfl; exact CellsL.one rfl; (intro bk hbk; have hbk0 := hbk.mem s0 hs0)
 apply OL.box; rfl; rfl; exact CellsL.one rfl; (intro bk hbk; have hbk0 := hbk.mem s0 hs0)
 apply OL.box; rfl; rfl; exact CellsL.agg; (intro bk hbk; have hbk0 := hbk.mem s0 hs0)
 apply OL.nsr
 apply ofa; rfl; rfl; rfl
 apply old; rfl; rfl; exact .head _; rfl; rfl
 apply oop; rfl; apply Pev.slice_lo; rfl; exact yes; rfl; exact yes; rfl; rfl; intro hcond; omega
 apply OL.alloc; rfl; rfl; exact CellsL.one rfl; (intro bk hbk; have hbk0 := hbk.mem s0 hs0)
 apply OL.storeB; rfl; rfl; exact CellsL.one rfl; rfl; rfl; rfl; exact Swap.au; exact Put.au
 apply OL.nx
 rw [hqa2, hca]
 refine W.regn 11 (by (repeat (first | exact SplitN.z | apply SplitN.s))) (by kernel_rfl) (by decide +kernel) (fun w hw => hw.drew) ?_
 apply qld; rfl; rfl; apply List.Mem.tail; exact .tail _ (.tail _ (.head _)); rfl; rfl
 apply qop; rfl; apply Pev.nil_ptr; rfl; exact yes
 apply qfa; rfl; rfl; rfl
 apply qld; rfl; rfl; apply List.Mem.tail; apply List.Mem.tail; exact .tail _ (.tail _ (.head _)); rfl; rfl
 apply qfa; rfl; rfl; rfl
 apply qld; rfl; rfl; exact .tail _ (.head _); rfl; rfl
 apply qop; rfl; apply Pev.idx; rfl; exact yes; rfl; exact yes; rfl; rfl; intro hcond; (simp only [Bool.and_eq_true, Bool.or_eq_true, Bool.not_eq_true', decide_eq_true_eq, decide_eq_false_iff_not] at *; omega)
 apply qop; rfl; apply Pev.load_kept; rfl; exact yes; assumption; rfl; intro hcond; assumption; intro hcond; assumption; intro hcond; (focus ((try simp only [add_block]); (repeat (first | exact NotOwned.nil | exact hno _ (by omega) | exact hnr _ (by omega) | refine NotOwned.any (hXn _ (by omega)) ?_ | refine NotOwned.blk (by omega) ?_ | refine NotOwned.row (by omega) ?_ | refine NotOwned.rws (by omega) ?_ | refine NotOwned.pile (by omega) ?_ | refine NotOwned.pool (by omega) ?_ | refine NotOwned.bag (by omega) ?_ | refine NotOwned.mapI (by omega) ?_ | apply NotOwned.bif | refine NotOwned.nothing ?_)); done))
 apply qop; rfl; apply Pev.idxB; rfl; exact yes; rfl; exact yes; rfl; intro hcond; omega; rfl
 apply qop; rfl; apply Pev.load_row; rfl; exact yes; apply List.Mem.tail; apply List.Mem.tail; apply List.Mem.tail; apply List.Mem.tail; apply List.Mem.tail; exact .tail _ (.tail _ (.head _)); rfl; assumption
 apply qop; rfl; apply Pev.makeFunc; exact Args.au; exact Args.au
 with_reducible apply QL.tail
 rename_i b1 hb1 hb10 b3 hb3 hb30 b5 hb5 hb50
 refine OL.callE (α := FS) (fun _ => .tuple #[]) (fun s' => FStep e y s (eApp e.length (ixF e) e s.R i p.1 (e.length + 1)) s') (fun s' => Cls (flI e y s' (caI y b1 bk b3 qa (p.1.kids.length - 1) ca i (blk b5 43 [.int .i64 p.1.op, .int .i64 p.1.n, .slice p.2.b.1 p.1.binds.length p.2.b.2, .slice (some ak) p.1.kids.length p.2.k.2, .slice p.2.a.1 p.1.alts.length p.2.a.2] :: H))) S) rfl rfl (by exact Args.au) (fun w2 hw2 => ?_) ?_
 ·have hxn : ∀ k, k < s0.heap.size → NotOwned (caI y b1 bk b3 qa (p.1.kids.length - 1) ca i (blk b5 43 [.int .i64 p.1.op, .int .i64 p.1.n, .slice p.2.b.1 p.1.binds.length p.2.b.2, .slice (some ak) p.1.kids.length p.2.k.2, .slice p.2.a.1 p.1.alts.length p.2.a.2] :: H)) k := fun k hk =>
   NotOwned.blk (by omega) (NotOwned.blk (by omega) (NotOwned.blk (by omega) (NotOwned.blk (by omega) (hno k hk))))
  have hH2 : ∀ k, k < s0.heap.size → NotOwned (blk b5 43 [.int .i64 p.1.op, .int .i64 p.1.n, .slice p.2.b.1 p.1.binds.length p.2.b.2, .slice (some ak) p.1.kids.length p.2.k.2, .slice p.2.a.1 p.1.alts.length p.2.a.2] :: H) k := fun k hk => NotOwned.blk (by omega) (hno k hk)
  have hrr : ∀ (s' : FS) (c : Nat), FStep e y s (eApp e.length (ixF e) e s.R i p.1 c) s' → s'.R.getD k1 [] = s.R.getD k1 [] := fun s' c h => by
   rw [h.R]
   exact inAll_getD fun q hq => by
    have := eApp_ne hy.ok hx c q hq
    omega
  have hw3 : Cls (flI e y s (caI y b1 bk b3 qa (p.1.kids.length - 1) ca i (blk b5 43 [.int .i64 p.1.op, .int .i64 p.1.n, .slice p.2.b.1 p.1.binds.length p.2.b.2, .slice (some ak) p.1.kids.length p.2.k.2, .slice p.2.a.1 p.1.alts.length p.2.a.2] :: H))) S w2 := by
   refine hw2.perm ?_
   refine ((List.perm_append_comm (l₁ := [_, _, _, _]) (l₂ := [_, _, _, _])).append_right H).trans ?_
   refine List.Perm.cons _ (List.Perm.cons _ (List.Perm.cons _ (List.Perm.cons _ ?_)))
   exact ((List.perm_append_comm (l₁ := [_, _, _]) (l₂ := [_])).append_right H).trans (List.Perm.cons _ (List.Perm.cons _ (List.Perm.swap _ _ _)))
  have hcall := all_calls (σ := FS) 62 [] [.pointer (some ⟨b1, 0, none⟩), .pointer (some ⟨bk, 0, none⟩), .pointer (some ⟨b3, 0, none⟩)] rfl bk1 (y.N.length / 64 + 1) y.N.length (by omega) (s.R.getD k1 [])
   (fun s' => flI e y s' (caI y b1 bk b3 qa (p.1.kids.length - 1) ca i (blk b5 43 [.int .i64 p.1.op, .int .i64 p.1.n, .slice p.2.b.1 p.1.binds.length p.2.b.2, .slice (some ak) p.1.kids.length p.2.k.2, .slice p.2.a.1 p.1.alts.length p.2.a.2] :: H))) S
   (fun c s' => FStep e y s (eApp e.length (ixF e) e s.R i p.1 c) s')
   (fun s' w hw => hT.at hTg hw hs0 (flI_no (by omega) hbs hbm hxn))
   (fun s' w ⟨c, hcc⟩ hw => by
    have := row_cells hw (P_node (e := e) (s := s') hbk1)
    rwa [hrr s' c hcc] at this)
   (fun g s' w hg hst hw => by
    have hgg : hB s.R k1 g = true := hg
    refine (call1_calls s0 es e hee y hy he hyB hbs hbm i p.1 hx ho qa ca hargs b1 bk b3 hb10 hbk0 hb30 s' hst.ok g (hs.lam k1 g hgg) _ hH2 S hs0 hSS w hw).mono ?_
    rintro r w' ⟨s'', h1, h2, h3⟩
    refine ⟨s'', h1, ?_, h3⟩
    rw [eApp_succ, hk1', if_pos hgg]
    exact hst.app hs h2)
   (fun g s' hg hst => by
    have hgg : hB s.R k1 g = false := hg
    rw [eApp_succ, hk1', if_neg (by rw [hgg]; simp), List.append_nil]
    exact hst)
   s (.nil hs) w2 hw3
  refine hcall.mono ?_
  rintro r w' ⟨h1, s', h2, h3⟩
  refine ⟨s', h1, ?_, h3⟩
  have hmore := eApp_more (n := e.length) (ix := ixF e) (e := e) (R := s.R) (i := i) (x := p.1) (c := e.length + 1) (fun g hg => by
   cases hgb : hB s.R (kidN p.1 0) g with
   | false => rfl
   | true =>
    rcases hs.lam _ g hgb with h5 | ⟨z, hz, _⟩
    ·omega
    ·have := (List.getElem?_eq_some_iff.1 hz).1
     omega) (64 * (y.N.length / 64 + 1) - (e.length + 1))
  rw [show e.length + 1 + (64 * (y.N.length / 64 + 1) - (e.length + 1)) = 64 * (y.N.length / 64 + 1) by omega] at hmore
  rwa [hmore] at h2
 ·intro s' hs'
  apply OL.nil
  refine At.end_ (At.fin0 rfl (fun w' hw' => ⟨s', rfl, hs', ?_⟩))
  exact hw'.thin (.keep (.keep (.keep (.keep (.any (fun k hk => by rw [show k = b1 from hk]; exact hb1) (.any (fun k hk => by rw [show k = bk from hk]; exact hbk) (.any (fun k hk => by rw [show k = b3 from hk]; exact hb3) (.any (fun k hk => by rw [show k = b5 from hk]; exact hb5) .same))))))))
end Go.Proofs.YtkpjndhgicbjjaaDoor.co

/- The walk of flow's prim. Conditions: none. -/
namespace Go.Proofs.YtkpjndhgicbjjaaDoor.co
open Go.RowKit Go.Eng Go.Co
set_option maxRecDepth 100000
theorem kid_ex {s0 : World} {e : List Ex} {y : FY} (hy : FYOk e y) {i : Nat} {x : Ex} {xy : ExY} (hx : e[i]? = some x) (hok : ExOk s0 (low s0) x xy) {k : Nat} (hk : k < x.kids.length) : ∃ (ak : Addr) (k1 bk1 : Nat), kidN x k = k1 ∧ xy.k.1 = some ak ∧ ak.block < s0.heap.size ∧ s0.cell? (ak.add (k * 1)) = some (.int .i64 (k1 : Int)) ∧ y.N[k1]? = some bk1 ∧ k1 < i ∧ k1 < y.N.length ∧
  (y.N.map (slW y.N.length))[0 + (k1 : Int).toNat * 1]? = some (slW y.N.length bk1) := by
 obtain ⟨ak, uk, hqk, habk, huk, hcellk⟩ := hok.k.get hk
 obtain ⟨hk0, hke⟩ := hy.ok.kid hx hk
 have hu : uk = (kidN x k : Int) := Option.some.inj (huk.symm.trans hke)
 subst hu
 have hil := (List.getElem?_eq_some_iff.1 hx).1
 have hn := hy.len
 refine ⟨ak, kidN x k, y.N[kidN x k], rfl, hqk, habk, hcellk, List.getElem?_eq_getElem (by omega), hk0, by omega, ?_⟩
 rw [show 0 + ((kidN x k : Nat) : Int).toNat * 1 = kidN x k by omega, List.getElem?_map, List.getElem?_eq_getElem (by omega)]
 rfl
theorem own_ex {e : List Ex} {y : FY} (hy : FYOk e y) {i : Nat} (hi : i < e.length) : ∃ bi, y.N[i]? = some bi ∧ (y.N.map (slW y.N.length))[0 + (i : Int).toNat * 1]? = some (slW y.N.length bi) := by
 have hn := hy.len
 refine ⟨y.N[i], List.getElem?_eq_getElem (by omega), ?_⟩
 rw [show 0 + (i : Int).toNat * 1 = i by omega, List.getElem?_map, List.getElem?_eq_getElem (by omega)]
 rfl
theorem flX {e : List Ex} {y : FY} {s : FS} {H : List Eng.Item} {S : List World} {w : World} {j : Eng.Item} : Cls (j :: flI e y s H) S w ↔ Cls (flI e y s (j :: H)) S w := by
 have h : (j :: flI e y s H).Perm (flI e y s (j :: H)) := (List.perm_append_comm (l₁ := [_]) (l₂ := [_, _, _, _])).append_right H
 exact ⟨fun hc => hc.perm h, fun hc => hc.perm h.symm⟩
theorem intoX_calls (e : List Ex) (y : FY) (s : FS) (hy : FYOk e y) (hs : FSOk e y s) (p b q c : Nat) (hp : (p, b) ∈ s.P e y) (hq : (q, c) ∈ s.P e y) (j : Eng.Item) (H : List Eng.Item) (S : List World) (w : World)
  (hc : Cls (j :: flI e y s H) S w) :
  Calls Tryd.prog 46 [.pointer (some ⟨y.bs, 0, none⟩), slW y.N.length b, slW y.N.length c].toArray w fun r w' => ∃ _u : Unit, r = .returned (.tuple #[]) ∧ FSOk e y (s.into p q) ∧ Cls (j :: flI e y (s.into p q) H) S w' :=
 (intoI_calls e y s hy hs p b q c hp hq _ S w (flX.1 hc)).mono fun r w' ⟨h1, h2, h3⟩ => ⟨(), h1, h2, flX.2 h3⟩
theorem prim_calls (s0 : World) (e : List Ex) (y : FY) (hy : FYOk e y) (hyB : y.B = s0.heap.size) (hbs : s0.heap.size ≤ y.bs) (hbm : s0.heap.size ≤ y.bm) (i : Nat) (x : Ex) (xy : ExY) (hx : e[i]? = some x) (hok : ExOk s0 (low s0) x xy) (ho : x.op = 8)
  (s : FS) (hs : FSOk e y s) (H : List Eng.Item) (hno : ∀ k, k < s0.heap.size → NotOwned H k) (S : List World) (hs0 : s0 ∈ S) (w : World) (hc : Cls (flI e y s H) S w) :
  Calls Tryd.prog 50 [.pointer (some ⟨y.bs, 0, none⟩), .int .i64 (i : Int), .agg (exC x xy).toArray].toArray w fun r w' => ∃ s', r = .returned (.tuple #[]) ∧ FStep e y s (eStat e.length (ixF e) i x) s' ∧ Cls (flI e y s' H) S w' := by
 have hsh := hy.ok.sh i x hx
 have hn := hy.len
 have hlen := hy.ok.len
 have hil := (List.getElem?_eq_some_iff.1 hx).1
 have hkl := hok.kl
 have hes : eStat e.length (ixF e) i x = if x.n = 8 then [(e.length, kidN x 1)] else if x.n = 11 then [(e.length, kidN x 2)] else if x.n = 10 then [(i, e.length)] else [] := by
  unfold eStat
  simp [ho]
 rw [hes]
 obtain ⟨bi, hbi, hrowi⟩ := own_ex hy hil
 refine enter Tryd.func50 rfl Tryd.ntmps50 rfl hc ?_
 (simp only [argEnv, Nat.zero_add, Nat.reduceAdd])
 unfold flI FY.c exC
 apply W.sr
 apply OL.box; rfl; rfl; exact CellsL.agg; (intro bk hbk; have hbk0 := hbk.mem s0 hs0)
 apply OL.nsr
 apply ofa; rfl; rfl; rfl
 apply old; rfl; rfl; exact .head _; rfl; rfl
 apply OL.nx
 apply W.block
 apply W.sr
 apply obn; rfl; rfl; rfl; apply Bin.eql
 apply oas; rfl; rfl
 apply OL.nx
 refine W.cond rfl (fun h8 => ?_) (fun h8 => ?_)
 ·have h8 : x.n = 8 := by simpa using h8
  have hkk := hsh.new ho h8
  obtain ⟨ak, k1, bk1, hk1', hqk, habk, hcellk, hbk1, hki, hkN, hrow⟩ := kid_ex hy hx hok (k := 1) (by omega)
  rw [if_pos h8, hk1', hqk]
  skip
  refine W.regn 15 (by (repeat (first | exact SplitN.z | apply SplitN.s))) (by kernel_rfl) (by decide +kernel) (fun w hw => hw.drew) ?_
  apply qmv; rfl; rfl
  apply qmv; rfl; rfl
  apply qop; rfl; apply Pev.nil_ptr; rfl; exact yes
  apply qfa; rfl; rfl; rfl
  apply qld; rfl; rfl; exact .tail _ (.head _); rfl; rfl
  apply qmv; rfl; rfl
  apply qop; rfl; apply Pev.nil_ptr; rfl; exact yes
  apply qfa; rfl; rfl; rfl
  apply qld; rfl; rfl; exact .tail _ (.head _); rfl; rfl
  apply qfa; rfl; rfl; rfl
  apply qld; rfl; rfl; exact .head _; rfl; rfl
  apply qop; rfl; apply Pev.idx; rfl; exact yes; rfl; exact yes; rfl; rfl; intro hcond; (simp only [Bool.and_eq_true, Bool.or_eq_true, Bool.not_eq_true', decide_eq_true_eq, decide_eq_false_iff_not] at *; omega)
  apply qop; rfl; apply Pev.load_kept; rfl; exact yes; assumption; rfl; intro hcond; assumption; intro hcond; assumption; intro hcond; (focus ((try simp only [add_block]); (repeat (first | exact NotOwned.nil | exact hno _ (by omega) | exact hnr _ (by omega) | refine NotOwned.any (hXn _ (by omega)) ?_ | refine NotOwned.blk (by omega) ?_ | refine NotOwned.row (by omega) ?_ | refine NotOwned.rws (by omega) ?_ | refine NotOwned.pile (by omega) ?_ | refine NotOwned.pool (by omega) ?_ | refine NotOwned.bag (by omega) ?_ | refine NotOwned.mapI (by omega) ?_ | apply NotOwned.bif | refine NotOwned.nothing ?_)); done))
  apply qop; rfl; apply Pev.idxB; rfl; exact yes; rfl; exact yes; rfl; intro hcond; omega; rfl
  apply qop; rfl; apply Pev.load_row; rfl; exact yes; apply List.Mem.tail; apply List.Mem.tail; exact .tail _ (.tail _ (.head _)); rfl; assumption
  with_reducible apply QL.tail
  refine OL.callE (α := Unit) (fun _ => .tuple #[]) (fun _ => FSOk e y (s.into e.length k1)) (fun _ => Cls (blk bk 43 [.int .i64 x.op, .int .i64 x.n, .slice xy.b.1 x.binds.length xy.b.2, .slice (some ak) x.kids.length xy.k.2, .slice xy.a.1 x.alts.length xy.a.2] :: flI e y (s.into e.length k1) H) S) rfl rfl (by exact Args.au) (fun w2 hw2 => intoX_calls e y s hy hs e.length y.bh k1 bk1 (by rw [← hn]; exact P_heap) (P_node hbk1) _ H S w2 hw2) ?_
  rintro ⟨⟩ hs1
  apply OL.nil
  with_reducible apply At.in_normal
  refine At.end_ (At.fin0 rfl (fun w' hw' => ⟨_, rfl, .one hs1, hw'.thin (.any (fun k hk => by rw [show k = bk from hk]; exact hbk) .same)⟩))
 have h8' : ¬ x.n = 8 := by simpa using h8
 rw [if_neg h8']
 apply W.sr
 apply obn; rfl; rfl; rfl; apply Bin.eql
 apply oas; rfl; rfl
 apply OL.nx
 refine W.cond rfl (fun h11 => ?_) (fun h11 => ?_)
 ·have h11 : x.n = 11 := by simpa using h11
  have hkk := hsh.set ho h11
  obtain ⟨ak, k1, bk1, hk1', hqk, habk, hcellk, hbk1, hki, hkN, hrow⟩ := kid_ex hy hx hok (k := 2) (by omega)
  rw [if_pos h11, hk1', hqk]
  skip
  refine W.regn 15 (by (repeat (first | exact SplitN.z | apply SplitN.s))) (by kernel_rfl) (by decide +kernel) (fun w hw => hw.drew) ?_
  apply qmv; rfl; rfl
  apply qmv; rfl; rfl
  apply qop; rfl; apply Pev.nil_ptr; rfl; exact yes
  apply qfa; rfl; rfl; rfl
  apply qld; rfl; rfl; exact .tail _ (.head _); rfl; rfl
  apply qmv; rfl; rfl
  apply qop; rfl; apply Pev.nil_ptr; rfl; exact yes
  apply qfa; rfl; rfl; rfl
  apply qld; rfl; rfl; exact .tail _ (.head _); rfl; rfl
  apply qfa; rfl; rfl; rfl
  apply qld; rfl; rfl; exact .head _; rfl; rfl
  apply qop; rfl; apply Pev.idx; rfl; exact yes; rfl; exact yes; rfl; rfl; intro hcond; (simp only [Bool.and_eq_true, Bool.or_eq_true, Bool.not_eq_true', decide_eq_true_eq, decide_eq_false_iff_not] at *; omega)
  apply qop; rfl; apply Pev.load_kept; rfl; exact yes; assumption; rfl; intro hcond; assumption; intro hcond; assumption; intro hcond; (focus ((try simp only [add_block]); (repeat (first | exact NotOwned.nil | exact hno _ (by omega) | exact hnr _ (by omega) | refine NotOwned.any (hXn _ (by omega)) ?_ | refine NotOwned.blk (by omega) ?_ | refine NotOwned.row (by omega) ?_ | refine NotOwned.rws (by omega) ?_ | refine NotOwned.pile (by omega) ?_ | refine NotOwned.pool (by omega) ?_ | refine NotOwned.bag (by omega) ?_ | refine NotOwned.mapI (by omega) ?_ | apply NotOwned.bif | refine NotOwned.nothing ?_)); done))
  apply qop; rfl; apply Pev.idxB; rfl; exact yes; rfl; exact yes; rfl; intro hcond; omega; rfl
  apply qop; rfl; apply Pev.load_row; rfl; exact yes; apply List.Mem.tail; apply List.Mem.tail; exact .tail _ (.tail _ (.head _)); rfl; assumption
  with_reducible apply QL.tail
  refine OL.callE (α := Unit) (fun _ => .tuple #[]) (fun _ => FSOk e y (s.into e.length k1)) (fun _ => Cls (blk bk 43 [.int .i64 x.op, .int .i64 x.n, .slice xy.b.1 x.binds.length xy.b.2, .slice (some ak) x.kids.length xy.k.2, .slice xy.a.1 x.alts.length xy.a.2] :: flI e y (s.into e.length k1) H) S) rfl rfl (by exact Args.au) (fun w2 hw2 => intoX_calls e y s hy hs e.length y.bh k1 bk1 (by rw [← hn]; exact P_heap) (P_node hbk1) _ H S w2 hw2) ?_
  rintro ⟨⟩ hs1
  apply OL.nil
  with_reducible apply At.in_normal
  refine At.end_ (At.fin0 rfl (fun w' hw' => ⟨_, rfl, .one hs1, hw'.thin (.any (fun k hk => by rw [show k = bk from hk]; exact hbk) .same)⟩))
 have h11' : ¬ x.n = 11 := by simpa using h11
 rw [if_neg h11']
 apply W.sr
 apply obn; rfl; rfl; rfl; apply Bin.eql
 apply oas; rfl; rfl
 apply OL.nx
 refine W.cond rfl (fun h10 => ?_) (fun h10 => ?_)
 ·have h10 : x.n = 10 := by simpa using h10
  rw [if_pos h10]
  skip
  refine W.regn 12 (by (repeat (first | exact SplitN.z | apply SplitN.s))) (by kernel_rfl) (by decide +kernel) (fun w hw => hw.drew) ?_
  apply qmv; rfl; rfl
  apply qmv; rfl; rfl
  apply qop; rfl; apply Pev.nil_ptr; rfl; exact yes
  apply qfa; rfl; rfl; rfl
  apply qld; rfl; rfl; exact .tail _ (.head _); rfl; rfl
  apply qmv; rfl; rfl
  apply qop; rfl; apply Pev.idxB; rfl; exact yes; rfl; exact yes; rfl; intro hcond; omega; rfl
  apply qop; rfl; apply Pev.load_row; rfl; exact yes; apply List.Mem.tail; apply List.Mem.tail; exact .tail _ (.tail _ (.head _)); rfl; assumption
  apply qmv; rfl; rfl
  apply qop; rfl; apply Pev.nil_ptr; rfl; exact yes
  apply qfa; rfl; rfl; rfl
  apply qld; rfl; rfl; exact .tail _ (.head _); rfl; rfl
  with_reducible apply QL.tail
  refine OL.callE (α := Unit) (fun _ => .tuple #[]) (fun _ => FSOk e y (s.into i e.length)) (fun _ => Cls (blk bk 43 [.int .i64 x.op, .int .i64 x.n, .slice xy.b.1 x.binds.length xy.b.2, .slice xy.k.1 x.kids.length xy.k.2, .slice xy.a.1 x.alts.length xy.a.2] :: flI e y (s.into i e.length) H) S) rfl rfl (by exact Args.au) (fun w2 hw2 => intoX_calls e y s hy hs i bi e.length y.bh (P_node hbi) (by rw [← hn]; exact P_heap) _ H S w2 hw2) ?_
  rintro ⟨⟩ hs1
  apply OL.nil
  with_reducible apply At.in_normal
  refine At.end_ (At.fin0 rfl (fun w' hw' => ⟨_, rfl, .one hs1, hw'.thin (.any (fun k hk => by rw [show k = bk from hk]; exact hbk) .same)⟩))
 have h10' : ¬ x.n = 10 := by simpa using h10
 rw [if_neg h10']
 apply W.skip
 with_reducible apply At.in_normal
 refine At.end_ (At.fin0 rfl (fun w' hw' => ⟨s, rfl, .nil hs, hw'.thin (.any (fun k hk => by rw [show k = bk from hk]; exact hbk) .same)⟩))
end Go.Proofs.YtkpjndhgicbjjaaDoor.co

/- The walk of flow's branches. Conditions: none. -/
namespace Go.Proofs.YtkpjndhgicbjjaaDoor.co
open Go.RowKit Go.Eng Go.Co
set_option maxRecDepth 100000
theorem identX_calls (e : List Ex) (y : FY) (s : FS) (hy : FYOk e y) (hs : FSOk e y s) (id : Int) (hid : id ∈ e.flatMap bindersX) (j j2 : Eng.Item) (H : List Eng.Item) (S : List World) (s0 : World) (hs0 : s0 ∈ S) (hB : y.B ≤ s0.heap.size) (w : World)
  (hc : Cls (j :: j2 :: flI e y s H) S w) :
  Calls Tryd.prog 47 [.pointer (some ⟨y.bs, 0, none⟩), .int .i64 id].toArray w fun r w' => ∃ z : Nat × List (Int × Nat), r = .returned (slW y.N.length z.1) ∧ ((ixF e id, z.1) ∈ (s.with z.2).P e y ∧ FSOk e y (s.with z.2)) ∧ Cls (j :: j2 :: flI e y (s.with z.2) H) S w' := by
 have h : (j :: j2 :: flI e y s H).Perm (flI e y s (j :: j2 :: H)) := (List.perm_append_comm (l₁ := [_, _]) (l₂ := [_, _, _, _])).append_right H
 refine (identI_calls e y s hy hs id hid _ S s0 hs0 hB w (hc.perm h)).mono fun r w' ⟨b, M', h1, h2, h3, h4⟩ => ⟨(b, M'), h1, ⟨h2, h3⟩, ?_⟩
 exact h4.perm ((List.perm_append_comm (l₁ := [_, _]) (l₂ := [_, _, _, _])).append_right H : (j :: j2 :: flI e y (s.with M') H).Perm (flI e y (s.with M') (j :: j2 :: H))).symm
theorem intoY_calls (e : List Ex) (y : FY) (s : FS) (hy : FYOk e y) (hs : FSOk e y s) (p b q c : Nat) (hp : (p, b) ∈ s.P e y) (hq : (q, c) ∈ s.P e y) (j j2 : Eng.Item) (H : List Eng.Item) (S : List World) (w : World)
  (hc : Cls (j :: j2 :: flI e y s H) S w) :
  Calls Tryd.prog 46 [.pointer (some ⟨y.bs, 0, none⟩), slW y.N.length b, slW y.N.length c].toArray w fun r w' => ∃ _u : Unit, r = .returned (.tuple #[]) ∧ FSOk e y (s.into p q) ∧ Cls (j :: j2 :: flI e y (s.into p q) H) S w' := by
 have h : ∀ s : FS, (j :: j2 :: flI e y s H).Perm (flI e y s (j :: j2 :: H)) := fun s => (List.perm_append_comm (l₁ := [_, _]) (l₂ := [_, _, _, _])).append_right H
 exact (intoI_calls e y s hy hs p b q c hp hq _ S w (hc.perm (h s))).mono fun r w' ⟨h1, h2, h3⟩ => ⟨(), h1, h2, h3.perm (h _).symm⟩
theorem branches_calls (s0 : World) (e : List Ex) (y : FY) (hy : FYOk e y) (hyB : y.B = s0.heap.size) (hbs : s0.heap.size ≤ y.bs) (hbm : s0.heap.size ≤ y.bm) (i : Nat) (x : Ex) (xy : ExY) (hx : e[i]? = some x) (hok : ExOk s0 (low s0) x xy) (ho : x.op = 7 ∨ x.op = 13)
  (s : FS) (hs : FSOk e y s) (H : List Eng.Item) (hno : ∀ k, k < s0.heap.size → NotOwned H k) (S : List World) (hs0 : s0 ∈ S) (hSS : ∀ s ∈ S, s.heap.size ≤ s0.heap.size) (w : World) (hc : Cls (flI e y s H) S w) :
  Calls Tryd.prog 49 [.pointer (some ⟨y.bs, 0, none⟩), .int .i64 (i : Int), .agg (exC x xy).toArray].toArray w fun r w' => ∃ s', r = .returned (.tuple #[]) ∧ FStep e y s (eStat e.length (ixF e) i x) s' ∧ Cls (flI e y s' H) S w' := by
 have hsh := hy.ok.sh i x hx
 have hn := hy.len
 have hlen := hy.ok.len
 have hil := (List.getElem?_eq_some_iff.1 hx).1
 have hkl := hok.kl
 have hal := hok.al
 have hka := hsh.alts ho
 have hLim : ∀ k, s0.heap.size ≤ k → AllLe S k := fun k hk => AllLe.of fun s hs => Nat.le_trans (hSS s hs) hk
 have hes : eStat e.length (ixF e) i x = ((List.range x.alts.length).flatMap fun k => eAlt e.length (ixF e) i x k (x.alts.getD k ⟨0, []⟩)) ++ (if x.op = 13 then [(e.length, i)] else []) := by
  unfold eStat
  rw [if_neg (by omega), if_neg (by omega), if_neg (by omega), if_pos ho]
 rw [hes]
 obtain ⟨bi, hbi, hrowi⟩ := own_ex hy hil
 obtain ⟨ps, hps, harr⟩ := hok.alts
 have hpl : x.alts.length = ps.length := by rw [← hps, List.length_map]
 refine enter Tryd.func49 rfl Tryd.ntmps49 rfl hc ?_
 (simp only [argEnv, Nat.zero_add, Nat.reduceAdd])
 obtain ⟨ak, k0, bk00, hk0', hqk, habk, hcellk0, hbk00, hki0, hkN0, hrow0⟩ := kid_ex hy hx hok (k := 0) (by omega)
 unfold exC
 rw [hqk]
 apply W.sr
 apply OL.box; rfl; rfl; exact CellsL.agg; (intro bk hbk; have hbk0 := hbk.mem s0 hs0)
 apply OL.nx
 apply W.seq
 apply W.sr
 apply ofa; rfl; rfl; rfl
 apply old; rfl; rfl; exact .head _; rfl; rfl
 apply oop; rfl; apply Pev.len_slice; rfl; exact yes; rfl
 apply omv; rfl; rfl
 apply OL.nx
 apply W.block
 revert hbk0
 revert bk
 intro b5 hb5 hb50
 refine W.loop (G := Nat × FS) (fun G => G.1 ≤ x.alts.length ∧ FStep e y s ((List.range G.1).flatMap fun k => eAlt e.length (ixF e) i x k (x.alts.getD k ⟨0, []⟩)) G.2) (fun G => x.alts.length - G.1)
  (fun G => [(0, true, .pointer (some ⟨y.bs, 0, none⟩)), (1, true, .int .i64 (i : Int)), (5, true, .pointer (some ⟨b5, 0, none⟩)), (11, true, .slice xy.a.1 x.alts.length xy.a.2), (12, true, .int .i64 (x.alts.length : Int)), (13, true, .int .i64 (G.1 : Int))])
  (fun G => Cls (blk b5 43 [.int .i64 x.op, .int .i64 x.n, .slice xy.b.1 x.binds.length xy.b.2, .slice (some ak) x.kids.length xy.k.2, .slice xy.a.1 x.alts.length xy.a.2] :: flI e y G.2 H) S) (0, s) ⟨Nat.zero_le _, .nil hs⟩ (by exact Sub.au) (fun w' hw' => hw') ?_
 rintro ⟨k, s1⟩ ⟨hk, hst⟩
 simp only at hk hst ⊢
 have hs1 := hst.ok
 apply W.sr
 apply obn; rfl; rfl; rfl; apply Bin.lss
 apply OL.nx
 apply W.seq
 (refine W.cnd (fun hlt => ?_) (fun hlt => ?_)) <;> (try (exfalso; first | omega | exact hlt trivial | contradiction))
 ·obtain ⟨aa, u, hqa, hab, hu, hcellA, hokA⟩ := harr.get (show k < ps.length by omega)
  have hab : aa.block < s0.heap.size := hab
  have hcellA : CellsAt s0 (aa.add (k * 2)) [.int .i64 u.1.tag, .slice u.2.1 u.1.binds.length u.2.2] := hcellA
  obtain ⟨hok1, hok2, hok3⟩ := hokA
  have hua : x.alts[k]? = some u.1 := by rw [← hps, List.getElem?_map, hu]; rfl
  have hug : x.alts.getD k ⟨0, []⟩ = u.1 := by rw [List.getD_eq_getElem?_getD, hua]; rfl
  rw [hqa]
  unfold flI FY.c
  apply W.sk
  apply W.sb
  apply W.sr
  apply omv; rfl; rfl
  apply oop; rfl; apply Pev.idx; rfl; exact yes; rfl; exact yes; rfl; rfl; intro hcond; omega
  apply oop; rfl; apply Pev.load_keptA; rfl; exact yes; assumption; rfl; intro hcond; assumption; rfl; intro hcond; (rw [add_block]; assumption); intro hcond; (focus ((try simp only [add_block]); (repeat (first | exact NotOwned.nil | exact hno _ (by omega) | exact hnr _ (by omega) | refine NotOwned.any (hXn _ (by omega)) ?_ | refine NotOwned.blk (by omega) ?_ | refine NotOwned.row (by omega) ?_ | refine NotOwned.rws (by omega) ?_ | refine NotOwned.pile (by omega) ?_ | refine NotOwned.pool (by omega) ?_ | refine NotOwned.bag (by omega) ?_ | refine NotOwned.mapI (by omega) ?_ | apply NotOwned.bif | refine NotOwned.nothing ?_)); done))
  apply OL.alloc; rfl; rfl; exact CellsL.agg; (intro bk hbk; have hbk0 := hbk.mem s0 hs0)
  apply oas; rfl; rfl
  apply OL.storeB; rfl; rfl; exact CellsL.agg; rfl; rfl; rfl; exact Swap.au; exact Put.au
  apply OL.nx
  apply W.seq
  apply W.sr
  apply ofa; rfl; rfl; rfl
  apply old; rfl; rfl; exact .head _; rfl; rfl
  apply oop; rfl; apply Pev.len_slice; rfl; exact yes; rfl
  apply omv; rfl; rfl
  apply OL.nx
  apply W.block
  revert hbk0
  revert bk
  intro b7 hb7 hb70
  refine W.loop (G := Nat × FS) (fun G => G.1 ≤ u.1.binds.length ∧ FStep e y s1 ((List.range G.1).map fun m => (ixF e (u.1.binds.getD m 0), srcA e.length x k m)) G.2) (fun G => u.1.binds.length - G.1)
   (fun G => [(0, true, .pointer (some ⟨y.bs, 0, none⟩)), (1, true, .int .i64 (i : Int)), (5, true, .pointer (some ⟨b5, 0, none⟩)), (6, true, .int .i64 (k : Int)), (11, true, .slice (some aa) x.alts.length xy.a.2), (12, true, .int .i64 (x.alts.length : Int)), (13, true, .int .i64 (k : Int)), (19, true, .slice u.2.1 u.1.binds.length u.2.2), (20, true, .int .i64 (u.1.binds.length : Int)), (21, true, .int .i64 (G.1 : Int))])
   (fun G => Cls (blk b7 79 [.int .i64 u.1.tag, .slice u.2.1 u.1.binds.length u.2.2] :: blk b5 43 [.int .i64 x.op, .int .i64 x.n, .slice xy.b.1 x.binds.length xy.b.2, .slice (some ak) x.kids.length xy.k.2, .slice (some aa) x.alts.length xy.a.2] :: flI e y G.2 H) S) (0, s1) ⟨Nat.zero_le _, .nil hs1⟩ (by exact Sub.au) (fun w' hw' => hw') ?_
  rintro ⟨m, s2⟩ ⟨hm, hst2⟩
  simp only at hm hst2 ⊢
  have hs2 := hst2.ok
  apply W.sr
  apply obn; rfl; rfl; rfl; apply Bin.lss
  apply OL.nx
  apply W.seq
  (refine W.cnd (fun hlt2 => ?_) (fun hlt2 => ?_)) <;> (try (exfalso; first | omega | exact hlt2 trivial | contradiction))
  ·obtain ⟨av, v, hqv, habv, hv, hcellv⟩ := hok3.get (show m < u.1.binds.length by omega)
   have habv : av.block < s0.heap.size := habv
   have hgv : u.1.binds.getD m 0 = v := by rw [List.getD_eq_getElem?_getD, hv]; rfl
   have hid : v ∈ e.flatMap bindersX := FOk.alt hx (List.mem_of_getElem? hua) (List.mem_of_getElem? hv)
   unfold flI FY.c
   rw [hqv]
   apply W.sk
   apply W.sb
   apply W.sr
   apply omv; rfl; rfl
   apply oop; rfl; apply Pev.idx; rfl; exact yes; rfl; exact yes; rfl; rfl; intro hcond; omega
   apply oop; rfl; apply Pev.load_kept; rfl; exact yes; assumption; rfl; intro hcond; assumption; intro hcond; (rw [add_block]; assumption); intro hcond; (focus ((try simp only [add_block]); (repeat (first | exact NotOwned.nil | exact hno _ (by omega) | exact hnr _ (by omega) | refine NotOwned.any (hXn _ (by omega)) ?_ | refine NotOwned.blk (by omega) ?_ | refine NotOwned.row (by omega) ?_ | refine NotOwned.rws (by omega) ?_ | refine NotOwned.pile (by omega) ?_ | refine NotOwned.pool (by omega) ?_ | refine NotOwned.bag (by omega) ?_ | refine NotOwned.mapI (by omega) ?_ | apply NotOwned.bif | refine NotOwned.nothing ?_)); done))
   apply oas; rfl; rfl
   apply oas; rfl; rfl
   apply OL.nx
   apply W.block
   apply W.sr
   apply ofa; rfl; rfl; rfl
   apply old; rfl; rfl; exact .tail _ (.head _); rfl; rfl
   apply obn; rfl; rfl; rfl; apply Bin.eql
   apply omv; rfl; rfl
   apply oy; rfl; rfl; rfl; apply Pev.move; rfl; exact yes
   apply oy; rfl; rfl; rfl; apply Pev.bin; rfl; exact fun h => h; rfl; exact yes; intro hcond; apply Bin.eql
   apply oop; rfl; apply Pev.pick_and; rfl; exact yes; rfl; exact fun h => h
   apply oas; rfl; rfl
   apply OL.nx
   have hu0 : u.2.1 = some av := hqv
   refine W.cond rfl (fun hc1 => ?_) (fun hc1 => ?_)
   ·have hc2 : x.op = 13 ∧ k = 0 := by simp only [Bool.and_eq_true, decide_eq_true_eq] at hc1; omega
    have hsrc : srcA e.length x k m = k0 := by unfold srcA; rw [if_pos hc2, hk0']
    skip
    refine W.regzC (C0 := Cls (blk b7 79 [.int .i64 u.1.tag, .slice (some av) u.1.binds.length u.2.2] :: blk b5 43 [.int .i64 x.op, .int .i64 x.n, .slice xy.b.1 x.binds.length xy.b.2, .slice (some ak) x.kids.length xy.k.2, .slice (some aa) x.alts.length xy.a.2] :: blk y.bs 56 [.slice y.qe y.N.length y.ce, .slice (some ⟨y.gn, 0, none⟩) y.N.length y.cn, .map (some y.bm), slW y.N.length y.bh, slW y.N.length y.ba, .bool s2.mv] :: row y.B y.O (some ⟨y.gn, 0, none⟩) y.N.length y.cn 52 1 (y.N.map (slW y.N.length)) :: H) S) (by (repeat (first | exact ZSplit.nil | apply ZSplit.pure rfl | apply ZSplit.tail))) (by kernel_rfl) (by decide +kernel) (fun w hw => hw.drew) (fun w hw => hw.thin (.keep (.keep (.keep (.any (fun k hk => hLim k (by rw [show k = y.bm from hk]; exact hbm)) (.any (fun k hk => hLim k (by rw [← hyB]; exact hk.1)) .same)))))) ?_
    apply ZL.op rfl; exact Guard.none; rfl; rfl; apply Pev.move; rfl; exact yes
    apply ZL.op rfl; exact Guard.none; rfl; rfl; apply Pev.move; rfl; exact yes
    apply ZL.op rfl; exact Guard.none; rfl; rfl; apply Pev.move; rfl; exact yes
    apply ZL.op rfl; exact Guard.none; rfl; rfl; apply Pev.move; rfl; exact yes
    apply ZL.op rfl; exact Guard.none; rfl; rfl; apply Pev.nil_ptr; rfl; exact yes
    apply ZL.op rfl; exact Guard.none; rfl; rfl; apply Pev.fld; rfl; exact yes; rfl
    apply ZL.ld rfl; exact Guard.none; rfl; rfl; apply Pev.load_blk; rfl; exact yes; exact .tail _ (.tail _ (.head _)); rfl; rfl
    apply ZL.op rfl; exact Guard.none; rfl; rfl; apply Pev.fld; rfl; exact yes; rfl
    apply ZL.ld rfl; exact Guard.none; rfl; rfl; apply Pev.load_blk; rfl; exact yes; exact .tail _ (.head _); rfl; rfl
    apply ZL.op rfl; exact Guard.none; rfl; rfl; apply Pev.idx; rfl; exact yes; rfl; exact yes; rfl; rfl; intro hcond; (simp only [Bool.and_eq_true, Bool.or_eq_true, Bool.not_eq_true', decide_eq_true_eq, decide_eq_false_iff_not] at *; omega)
    apply ZL.ld rfl; exact Guard.none; rfl; rfl; apply Pev.load_kept; rfl; exact yes; assumption; rfl; intro hcond; assumption; intro hcond; assumption; intro hcond; exact NotOwned.au
    apply ZL.op rfl; exact Guard.none; rfl; rfl; apply Pev.idxB; rfl; exact yes; rfl; exact yes; rfl; intro hcond; omega; rfl
    apply ZL.ld rfl; exact Guard.none; rfl; rfl; apply Pev.load_row; rfl; exact yes; apply List.Mem.tail; exact .tail _ (.tail _ (.head _)); rfl; assumption
    apply ZL.nilC
    apply TL.one rfl
    refine OL.callE (α := Nat × List (Int × Nat)) (fun z => slW y.N.length z.1) (fun z => (ixF e v, z.1) ∈ (s2.with z.2).P e y ∧ FSOk e y (s2.with z.2)) (fun z => Cls (blk b7 79 [.int .i64 u.1.tag, .slice (some av) u.1.binds.length u.2.2] :: blk b5 43 [.int .i64 x.op, .int .i64 x.n, .slice xy.b.1 x.binds.length xy.b.2, .slice (some ak) x.kids.length xy.k.2, .slice (some aa) x.alts.length xy.a.2] :: flI e y (s2.with z.2) H) S) rfl rfl (by exact Args.au) (fun w2 hw2 => identX_calls e y s2 hy hs2 v hid _ _ H S s0 hs0 (by omega) w2 hw2) ?_
    rintro ⟨bv, M1⟩ ⟨hbv, hs3⟩
    simp only at hbv hs3 ⊢
    refine OL.nil (At.tk (fun w hw => hw.thin (.keep (.keep (.keep (.any (fun k hk => hLim k (by rw [show k = y.bm from hk]; exact hbm)) (.any (fun k hk => hLim k (by rw [← hyB]; exact hk.1)) .same)))))) ?_)
    apply TL.one rfl
    refine OL.callE (α := Unit) (fun _ => .tuple #[]) (fun _ => FSOk e y ((s2.with M1).into (ixF e v) k0)) (fun _ => Cls (blk b7 79 [.int .i64 u.1.tag, .slice (some av) u.1.binds.length u.2.2] :: blk b5 43 [.int .i64 x.op, .int .i64 x.n, .slice xy.b.1 x.binds.length xy.b.2, .slice (some ak) x.kids.length xy.k.2, .slice (some aa) x.alts.length xy.a.2] :: flI e y ((s2.with M1).into (ixF e v) k0) H) S) rfl rfl (by exact Args.au) (fun w2 hw2 => intoY_calls e y _ hy hs3 (ixF e v) bv k0 bk00 hbv (P_node hbk00) _ _ H S w2 hw2) ?_
    rintro ⟨⟩ hs4
    apply OL.nil
    with_reducible apply At.tn; decide +kernel
    apply TL.nil
    with_reducible apply At.np
    with_reducible apply At.in_normal
    with_reducible apply At.in_normal
    with_reducible apply At.next
    apply W.reg
    apply obn; rfl; rfl; rfl; apply Bin.add_in; omega
    apply omv; rfl; rfl
    apply OL.nil
    refine At.again (m + 1, (s2.with M1).into (ixF e v) k0) ⟨by omega, ?_⟩ (by simp only; omega) (by exact Sub.au) (fun w' hw' => hw')
    rw [List.range_succ, List.map_append, List.map_singleton, hgv, hsrc]
    exact hst2.app hs1 (FStep.with (.one hs4))
   have hc2 : ¬ (x.op = 13 ∧ k = 0) := by intro hh; simp only [Bool.and_eq_false_iff, decide_eq_false_iff_not] at hc1; omega
   apply W.sr
   apply ofa; rfl; rfl; rfl
   apply old; rfl; rfl; exact .tail _ (.head _); rfl; rfl
   apply obn; rfl; rfl; rfl; apply Bin.eql
   apply omv; rfl; rfl
   apply oy; rfl; rfl; rfl; apply Pev.move; rfl; exact yes
   apply oy; rfl; rfl; rfl; apply Pev.bin; rfl; exact fun h => h; rfl; exact yes; intro hcond; apply Bin.eql
   apply oop; rfl; apply Pev.pick_and; rfl; exact yes; rfl; exact fun h => h
   apply oas; rfl; rfl
   apply OL.nx
   refine W.cond rfl (fun hd1 => ?_) (fun hd1 => ?_)
   ·have hd2 : x.op = 13 ∧ m = 1 := by simp only [Bool.and_eq_true, decide_eq_true_eq] at hd1; omega
    have hsrc : srcA e.length x k m = e.length + 1 := by unfold srcA; rw [if_neg hc2, if_pos hd2]
    skip
    refine W.regzC (C0 := Cls (blk b7 79 [.int .i64 u.1.tag, .slice (some av) u.1.binds.length u.2.2] :: blk b5 43 [.int .i64 x.op, .int .i64 x.n, .slice xy.b.1 x.binds.length xy.b.2, .slice (some ak) x.kids.length xy.k.2, .slice (some aa) x.alts.length xy.a.2] :: blk y.bs 56 [.slice y.qe y.N.length y.ce, .slice (some ⟨y.gn, 0, none⟩) y.N.length y.cn, .map (some y.bm), slW y.N.length y.bh, slW y.N.length y.ba, .bool s2.mv] :: row y.B y.O (some ⟨y.gn, 0, none⟩) y.N.length y.cn 52 1 (y.N.map (slW y.N.length)) :: H) S) (by (repeat (first | exact ZSplit.nil | apply ZSplit.pure rfl | apply ZSplit.tail))) (by kernel_rfl) (by decide +kernel) (fun w hw => hw.drew) (fun w hw => hw.thin (.keep (.keep (.keep (.any (fun k hk => hLim k (by rw [show k = y.bm from hk]; exact hbm)) (.any (fun k hk => hLim k (by rw [← hyB]; exact hk.1)) .same)))))) ?_
    apply ZL.op rfl; exact Guard.none; rfl; rfl; apply Pev.move; rfl; exact yes
    apply ZL.op rfl; exact Guard.none; rfl; rfl; apply Pev.move; rfl; exact yes
    apply ZL.op rfl; exact Guard.none; rfl; rfl; apply Pev.move; rfl; exact yes
    apply ZL.op rfl; exact Guard.none; rfl; rfl; apply Pev.move; rfl; exact yes
    apply ZL.op rfl; exact Guard.none; rfl; rfl; apply Pev.nil_ptr; rfl; exact yes
    apply ZL.op rfl; exact Guard.none; rfl; rfl; apply Pev.fld; rfl; exact yes; rfl
    apply ZL.ld rfl; exact Guard.none; rfl; rfl; apply Pev.load_blk; rfl; exact yes; exact .tail _ (.tail _ (.head _)); rfl; rfl
    apply ZL.nilC
    apply TL.one rfl
    refine OL.callE (α := Nat × List (Int × Nat)) (fun z => slW y.N.length z.1) (fun z => (ixF e v, z.1) ∈ (s2.with z.2).P e y ∧ FSOk e y (s2.with z.2)) (fun z => Cls (blk b7 79 [.int .i64 u.1.tag, .slice (some av) u.1.binds.length u.2.2] :: blk b5 43 [.int .i64 x.op, .int .i64 x.n, .slice xy.b.1 x.binds.length xy.b.2, .slice (some ak) x.kids.length xy.k.2, .slice (some aa) x.alts.length xy.a.2] :: flI e y (s2.with z.2) H) S) rfl rfl (by exact Args.au) (fun w2 hw2 => identX_calls e y s2 hy hs2 v hid _ _ H S s0 hs0 (by omega) w2 hw2) ?_
    rintro ⟨bv, M1⟩ ⟨hbv, hs3⟩
    simp only at hbv hs3 ⊢
    refine OL.nil (At.tk (fun w hw => hw.thin (.keep (.keep (.keep (.any (fun k hk => hLim k (by rw [show k = y.bm from hk]; exact hbm)) (.any (fun k hk => hLim k (by rw [← hyB]; exact hk.1)) .same)))))) ?_)
    apply TL.one rfl
    refine OL.callE (α := Unit) (fun _ => .tuple #[]) (fun _ => FSOk e y ((s2.with M1).into (ixF e v) (e.length + 1))) (fun _ => Cls (blk b7 79 [.int .i64 u.1.tag, .slice (some av) u.1.binds.length u.2.2] :: blk b5 43 [.int .i64 x.op, .int .i64 x.n, .slice xy.b.1 x.binds.length xy.b.2, .slice (some ak) x.kids.length xy.k.2, .slice (some aa) x.alts.length xy.a.2] :: flI e y ((s2.with M1).into (ixF e v) (e.length + 1)) H) S) rfl rfl (by exact Args.au) (fun w2 hw2 => intoY_calls e y _ hy hs3 (ixF e v) bv (e.length + 1) y.ba hbv (by rw [← hn]; exact P_again) _ _ H S w2 hw2) ?_
    rintro ⟨⟩ hs4
    apply OL.nil
    with_reducible apply At.tn; decide +kernel
    apply TL.nil
    with_reducible apply At.np
    with_reducible apply At.in_normal
    with_reducible apply At.in_normal
    with_reducible apply At.next
    apply W.reg
    apply obn; rfl; rfl; rfl; apply Bin.add_in; omega
    apply omv; rfl; rfl
    apply OL.nil
    refine At.again (m + 1, (s2.with M1).into (ixF e v) (e.length + 1)) ⟨by omega, ?_⟩ (by simp only; omega) (by exact Sub.au) (fun w' hw' => hw')
    rw [List.range_succ, List.map_append, List.map_singleton, hgv, hsrc]
    exact hst2.app hs1 (FStep.with (.one hs4))
   have hd2 : ¬ (x.op = 13 ∧ m = 1) := by intro hh; simp only [Bool.and_eq_false_iff, decide_eq_false_iff_not] at hd1; omega
   have hsrc : srcA e.length x k m = e.length := by unfold srcA; rw [if_neg hc2, if_neg hd2]
   skip
   refine W.regzC (C0 := Cls (blk b7 79 [.int .i64 u.1.tag, .slice (some av) u.1.binds.length u.2.2] :: blk b5 43 [.int .i64 x.op, .int .i64 x.n, .slice xy.b.1 x.binds.length xy.b.2, .slice (some ak) x.kids.length xy.k.2, .slice (some aa) x.alts.length xy.a.2] :: blk y.bs 56 [.slice y.qe y.N.length y.ce, .slice (some ⟨y.gn, 0, none⟩) y.N.length y.cn, .map (some y.bm), slW y.N.length y.bh, slW y.N.length y.ba, .bool s2.mv] :: row y.B y.O (some ⟨y.gn, 0, none⟩) y.N.length y.cn 52 1 (y.N.map (slW y.N.length)) :: H) S) (by (repeat (first | exact ZSplit.nil | apply ZSplit.pure rfl | apply ZSplit.tail))) (by kernel_rfl) (by decide +kernel) (fun w hw => hw.drew) (fun w hw => hw.thin (.keep (.keep (.keep (.any (fun k hk => hLim k (by rw [show k = y.bm from hk]; exact hbm)) (.any (fun k hk => hLim k (by rw [← hyB]; exact hk.1)) .same)))))) ?_
   apply ZL.op rfl; exact Guard.none; rfl; rfl; apply Pev.move; rfl; exact yes
   apply ZL.op rfl; exact Guard.none; rfl; rfl; apply Pev.move; rfl; exact yes
   apply ZL.op rfl; exact Guard.none; rfl; rfl; apply Pev.move; rfl; exact yes
   apply ZL.op rfl; exact Guard.none; rfl; rfl; apply Pev.move; rfl; exact yes
   apply ZL.op rfl; exact Guard.none; rfl; rfl; apply Pev.nil_ptr; rfl; exact yes
   apply ZL.op rfl; exact Guard.none; rfl; rfl; apply Pev.fld; rfl; exact yes; rfl
   apply ZL.ld rfl; exact Guard.none; rfl; rfl; apply Pev.load_blk; rfl; exact yes; exact .tail _ (.tail _ (.head _)); rfl; rfl
   apply ZL.nilC
   apply TL.one rfl
   refine OL.callE (α := Nat × List (Int × Nat)) (fun z => slW y.N.length z.1) (fun z => (ixF e v, z.1) ∈ (s2.with z.2).P e y ∧ FSOk e y (s2.with z.2)) (fun z => Cls (blk b7 79 [.int .i64 u.1.tag, .slice (some av) u.1.binds.length u.2.2] :: blk b5 43 [.int .i64 x.op, .int .i64 x.n, .slice xy.b.1 x.binds.length xy.b.2, .slice (some ak) x.kids.length xy.k.2, .slice (some aa) x.alts.length xy.a.2] :: flI e y (s2.with z.2) H) S) rfl rfl (by exact Args.au) (fun w2 hw2 => identX_calls e y s2 hy hs2 v hid _ _ H S s0 hs0 (by omega) w2 hw2) ?_
   rintro ⟨bv, M1⟩ ⟨hbv, hs3⟩
   simp only at hbv hs3 ⊢
   refine OL.nil (At.tk (fun w hw => hw.thin (.keep (.keep (.keep (.any (fun k hk => hLim k (by rw [show k = y.bm from hk]; exact hbm)) (.any (fun k hk => hLim k (by rw [← hyB]; exact hk.1)) .same)))))) ?_)
   apply TL.one rfl
   refine OL.callE (α := Unit) (fun _ => .tuple #[]) (fun _ => FSOk e y ((s2.with M1).into (ixF e v) e.length)) (fun _ => Cls (blk b7 79 [.int .i64 u.1.tag, .slice (some av) u.1.binds.length u.2.2] :: blk b5 43 [.int .i64 x.op, .int .i64 x.n, .slice xy.b.1 x.binds.length xy.b.2, .slice (some ak) x.kids.length xy.k.2, .slice (some aa) x.alts.length xy.a.2] :: flI e y ((s2.with M1).into (ixF e v) e.length) H) S) rfl rfl (by exact Args.au) (fun w2 hw2 => intoY_calls e y _ hy hs3 (ixF e v) bv e.length y.bh hbv (by rw [← hn]; exact P_heap) _ _ H S w2 hw2) ?_
   rintro ⟨⟩ hs4
   apply OL.nil
   with_reducible apply At.tn; decide +kernel
   apply TL.nil
   with_reducible apply At.np
   with_reducible apply At.in_normal
   with_reducible apply At.in_normal
   with_reducible apply At.next
   apply W.reg
   apply obn; rfl; rfl; rfl; apply Bin.add_in; omega
   apply omv; rfl; rfl
   apply OL.nil
   refine At.again (m + 1, (s2.with M1).into (ixF e v) e.length) ⟨by omega, ?_⟩ (by simp only; omega) (by exact Sub.au) (fun w' hw' => hw')
   rw [List.range_succ, List.map_append, List.map_singleton, hgv, hsrc]
   exact hst2.app hs1 (FStep.with (.one hs4))
  ·obtain rfl : m = u.1.binds.length := by omega
   obtain ⟨ak2, k1, bk1, hk1', hqk2, habk2, hcellk, hbk1, hki, hkN, hrow⟩ := kid_ex hy hx hok (k := k + 1) (by omega)
   obtain rfl : ak = ak2 := Option.some.inj (hqk.symm.trans hqk2)
   have hcellk1 : s0.cell? (ak.add ((1 + (k : Int)).toNat * 1)) = some (.int .i64 (k1 : Int)) := by rw [show (1 + (k : Int)).toNat = k + 1 by omega]; exact hcellk
   have hea : eAlt e.length (ixF e) i x k u.1 = ((List.range u.1.binds.length).map fun m => (ixF e (u.1.binds.getD m 0), srcA e.length x k m)) ++ [(i, k1)] := by unfold eAlt; rw [hk1']
   unfold flI FY.c
   refine W.xt ?_
   with_reducible apply At.next
   refine W.regn 20 (by (repeat (first | exact SplitN.z | apply SplitN.s))) (by kernel_rfl) (by decide +kernel) (fun w hw => hw.drew) ?_
   apply qmv; rfl; rfl
   apply qmv; rfl; rfl
   apply qop; rfl; apply Pev.nil_ptr; rfl; exact yes
   apply qfa; rfl; rfl; rfl
   apply qld; rfl; rfl; exact .tail _ (.tail _ (.head _)); rfl; rfl
   apply qmv; rfl; rfl
   apply qop; rfl; apply Pev.idxB; rfl; exact yes; rfl; exact yes; rfl; intro hcond; omega; rfl
   apply qop; rfl; apply Pev.load_row; rfl; exact yes; apply List.Mem.tail; apply List.Mem.tail; apply List.Mem.tail; exact .tail _ (.tail _ (.head _)); rfl; assumption
   apply qmv; rfl; rfl
   apply qop; rfl; apply Pev.nil_ptr; rfl; exact yes
   apply qfa; rfl; rfl; rfl
   apply qld; rfl; rfl; exact .tail _ (.tail _ (.head _)); rfl; rfl
   apply qfa; rfl; rfl; rfl
   apply qld; rfl; rfl; exact .tail _ (.head _); rfl; rfl
   apply qmv; rfl; rfl
   apply qbn; rfl; rfl; rfl; apply Bin.add_in; omega
   apply qop; rfl; apply Pev.idx; rfl; exact yes; rfl; exact yes; rfl; rfl; intro hcond; (simp only [Bool.and_eq_true, Bool.or_eq_true, Bool.not_eq_true', decide_eq_true_eq, decide_eq_false_iff_not] at *; omega)
   apply qop; rfl; apply Pev.load_kept; rfl; exact yes; assumption; rfl; intro hcond; assumption; intro hcond; (rw [add_block]; assumption); intro hcond; (focus ((try simp only [add_block]); (repeat (first | exact NotOwned.nil | exact hno _ (by omega) | exact hnr _ (by omega) | refine NotOwned.any (hXn _ (by omega)) ?_ | refine NotOwned.blk (by omega) ?_ | refine NotOwned.row (by omega) ?_ | refine NotOwned.rws (by omega) ?_ | refine NotOwned.pile (by omega) ?_ | refine NotOwned.pool (by omega) ?_ | refine NotOwned.bag (by omega) ?_ | refine NotOwned.mapI (by omega) ?_ | apply NotOwned.bif | refine NotOwned.nothing ?_)); done))
   apply qop; rfl; apply Pev.idxB; rfl; exact yes; rfl; exact yes; rfl; intro hcond; omega; rfl
   apply qop; rfl; apply Pev.load_row; rfl; exact yes; apply List.Mem.tail; apply List.Mem.tail; apply List.Mem.tail; exact .tail _ (.tail _ (.head _)); rfl; assumption
   with_reducible apply QL.tail
   refine OL.callE (α := Unit) (fun _ => .tuple #[]) (fun _ => FSOk e y (s2.into i k1)) (fun _ => Cls (blk b7 79 [.int .i64 u.1.tag, .slice u.2.1 u.1.binds.length u.2.2] :: blk b5 43 [.int .i64 x.op, .int .i64 x.n, .slice xy.b.1 x.binds.length xy.b.2, .slice (some ak) x.kids.length xy.k.2, .slice (some aa) x.alts.length xy.a.2] :: flI e y (s2.into i k1) H) S) rfl rfl (by exact Args.au) (fun w2 hw2 => intoY_calls e y _ hy hs2 i bi k1 bk1 (P_node hbi) (P_node hbk1) _ _ H S w2 hw2) ?_
   rintro ⟨⟩ hs4
   apply OL.nil
   with_reducible apply At.in_normal
   with_reducible apply At.next
   apply W.reg
   apply obn; rfl; rfl; rfl; apply Bin.add_in; omega
   apply omv; rfl; rfl
   apply OL.nil
   refine At.again (k + 1, s2.into i k1) ⟨by omega, ?_⟩ (by simp only; omega) (by exact Sub.au) (fun w' hw' => hw'.thin (.any (fun k hk => by rw [show k = b7 from hk]; exact hb7) .same))
   rw [List.range_succ, List.flatMap_append, List.flatMap_singleton, hug, hea]
   exact hst.app hs (hst2.app hs1 (.one hs4))
 ·obtain rfl : k = x.alts.length := by omega
  unfold flI FY.c
  refine W.xt ?_
  with_reducible apply At.next
  apply W.sr
  apply ofa; rfl; rfl; rfl
  apply old; rfl; rfl; exact .head _; rfl; rfl
  apply obn; rfl; rfl; rfl; apply Bin.eql
  apply OL.nx
  refine W.cond rfl (fun h13 => ?_) (fun h13 => ?_)
  ·have h13 : x.op = 13 := by simpa using h13
   rw [if_pos h13]
   skip
   refine W.regn 12 (by (repeat (first | exact SplitN.z | apply SplitN.s))) (by kernel_rfl) (by decide +kernel) (fun w hw => hw.drew) ?_
   apply qmv; rfl; rfl
   apply qmv; rfl; rfl
   apply qop; rfl; apply Pev.nil_ptr; rfl; exact yes
   apply qfa; rfl; rfl; rfl
   apply qld; rfl; rfl; exact .tail _ (.head _); rfl; rfl
   apply qmv; rfl; rfl
   apply qop; rfl; apply Pev.nil_ptr; rfl; exact yes
   apply qfa; rfl; rfl; rfl
   apply qld; rfl; rfl; exact .tail _ (.head _); rfl; rfl
   apply qmv; rfl; rfl
   apply qop; rfl; apply Pev.idxB; rfl; exact yes; rfl; exact yes; rfl; intro hcond; omega; rfl
   apply qop; rfl; apply Pev.load_row; rfl; exact yes; apply List.Mem.tail; apply List.Mem.tail; exact .tail _ (.tail _ (.head _)); rfl; assumption
   with_reducible apply QL.tail
   refine OL.callE (α := Unit) (fun _ => .tuple #[]) (fun _ => FSOk e y (s1.into e.length i)) (fun _ => Cls (blk b5 43 [.int .i64 x.op, .int .i64 x.n, .slice xy.b.1 x.binds.length xy.b.2, .slice (some ak) x.kids.length xy.k.2, .slice xy.a.1 x.alts.length xy.a.2] :: flI e y (s1.into e.length i) H) S) rfl rfl (by exact Args.au) (fun w2 hw2 => intoX_calls e y s1 hy hs1 e.length y.bh i bi (by rw [← hn]; exact P_heap) (P_node hbi) _ H S w2 hw2) ?_
   rintro ⟨⟩ hs4
   apply OL.nil
   refine At.end_ (At.fin0 rfl (fun w' hw' => ⟨_, rfl, hst.app hs (.one hs4), hw'.thin (.any (fun k hk => by rw [show k = b5 from hk]; exact hb5) .same)⟩))
  ·have h13 : ¬ x.op = 13 := by simpa using h13
   rw [if_neg h13, List.append_nil]
   apply W.skip
   refine At.end_ (At.fin0 rfl (fun w' hw' => ⟨_, rfl, hst, hw'.thin (.any (fun k hk => by rw [show k = b5 from hk]; exact hb5) .same)⟩))
end Go.Proofs.YtkpjndhgicbjjaaDoor.co

/- A switch over one number: comparisons that are known to hold or not. General. No condition. -/
namespace Go.Eng
open Go.RowKit
section
variable {P : Program} {n : Nm} {l : Env} {C : World → Prop} {Q : Exit → Act → World → Prop} {y z : Code}
theorem W.cT {x : Operand} (h : W P n y Q l C) (hx : evl l x = some (true, .bool true) := by rfl) : W P n (.cond x y z) Q l C := W.cond hx (fun _ => h) (fun e => absurd e (by decide))
theorem W.cF {x : Operand} (h : W P n z Q l C) (hx : evl l x = some (true, .bool false) := by rfl) : W P n (.cond x y z) Q l C := W.cond hx (fun e => absurd e (by decide)) (fun _ => h)
variable {id a b : Nat} {x : Operand} {c v : Int} {k : Bool} {t yt ty1 ty2 : TypeId} {p1 p2 : String} {f1 f2 : Array Edge}
theorem W.cmp (hk : decide (v = c) = k) (h : W P n (.cond (.tmp b) y z) Q ((b, true, .bool k) :: (a, true, .bool k) :: l) C) (hx : evl l x = some (true, .int .i64 v)) (ha : (Nat.ble (a + 1) n.n && Nat.ble (b + 1) n.n) = true) :
  W P n (.seq (.region id [⟨some a, .binOp .eql t x (.const (.int .i64 c)) yt, ty1, p1, f1, none⟩, ⟨some b, .assign (.tmp a), ty2, p2, f2, none⟩].toArray false) (.cond (.tmp b) y z)) Q l C := by
 simp only [Bool.and_eq_true] at ha
 refine W.seq (W.reg (obn ha.1 hx rfl Bin.eql (oas ha.2 (v := .bool (decide (v = c))) (by simp only [evl, look, Nat.beq_refl, cond_true]) (OL.nil (At.next ?_)))))
 rw [hk]
 exact h
theorem W.no (h : W P n z Q ((b, true, .bool false) :: (a, true, .bool false) :: l) C) (hx : evl l x = some (true, .int .i64 v) := by rfl) (hv : v ≠ c := by omega) (ha : (Nat.ble (a + 1) n.n && Nat.ble (b + 1) n.n) = true := by rfl) :
  W P n (.seq (.region id [⟨some a, .binOp .eql t x (.const (.int .i64 c)) yt, ty1, p1, f1, none⟩, ⟨some b, .assign (.tmp a), ty2, p2, f2, none⟩].toArray false) (.cond (.tmp b) y z)) Q l C :=
 W.cmp (decide_eq_false hv) (W.cF h (by simp only [evl, look, Nat.beq_refl, cond_true])) hx ha
theorem W.yes (h : W P n y Q ((b, true, .bool true) :: (a, true, .bool true) :: l) C) (hx : evl l x = some (true, .int .i64 v) := by rfl) (hv : v = c := by omega) (ha : (Nat.ble (a + 1) n.n && Nat.ble (b + 1) n.n) = true := by rfl) :
  W P n (.seq (.region id [⟨some a, .binOp .eql t x (.const (.int .i64 c)) yt, ty1, p1, f1, none⟩, ⟨some b, .assign (.tmp a), ty2, p2, f2, none⟩].toArray false) (.cond (.tmp b) y z)) Q l C :=
 W.cmp (decide_eq_true hv) (W.cT h (by simp only [evl, look, Nat.beq_refl, cond_true])) hx ha
theorem W.cmpR (hk : decide (v = c) = k) (h : At n Q .normal ((b, true, .bool k) :: (a, true, .bool k) :: l) C) (hx : evl l x = some (true, .int .i64 v)) (ha : (Nat.ble (a + 1) n.n && Nat.ble (b + 1) n.n) = true) :
  W P n (.region id [⟨some a, .binOp .eql t x (.const (.int .i64 c)) yt, ty1, p1, f1, none⟩, ⟨some b, .assign (.tmp a), ty2, p2, f2, none⟩].toArray false) Q l C := by
 simp only [Bool.and_eq_true] at ha
 refine W.reg (obn ha.1 hx rfl Bin.eql (oas ha.2 (v := .bool (decide (v = c))) (by simp only [evl, look, Nat.beq_refl, cond_true]) (OL.nil ?_)))
 rw [hk]
 exact h
theorem W.noR (h : At n Q .normal ((b, true, .bool false) :: (a, true, .bool false) :: l) C) (hx : evl l x = some (true, .int .i64 v) := by rfl) (hv : v ≠ c := by omega) (ha : (Nat.ble (a + 1) n.n && Nat.ble (b + 1) n.n) = true := by rfl) :
  W P n (.region id [⟨some a, .binOp .eql t x (.const (.int .i64 c)) yt, ty1, p1, f1, none⟩, ⟨some b, .assign (.tmp a), ty2, p2, f2, none⟩].toArray false) Q l C := W.cmpR (decide_eq_false hv) h hx ha
theorem W.yesR (h : At n Q .normal ((b, true, .bool true) :: (a, true, .bool true) :: l) C) (hx : evl l x = some (true, .int .i64 v) := by rfl) (hv : v = c := by omega) (ha : (Nat.ble (a + 1) n.n && Nat.ble (b + 1) n.n) = true := by rfl) :
  W P n (.region id [⟨some a, .binOp .eql t x (.const (.int .i64 c)) yt, ty1, p1, f1, none⟩, ⟨some b, .assign (.tmp a), ty2, p2, f2, none⟩].toArray false) Q l C := W.cmpR (decide_eq_true hv) h hx ha
end
end Go.Eng

/- The walk of flow's node. Conditions: none. -/
namespace Go.Proofs.YtkpjndhgicbjjaaDoor.co
open Go.RowKit Go.Eng Go.Co
set_option maxRecDepth 100000
theorem node_set (s0 : World) (e : List Ex) (y : FY) (hy : FYOk e y) (hyB : y.B = s0.heap.size) (hbs : s0.heap.size ≤ y.bs) (hbm : s0.heap.size ≤ y.bm) (i : Nat) (x : Ex) (xy : ExY) (hx : e[i]? = some x) (hok : ExOk s0 (low s0) x xy) (ho : x.op = 11)
  (s : FS) (hs : FSOk e y s) (H : List Eng.Item) (hno : ∀ k, k < s0.heap.size → NotOwned H k) (S : List World) (hs0 : s0 ∈ S) (hSS : ∀ s ∈ S, s.heap.size ≤ s0.heap.size) (w : World) (hc : Cls (flI e y s H) S w) :
  Calls Tryd.prog 23 [.pointer (some ⟨y.bs, 0, none⟩), .int .i64 (i : Int), .agg (exC x xy).toArray].toArray w fun r w' => ∃ s', r = .returned (.tuple #[]) ∧ FStep e y s (eStat e.length (ixF e) i x) s' ∧ Cls (flI e y s' H) S w' := by
 have hsh := hy.ok.sh i x hx
 have hn := hy.len
 have hlen := hy.ok.len
 have hil := (List.getElem?_eq_some_iff.1 hx).1
 have hkl := hok.kl
 have hbl := hok.bl
 have hLim : ∀ k, s0.heap.size ≤ k → AllLe S k := fun k hk => AllLe.of fun s hs => Nat.le_trans (hSS s hs) hk
 obtain ⟨bi, hbi, hrowi⟩ := own_ex hy hil
 have hkk := hsh.two ho
 obtain ⟨ak, k1, bk1, hk1, hqk, habk, hcell1, hbk1, hki1, hkN1, hrow1⟩ := kid_ex hy hx hok (k := 1) (by omega)
 have hes : eStat e.length (ixF e) i x = [(e.length, k1)] := by
  unfold eStat
  simp [ho, hk1]
 rw [hes]
 refine enter Tryd.func23 rfl Tryd.ntmps23 rfl hc ?_
 (simp only [argEnv, Nat.zero_add, Nat.reduceAdd])
 unfold flI FY.c exC
 rw [hqk]
 apply W.sr
 apply OL.box; rfl; rfl; exact CellsL.agg; (intro bk hbk; have hbk0 := hbk.mem s0 hs0)
 apply OL.nsr
 apply ofa; rfl; rfl; rfl
 apply old; rfl; rfl; exact .head _; rfl; rfl
 apply OL.nx
 apply W.block
 refine W.no ?_
 refine W.no ?_
 apply W.seq
 refine W.no ?_
 refine W.noR ?_
 with_reducible apply At.next
 refine W.cF ?_
 apply W.seq
 refine W.no ?_
 refine W.noR ?_
 with_reducible apply At.next
 refine W.cF ?_
 apply W.seq
 refine W.no ?_
 refine W.noR ?_
 with_reducible apply At.next
 refine W.cF ?_
 refine W.no ?_
 refine W.yes ?_
 revert hbk0
 revert bk
 intro b5 hb5 hb50
 refine W.regn 15 (by (repeat (first | exact SplitN.z | apply SplitN.s))) (by kernel_rfl) (by decide +kernel) (fun w hw => hw.drew) ?_
 apply qmv; rfl; rfl
 apply qmv; rfl; rfl
 apply qop; rfl; apply Pev.nil_ptr; rfl; exact yes
 apply qfa; rfl; rfl; rfl
 apply qld; rfl; rfl; exact .tail _ (.head _); rfl; rfl
 apply qmv; rfl; rfl
 apply qop; rfl; apply Pev.nil_ptr; rfl; exact yes
 apply qfa; rfl; rfl; rfl
 apply qld; rfl; rfl; exact .tail _ (.head _); rfl; rfl
 apply qfa; rfl; rfl; rfl
 apply qld; rfl; rfl; exact .head _; rfl; rfl
 apply qop; rfl; apply Pev.idx; rfl; exact yes; rfl; exact yes; rfl; rfl; intro hcond; (simp only [Bool.and_eq_true, Bool.or_eq_true, Bool.not_eq_true', decide_eq_true_eq, decide_eq_false_iff_not] at *; omega)
 apply qop; rfl; apply Pev.load_kept; rfl; exact yes; assumption; rfl; intro hcond; assumption; intro hcond; assumption; intro hcond; (focus ((try simp only [add_block]); (repeat (first | exact NotOwned.nil | exact hno _ (by omega) | exact hnr _ (by omega) | refine NotOwned.any (hXn _ (by omega)) ?_ | refine NotOwned.blk (by omega) ?_ | refine NotOwned.row (by omega) ?_ | refine NotOwned.rws (by omega) ?_ | refine NotOwned.pile (by omega) ?_ | refine NotOwned.pool (by omega) ?_ | refine NotOwned.bag (by omega) ?_ | refine NotOwned.mapI (by omega) ?_ | apply NotOwned.bif | refine NotOwned.nothing ?_)); done))
 apply qop; rfl; apply Pev.idxB; rfl; exact yes; rfl; exact yes; rfl; intro hcond; omega; rfl
 apply qop; rfl; apply Pev.load_row; rfl; exact yes; apply List.Mem.tail; apply List.Mem.tail; exact .tail _ (.tail _ (.head _)); rfl; assumption
 with_reducible apply QL.tail
 refine OL.callE (α := Unit) (fun _ => .tuple #[]) (fun _ => FSOk e y (s.into e.length k1)) (fun _ => Cls (blk b5 43 [.int .i64 x.op, .int .i64 x.n, .slice xy.b.1 x.binds.length xy.b.2, .slice (some ak) x.kids.length xy.k.2, .slice xy.a.1 x.alts.length xy.a.2] :: flI e y (s.into e.length k1) H) S) rfl rfl (by exact Args.au) (fun w2 hw2 => intoX_calls e y _ hy (by assumption) e.length y.bh k1 bk1 (by rw [← hn]; exact P_heap) (P_node hbk1) _ H S w2 hw2) ?_
 rintro ⟨⟩ hs1
 apply OL.nil
 with_reducible apply At.in_normal
 refine At.end_ (At.fin0 rfl (fun w' hw' => ⟨_, rfl, .one hs1, hw'.thin (.any (fun k hk => by rw [show k = b5 from hk]; exact hb5) .same)⟩))
theorem node_perform (s0 : World) (e : List Ex) (y : FY) (hy : FYOk e y) (hyB : y.B = s0.heap.size) (hbs : s0.heap.size ≤ y.bs) (hbm : s0.heap.size ≤ y.bm) (i : Nat) (x : Ex) (xy : ExY) (hx : e[i]? = some x) (hok : ExOk s0 (low s0) x xy) (ho : x.op = 12)
  (s : FS) (hs : FSOk e y s) (H : List Eng.Item) (hno : ∀ k, k < s0.heap.size → NotOwned H k) (S : List World) (hs0 : s0 ∈ S) (hSS : ∀ s ∈ S, s.heap.size ≤ s0.heap.size) (w : World) (hc : Cls (flI e y s H) S w) :
  Calls Tryd.prog 23 [.pointer (some ⟨y.bs, 0, none⟩), .int .i64 (i : Int), .agg (exC x xy).toArray].toArray w fun r w' => ∃ s', r = .returned (.tuple #[]) ∧ FStep e y s (eStat e.length (ixF e) i x) s' ∧ Cls (flI e y s' H) S w' := by
 have hsh := hy.ok.sh i x hx
 have hn := hy.len
 have hlen := hy.ok.len
 have hil := (List.getElem?_eq_some_iff.1 hx).1
 have hkl := hok.kl
 have hbl := hok.bl
 have hLim : ∀ k, s0.heap.size ≤ k → AllLe S k := fun k hk => AllLe.of fun s hs => Nat.le_trans (hSS s hs) hk
 obtain ⟨bi, hbi, hrowi⟩ := own_ex hy hil
 have hkk := hsh.one ho
 obtain ⟨ak, k1, bk1, hk1, hqk, habk, hcell1, hbk1, hki1, hkN1, hrow1⟩ := kid_ex hy hx hok (k := 0) (by omega)
 have hes : eStat e.length (ixF e) i x = [(e.length, k1)] ++ [(i, e.length)] := by
  unfold eStat
  simp [ho, hk1]
 rw [hes]
 refine enter Tryd.func23 rfl Tryd.ntmps23 rfl hc ?_
 (simp only [argEnv, Nat.zero_add, Nat.reduceAdd])
 unfold flI FY.c exC
 rw [hqk]
 apply W.sr
 apply OL.box; rfl; rfl; exact CellsL.agg; (intro bk hbk; have hbk0 := hbk.mem s0 hs0)
 apply OL.nsr
 apply ofa; rfl; rfl; rfl
 apply old; rfl; rfl; exact .head _; rfl; rfl
 apply OL.nx
 apply W.block
 refine W.no ?_
 refine W.no ?_
 apply W.seq
 refine W.no ?_
 refine W.noR ?_
 with_reducible apply At.next
 refine W.cF ?_
 apply W.seq
 refine W.no ?_
 refine W.noR ?_
 with_reducible apply At.next
 refine W.cF ?_
 apply W.seq
 refine W.no ?_
 refine W.noR ?_
 with_reducible apply At.next
 refine W.cF ?_
 refine W.no ?_
 refine W.no ?_
 refine W.yes ?_
 apply W.seq
 revert hbk0
 revert bk
 intro b5 hb5 hb50
 refine W.regn 15 (by (repeat (first | exact SplitN.z | apply SplitN.s))) (by kernel_rfl) (by decide +kernel) (fun w hw => hw.drew) ?_
 apply qmv; rfl; rfl
 apply qmv; rfl; rfl
 apply qop; rfl; apply Pev.nil_ptr; rfl; exact yes
 apply qfa; rfl; rfl; rfl
 apply qld; rfl; rfl; exact .tail _ (.head _); rfl; rfl
 apply qmv; rfl; rfl
 apply qop; rfl; apply Pev.nil_ptr; rfl; exact yes
 apply qfa; rfl; rfl; rfl
 apply qld; rfl; rfl; exact .tail _ (.head _); rfl; rfl
 apply qfa; rfl; rfl; rfl
 apply qld; rfl; rfl; exact .head _; rfl; rfl
 apply qop; rfl; apply Pev.idx; rfl; exact yes; rfl; exact yes; rfl; rfl; intro hcond; (simp only [Bool.and_eq_true, Bool.or_eq_true, Bool.not_eq_true', decide_eq_true_eq, decide_eq_false_iff_not] at *; omega)
 apply qop; rfl; apply Pev.load_kept; rfl; exact yes; assumption; rfl; intro hcond; assumption; intro hcond; assumption; intro hcond; (focus ((try simp only [add_block]); (repeat (first | exact NotOwned.nil | exact hno _ (by omega) | exact hnr _ (by omega) | refine NotOwned.any (hXn _ (by omega)) ?_ | refine NotOwned.blk (by omega) ?_ | refine NotOwned.row (by omega) ?_ | refine NotOwned.rws (by omega) ?_ | refine NotOwned.pile (by omega) ?_ | refine NotOwned.pool (by omega) ?_ | refine NotOwned.bag (by omega) ?_ | refine NotOwned.mapI (by omega) ?_ | apply NotOwned.bif | refine NotOwned.nothing ?_)); done))
 apply qop; rfl; apply Pev.idxB; rfl; exact yes; rfl; exact yes; rfl; intro hcond; omega; rfl
 apply qop; rfl; apply Pev.load_row; rfl; exact yes; apply List.Mem.tail; apply List.Mem.tail; exact .tail _ (.tail _ (.head _)); rfl; assumption
 with_reducible apply QL.tail
 refine OL.callE (α := Unit) (fun _ => .tuple #[]) (fun _ => FSOk e y (s.into e.length k1)) (fun _ => Cls (blk b5 43 [.int .i64 x.op, .int .i64 x.n, .slice xy.b.1 x.binds.length xy.b.2, .slice (some ak) x.kids.length xy.k.2, .slice xy.a.1 x.alts.length xy.a.2] :: flI e y (s.into e.length k1) H) S) rfl rfl (by exact Args.au) (fun w2 hw2 => intoX_calls e y _ hy (by assumption) e.length y.bh k1 bk1 (by rw [← hn]; exact P_heap) (P_node hbk1) _ H S w2 hw2) ?_
 rintro ⟨⟩ hs1
 unfold flI FY.c
 apply OL.nx
 refine W.regn 12 (by (repeat (first | exact SplitN.z | apply SplitN.s))) (by kernel_rfl) (by decide +kernel) (fun w hw => hw.drew) ?_
 apply qmv; rfl; rfl
 apply qmv; rfl; rfl
 apply qop; rfl; apply Pev.nil_ptr; rfl; exact yes
 apply qfa; rfl; rfl; rfl
 apply qld; rfl; rfl; exact .tail _ (.head _); rfl; rfl
 apply qmv; rfl; rfl
 apply qop; rfl; apply Pev.idxB; rfl; exact yes; rfl; exact yes; rfl; intro hcond; omega; rfl
 apply qop; rfl; apply Pev.load_row; rfl; exact yes; apply List.Mem.tail; apply List.Mem.tail; exact .tail _ (.tail _ (.head _)); rfl; assumption
 apply qmv; rfl; rfl
 apply qop; rfl; apply Pev.nil_ptr; rfl; exact yes
 apply qfa; rfl; rfl; rfl
 apply qld; rfl; rfl; exact .tail _ (.head _); rfl; rfl
 with_reducible apply QL.tail
 refine OL.callE (α := Unit) (fun _ => .tuple #[]) (fun _ => FSOk e y ((s.into e.length k1).into i e.length)) (fun _ => Cls (blk b5 43 [.int .i64 x.op, .int .i64 x.n, .slice xy.b.1 x.binds.length xy.b.2, .slice (some ak) x.kids.length xy.k.2, .slice xy.a.1 x.alts.length xy.a.2] :: flI e y ((s.into e.length k1).into i e.length) H) S) rfl rfl (by exact Args.au) (fun w2 hw2 => intoX_calls e y _ hy (by assumption) i bi e.length y.bh (P_node hbi) (by rw [← hn]; exact P_heap) _ H S w2 hw2) ?_
 rintro ⟨⟩ hs2
 apply OL.nil
 with_reducible apply At.in_normal
 refine At.end_ (At.fin0 rfl (fun w' hw' => ⟨_, rfl, FStep.app hs (.one hs1) (.one hs2), hw'.thin (.any (fun k hk => by rw [show k = b5 from hk]; exact hb5) .same)⟩))
theorem node_get (s0 : World) (e : List Ex) (y : FY) (hy : FYOk e y) (hyB : y.B = s0.heap.size) (hbs : s0.heap.size ≤ y.bs) (hbm : s0.heap.size ≤ y.bm) (i : Nat) (x : Ex) (xy : ExY) (hx : e[i]? = some x) (hok : ExOk s0 (low s0) x xy) (ho : x.op = 10)
  (s : FS) (hs : FSOk e y s) (H : List Eng.Item) (hno : ∀ k, k < s0.heap.size → NotOwned H k) (S : List World) (hs0 : s0 ∈ S) (hSS : ∀ s ∈ S, s.heap.size ≤ s0.heap.size) (w : World) (hc : Cls (flI e y s H) S w) :
  Calls Tryd.prog 23 [.pointer (some ⟨y.bs, 0, none⟩), .int .i64 (i : Int), .agg (exC x xy).toArray].toArray w fun r w' => ∃ s', r = .returned (.tuple #[]) ∧ FStep e y s (eStat e.length (ixF e) i x) s' ∧ Cls (flI e y s' H) S w' := by
 have hsh := hy.ok.sh i x hx
 have hn := hy.len
 have hlen := hy.ok.len
 have hil := (List.getElem?_eq_some_iff.1 hx).1
 have hkl := hok.kl
 have hbl := hok.bl
 have hLim : ∀ k, s0.heap.size ≤ k → AllLe S k := fun k hk => AllLe.of fun s hs => Nat.le_trans (hSS s hs) hk
 obtain ⟨bi, hbi, hrowi⟩ := own_ex hy hil
 have hes : eStat e.length (ixF e) i x = [(i, e.length)] := by
  unfold eStat
  simp [ho]
 rw [hes]
 refine enter Tryd.func23 rfl Tryd.ntmps23 rfl hc ?_
 (simp only [argEnv, Nat.zero_add, Nat.reduceAdd])
 unfold flI FY.c exC
 apply W.sr
 apply OL.box; rfl; rfl; exact CellsL.agg; (intro bk hbk; have hbk0 := hbk.mem s0 hs0)
 apply OL.nsr
 apply ofa; rfl; rfl; rfl
 apply old; rfl; rfl; exact .head _; rfl; rfl
 apply OL.nx
 apply W.block
 refine W.no ?_
 refine W.no ?_
 apply W.seq
 refine W.no ?_
 refine W.noR ?_
 with_reducible apply At.next
 refine W.cF ?_
 apply W.seq
 refine W.no ?_
 refine W.noR ?_
 with_reducible apply At.next
 refine W.cF ?_
 apply W.seq
 refine W.no ?_
 refine W.noR ?_
 with_reducible apply At.next
 refine W.cF ?_
 refine W.no ?_
 refine W.no ?_
 refine W.no ?_
 refine W.yes ?_
 revert hbk0
 revert bk
 intro b5 hb5 hb50
 refine W.regn 12 (by (repeat (first | exact SplitN.z | apply SplitN.s))) (by kernel_rfl) (by decide +kernel) (fun w hw => hw.drew) ?_
 apply qmv; rfl; rfl
 apply qmv; rfl; rfl
 apply qop; rfl; apply Pev.nil_ptr; rfl; exact yes
 apply qfa; rfl; rfl; rfl
 apply qld; rfl; rfl; exact .tail _ (.head _); rfl; rfl
 apply qmv; rfl; rfl
 apply qop; rfl; apply Pev.idxB; rfl; exact yes; rfl; exact yes; rfl; intro hcond; omega; rfl
 apply qop; rfl; apply Pev.load_row; rfl; exact yes; apply List.Mem.tail; apply List.Mem.tail; exact .tail _ (.tail _ (.head _)); rfl; assumption
 apply qmv; rfl; rfl
 apply qop; rfl; apply Pev.nil_ptr; rfl; exact yes
 apply qfa; rfl; rfl; rfl
 apply qld; rfl; rfl; exact .tail _ (.head _); rfl; rfl
 with_reducible apply QL.tail
 refine OL.callE (α := Unit) (fun _ => .tuple #[]) (fun _ => FSOk e y (s.into i e.length)) (fun _ => Cls (blk b5 43 [.int .i64 x.op, .int .i64 x.n, .slice xy.b.1 x.binds.length xy.b.2, .slice xy.k.1 x.kids.length xy.k.2, .slice xy.a.1 x.alts.length xy.a.2] :: flI e y (s.into i e.length) H) S) rfl rfl (by exact Args.au) (fun w2 hw2 => intoX_calls e y _ hy (by assumption) i bi e.length y.bh (P_node hbi) (by rw [← hn]; exact P_heap) _ H S w2 hw2) ?_
 rintro ⟨⟩ hs1
 apply OL.nil
 with_reducible apply At.in_normal
 refine At.end_ (At.fin0 rfl (fun w' hw' => ⟨_, rfl, .one hs1, hw'.thin (.any (fun k hk => by rw [show k = b5 from hk]; exact hb5) .same)⟩))
theorem node_none (s0 : World) (e : List Ex) (y : FY) (hy : FYOk e y) (hyB : y.B = s0.heap.size) (hbs : s0.heap.size ≤ y.bs) (hbm : s0.heap.size ≤ y.bm) (i : Nat) (x : Ex) (xy : ExY) (hx : e[i]? = some x) (hok : ExOk s0 (low s0) x xy) (ho : x.op = 1 ∨ x.op = 2 ∨ 14 ≤ x.op)
  (s : FS) (hs : FSOk e y s) (H : List Eng.Item) (hno : ∀ k, k < s0.heap.size → NotOwned H k) (S : List World) (hs0 : s0 ∈ S) (hSS : ∀ s ∈ S, s.heap.size ≤ s0.heap.size) (w : World) (hc : Cls (flI e y s H) S w) :
  Calls Tryd.prog 23 [.pointer (some ⟨y.bs, 0, none⟩), .int .i64 (i : Int), .agg (exC x xy).toArray].toArray w fun r w' => ∃ s', r = .returned (.tuple #[]) ∧ FStep e y s (eStat e.length (ixF e) i x) s' ∧ Cls (flI e y s' H) S w' := by
 have hsh := hy.ok.sh i x hx
 have hn := hy.len
 have hlen := hy.ok.len
 have hil := (List.getElem?_eq_some_iff.1 hx).1
 have hkl := hok.kl
 have hbl := hok.bl
 have hLim : ∀ k, s0.heap.size ≤ k → AllLe S k := fun k hk => AllLe.of fun s hs => Nat.le_trans (hSS s hs) hk
 obtain ⟨bi, hbi, hrowi⟩ := own_ex hy hil
 have hes : eStat e.length (ixF e) i x = [] := by
  unfold eStat
  repeat (first | rw [if_neg (by omega)] | rfl)
 rw [hes]
 refine enter Tryd.func23 rfl Tryd.ntmps23 rfl hc ?_
 (simp only [argEnv, Nat.zero_add, Nat.reduceAdd])
 unfold flI FY.c exC
 apply W.sr
 apply OL.box; rfl; rfl; exact CellsL.agg; (intro bk hbk; have hbk0 := hbk.mem s0 hs0)
 apply OL.nsr
 apply ofa; rfl; rfl; rfl
 apply old; rfl; rfl; exact .head _; rfl; rfl
 apply OL.nx
 apply W.block
 refine W.no ?_
 refine W.no ?_
 apply W.seq
 refine W.no ?_
 refine W.noR ?_
 with_reducible apply At.next
 refine W.cF ?_
 apply W.seq
 refine W.no ?_
 refine W.noR ?_
 with_reducible apply At.next
 refine W.cF ?_
 apply W.seq
 refine W.no ?_
 refine W.noR ?_
 with_reducible apply At.next
 refine W.cF ?_
 refine W.no ?_
 refine W.no ?_
 refine W.no ?_
 refine W.no ?_
 apply W.skip
 with_reducible apply At.in_normal
 revert hbk0
 revert bk
 intro b5 hb5 hb50
 skip
 refine At.end_ (At.fin0 rfl (fun w' hw' => ⟨_, rfl, .nil hs, hw'.thin (.any (fun k hk => by rw [show k = b5 from hk]; exact hb5) .same)⟩))
theorem node_prim (s0 : World) (e : List Ex) (y : FY) (hy : FYOk e y) (hyB : y.B = s0.heap.size) (hbs : s0.heap.size ≤ y.bs) (hbm : s0.heap.size ≤ y.bm) (i : Nat) (x : Ex) (xy : ExY) (hx : e[i]? = some x) (hok : ExOk s0 (low s0) x xy) (ho : x.op = 8)
  (s : FS) (hs : FSOk e y s) (H : List Eng.Item) (hno : ∀ k, k < s0.heap.size → NotOwned H k) (S : List World) (hs0 : s0 ∈ S) (hSS : ∀ s ∈ S, s.heap.size ≤ s0.heap.size) (w : World) (hc : Cls (flI e y s H) S w) :
  Calls Tryd.prog 23 [.pointer (some ⟨y.bs, 0, none⟩), .int .i64 (i : Int), .agg (exC x xy).toArray].toArray w fun r w' => ∃ s', r = .returned (.tuple #[]) ∧ FStep e y s (eStat e.length (ixF e) i x) s' ∧ Cls (flI e y s' H) S w' := by
 have hsh := hy.ok.sh i x hx
 have hn := hy.len
 have hlen := hy.ok.len
 have hil := (List.getElem?_eq_some_iff.1 hx).1
 have hkl := hok.kl
 have hbl := hok.bl
 have hLim : ∀ k, s0.heap.size ≤ k → AllLe S k := fun k hk => AllLe.of fun s hs => Nat.le_trans (hSS s hs) hk
 obtain ⟨bi, hbi, hrowi⟩ := own_ex hy hil
 refine enter Tryd.func23 rfl Tryd.ntmps23 rfl hc ?_
 (simp only [argEnv, Nat.zero_add, Nat.reduceAdd])
 unfold flI FY.c exC
 apply W.sr
 apply OL.box; rfl; rfl; exact CellsL.agg; (intro bk hbk; have hbk0 := hbk.mem s0 hs0)
 apply OL.nsr
 apply ofa; rfl; rfl; rfl
 apply old; rfl; rfl; exact .head _; rfl; rfl
 apply OL.nx
 apply W.block
 refine W.no ?_
 refine W.no ?_
 apply W.seq
 refine W.no ?_
 refine W.noR ?_
 with_reducible apply At.next
 refine W.cF ?_
 apply W.seq
 refine W.no ?_
 refine W.noR ?_
 with_reducible apply At.next
 refine W.cF ?_
 apply W.seq
 refine W.no ?_
 refine W.noR ?_
 with_reducible apply At.next
 refine W.cF ?_
 refine W.yes ?_
 apply W.reg
 apply omv; rfl; rfl
 apply omv; rfl; rfl
 apply oop; rfl; apply Pev.load_blkA; rfl; exact yes; exact .head _; rfl; exact Take.au
 revert hbk0
 revert bk
 intro b5 hb5 hb50
 skip
 refine OL.callE (α := FS) (fun _ => .tuple #[]) (fun s' => FStep e y s (eStat e.length (ixF e) i x) s') (fun s' => Cls (blk b5 43 [.int .i64 x.op, .int .i64 x.n, .slice xy.b.1 x.binds.length xy.b.2, .slice xy.k.1 x.kids.length xy.k.2, .slice xy.a.1 x.alts.length xy.a.2] :: flI e y s' H) S) rfl rfl (by exact Args.au) (fun w2 hw2 => (prim_calls s0 e y hy hyB hbs hbm i x xy hx hok ho s hs _ (fun k hk => NotOwned.blk (by omega) (hno k hk)) S hs0 w2 (flX.1 hw2)).mono (fun e1 w3 ⟨s', h1, h2, h3⟩ => ⟨s', h1, h2, flX.2 h3⟩)) ?_
 intro s' hs'
 apply OL.nil
 with_reducible apply At.in_normal
 refine At.end_ (At.fin0 rfl (fun w' hw' => ⟨_, rfl, hs', hw'.thin (.any (fun k hk => by rw [show k = b5 from hk]; exact hb5) .same)⟩))
theorem node_case (s0 : World) (e : List Ex) (y : FY) (hy : FYOk e y) (hyB : y.B = s0.heap.size) (hbs : s0.heap.size ≤ y.bs) (hbm : s0.heap.size ≤ y.bm) (i : Nat) (x : Ex) (xy : ExY) (hx : e[i]? = some x) (hok : ExOk s0 (low s0) x xy) (ho : x.op = 7)
  (s : FS) (hs : FSOk e y s) (H : List Eng.Item) (hno : ∀ k, k < s0.heap.size → NotOwned H k) (S : List World) (hs0 : s0 ∈ S) (hSS : ∀ s ∈ S, s.heap.size ≤ s0.heap.size) (w : World) (hc : Cls (flI e y s H) S w) :
  Calls Tryd.prog 23 [.pointer (some ⟨y.bs, 0, none⟩), .int .i64 (i : Int), .agg (exC x xy).toArray].toArray w fun r w' => ∃ s', r = .returned (.tuple #[]) ∧ FStep e y s (eStat e.length (ixF e) i x) s' ∧ Cls (flI e y s' H) S w' := by
 have hsh := hy.ok.sh i x hx
 have hn := hy.len
 have hlen := hy.ok.len
 have hil := (List.getElem?_eq_some_iff.1 hx).1
 have hkl := hok.kl
 have hbl := hok.bl
 have hLim : ∀ k, s0.heap.size ≤ k → AllLe S k := fun k hk => AllLe.of fun s hs => Nat.le_trans (hSS s hs) hk
 obtain ⟨bi, hbi, hrowi⟩ := own_ex hy hil
 refine enter Tryd.func23 rfl Tryd.ntmps23 rfl hc ?_
 (simp only [argEnv, Nat.zero_add, Nat.reduceAdd])
 unfold flI FY.c exC
 apply W.sr
 apply OL.box; rfl; rfl; exact CellsL.agg; (intro bk hbk; have hbk0 := hbk.mem s0 hs0)
 apply OL.nsr
 apply ofa; rfl; rfl; rfl
 apply old; rfl; rfl; exact .head _; rfl; rfl
 apply OL.nx
 apply W.block
 refine W.no ?_
 refine W.no ?_
 apply W.seq
 refine W.no ?_
 refine W.noR ?_
 with_reducible apply At.next
 refine W.cF ?_
 apply W.seq
 refine W.no ?_
 refine W.noR ?_
 with_reducible apply At.next
 refine W.cF ?_
 apply W.seq
 refine W.yes ?_
 apply W.sk
 refine W.cT ?_
 apply W.reg
 apply omv; rfl; rfl
 apply omv; rfl; rfl
 apply oop; rfl; apply Pev.load_blkA; rfl; exact yes; exact .head _; rfl; exact Take.au
 revert hbk0
 revert bk
 intro b5 hb5 hb50
 skip
 refine OL.callE (α := FS) (fun _ => .tuple #[]) (fun s' => FStep e y s (eStat e.length (ixF e) i x) s') (fun s' => Cls (blk b5 43 [.int .i64 x.op, .int .i64 x.n, .slice xy.b.1 x.binds.length xy.b.2, .slice xy.k.1 x.kids.length xy.k.2, .slice xy.a.1 x.alts.length xy.a.2] :: flI e y s' H) S) rfl rfl (by exact Args.au) (fun w2 hw2 => (branches_calls s0 e y hy hyB hbs hbm i x xy hx hok (.inl ho) s hs _ (fun k hk => NotOwned.blk (by omega) (hno k hk)) S hs0 hSS w2 (flX.1 hw2)).mono (fun e1 w3 ⟨s', h1, h2, h3⟩ => ⟨s', h1, h2, flX.2 h3⟩)) ?_
 intro s' hs'
 apply OL.nil
 with_reducible apply At.in_normal
 refine At.end_ (At.fin0 rfl (fun w' hw' => ⟨_, rfl, hs', hw'.thin (.any (fun k hk => by rw [show k = b5 from hk]; exact hb5) .same)⟩))
theorem node_handle (s0 : World) (e : List Ex) (y : FY) (hy : FYOk e y) (hyB : y.B = s0.heap.size) (hbs : s0.heap.size ≤ y.bs) (hbm : s0.heap.size ≤ y.bm) (i : Nat) (x : Ex) (xy : ExY) (hx : e[i]? = some x) (hok : ExOk s0 (low s0) x xy) (ho : x.op = 13)
  (s : FS) (hs : FSOk e y s) (H : List Eng.Item) (hno : ∀ k, k < s0.heap.size → NotOwned H k) (S : List World) (hs0 : s0 ∈ S) (hSS : ∀ s ∈ S, s.heap.size ≤ s0.heap.size) (w : World) (hc : Cls (flI e y s H) S w) :
  Calls Tryd.prog 23 [.pointer (some ⟨y.bs, 0, none⟩), .int .i64 (i : Int), .agg (exC x xy).toArray].toArray w fun r w' => ∃ s', r = .returned (.tuple #[]) ∧ FStep e y s (eStat e.length (ixF e) i x) s' ∧ Cls (flI e y s' H) S w' := by
 have hsh := hy.ok.sh i x hx
 have hn := hy.len
 have hlen := hy.ok.len
 have hil := (List.getElem?_eq_some_iff.1 hx).1
 have hkl := hok.kl
 have hbl := hok.bl
 have hLim : ∀ k, s0.heap.size ≤ k → AllLe S k := fun k hk => AllLe.of fun s hs => Nat.le_trans (hSS s hs) hk
 obtain ⟨bi, hbi, hrowi⟩ := own_ex hy hil
 refine enter Tryd.func23 rfl Tryd.ntmps23 rfl hc ?_
 (simp only [argEnv, Nat.zero_add, Nat.reduceAdd])
 unfold flI FY.c exC
 apply W.sr
 apply OL.box; rfl; rfl; exact CellsL.agg; (intro bk hbk; have hbk0 := hbk.mem s0 hs0)
 apply OL.nsr
 apply ofa; rfl; rfl; rfl
 apply old; rfl; rfl; exact .head _; rfl; rfl
 apply OL.nx
 apply W.block
 refine W.no ?_
 refine W.no ?_
 apply W.seq
 refine W.no ?_
 refine W.noR ?_
 with_reducible apply At.next
 refine W.cF ?_
 apply W.seq
 refine W.no ?_
 refine W.noR ?_
 with_reducible apply At.next
 refine W.cF ?_
 apply W.seq
 refine W.no ?_
 refine W.yesR ?_
 with_reducible apply At.next
 refine W.cT ?_
 apply W.reg
 apply omv; rfl; rfl
 apply omv; rfl; rfl
 apply oop; rfl; apply Pev.load_blkA; rfl; exact yes; exact .head _; rfl; exact Take.au
 revert hbk0
 revert bk
 intro b5 hb5 hb50
 skip
 refine OL.callE (α := FS) (fun _ => .tuple #[]) (fun s' => FStep e y s (eStat e.length (ixF e) i x) s') (fun s' => Cls (blk b5 43 [.int .i64 x.op, .int .i64 x.n, .slice xy.b.1 x.binds.length xy.b.2, .slice xy.k.1 x.kids.length xy.k.2, .slice xy.a.1 x.alts.length xy.a.2] :: flI e y s' H) S) rfl rfl (by exact Args.au) (fun w2 hw2 => (branches_calls s0 e y hy hyB hbs hbm i x xy hx hok (.inr ho) s hs _ (fun k hk => NotOwned.blk (by omega) (hno k hk)) S hs0 hSS w2 (flX.1 hw2)).mono (fun e1 w3 ⟨s', h1, h2, h3⟩ => ⟨s', h1, h2, flX.2 h3⟩)) ?_
 intro s' hs'
 apply OL.nil
 with_reducible apply At.in_normal
 refine At.end_ (At.fin0 rfl (fun w' hw' => ⟨_, rfl, hs', hw'.thin (.any (fun k hk => by rw [show k = b5 from hk]; exact hb5) .same)⟩))
theorem node_var (s0 : World) (e : List Ex) (y : FY) (hy : FYOk e y) (hyB : y.B = s0.heap.size) (hbs : s0.heap.size ≤ y.bs) (hbm : s0.heap.size ≤ y.bm) (i : Nat) (x : Ex) (xy : ExY) (hx : e[i]? = some x) (hok : ExOk s0 (low s0) x xy) (ho : x.op = 0)
  (s : FS) (hs : FSOk e y s) (H : List Eng.Item) (hno : ∀ k, k < s0.heap.size → NotOwned H k) (S : List World) (hs0 : s0 ∈ S) (hSS : ∀ s ∈ S, s.heap.size ≤ s0.heap.size) (w : World) (hc : Cls (flI e y s H) S w) :
  Calls Tryd.prog 23 [.pointer (some ⟨y.bs, 0, none⟩), .int .i64 (i : Int), .agg (exC x xy).toArray].toArray w fun r w' => ∃ s', r = .returned (.tuple #[]) ∧ FStep e y s (eStat e.length (ixF e) i x) s' ∧ Cls (flI e y s' H) S w' := by
 have hsh := hy.ok.sh i x hx
 have hn := hy.len
 have hlen := hy.ok.len
 have hil := (List.getElem?_eq_some_iff.1 hx).1
 have hkl := hok.kl
 have hbl := hok.bl
 have hLim : ∀ k, s0.heap.size ≤ k → AllLe S k := fun k hk => AllLe.of fun s hs => Nat.le_trans (hSS s hs) hk
 obtain ⟨bi, hbi, hrowi⟩ := own_ex hy hil
 have hid := hy.ok.var i x hx ho
 have hes : eStat e.length (ixF e) i x = [(i, ixF e x.n)] := by
  unfold eStat
  simp [ho]
 rw [hes]
 refine enter Tryd.func23 rfl Tryd.ntmps23 rfl hc ?_
 (simp only [argEnv, Nat.zero_add, Nat.reduceAdd])
 unfold flI FY.c exC
 apply W.sr
 apply OL.box; rfl; rfl; exact CellsL.agg; (intro bk hbk; have hbk0 := hbk.mem s0 hs0)
 apply OL.nsr
 apply ofa; rfl; rfl; rfl
 apply old; rfl; rfl; exact .head _; rfl; rfl
 apply OL.nx
 apply W.block
 refine W.yes ?_
 revert hbk0
 revert bk
 intro b5 hb5 hb50
 refine W.regzC (C0 := Cls (blk b5 43 [.int .i64 x.op, .int .i64 x.n, .slice xy.b.1 x.binds.length xy.b.2, .slice xy.k.1 x.kids.length xy.k.2, .slice xy.a.1 x.alts.length xy.a.2] :: blk y.bs 56 [.slice y.qe y.N.length y.ce, .slice (some ⟨y.gn, 0, none⟩) y.N.length y.cn, .map (some y.bm), slW y.N.length y.bh, slW y.N.length y.ba, .bool s.mv] :: row y.B y.O (some ⟨y.gn, 0, none⟩) y.N.length y.cn 52 1 (y.N.map (slW y.N.length)) :: H) S) (by (repeat (first | exact ZSplit.nil | apply ZSplit.pure rfl | apply ZSplit.tail))) (by kernel_rfl) (by decide +kernel) (fun w hw => hw.drew) (fun w hw => hw.thin (.keep (.keep (.any (fun k hk => hLim k (by rw [show k = y.bm from hk]; exact hbm)) (.any (fun k hk => hLim k (by rw [← hyB]; exact hk.1)) .same))))) ?_
 apply ZL.op rfl; exact Guard.none; rfl; rfl; apply Pev.move; rfl; exact yes
 apply ZL.op rfl; exact Guard.none; rfl; rfl; apply Pev.move; rfl; exact yes
 apply ZL.op rfl; exact Guard.none; rfl; rfl; apply Pev.nil_ptr; rfl; exact yes
 apply ZL.op rfl; exact Guard.none; rfl; rfl; apply Pev.fld; rfl; exact yes; rfl
 apply ZL.ld rfl; exact Guard.none; rfl; rfl; apply Pev.load_blk; rfl; exact yes; exact .tail _ (.head _); rfl; rfl
 apply ZL.op rfl; exact Guard.none; rfl; rfl; apply Pev.move; rfl; exact yes
 apply ZL.op rfl; exact Guard.none; rfl; rfl; apply Pev.idxB; rfl; exact yes; rfl; exact yes; rfl; intro hcond; omega; rfl
 apply ZL.ld rfl; exact Guard.none; rfl; rfl; apply Pev.load_row; rfl; exact yes; exact .tail _ (.tail _ (.head _)); rfl; assumption
 apply ZL.op rfl; exact Guard.none; rfl; rfl; apply Pev.move; rfl; exact yes
 apply ZL.op rfl; exact Guard.none; rfl; rfl; apply Pev.fld; rfl; exact yes; rfl
 apply ZL.ld rfl; exact Guard.none; rfl; rfl; apply Pev.load_blk; rfl; exact yes; exact .head _; rfl; rfl
 apply ZL.nilC
 apply TL.one rfl
 refine OL.callE (α := Nat × List (Int × Nat)) (fun z => slW y.N.length z.1) (fun z => (ixF e x.n, z.1) ∈ (s.with z.2).P e y ∧ FSOk e y (s.with z.2)) (fun z => Cls (blk b5 43 [.int .i64 x.op, .int .i64 x.n, .slice xy.b.1 x.binds.length xy.b.2, .slice xy.k.1 x.kids.length xy.k.2, .slice xy.a.1 x.alts.length xy.a.2] :: flI e y (s.with z.2) H) S) rfl rfl (by exact Args.au) (fun w2 hw2 => (identI_calls e y s hy hs x.n hid _ S s0 hs0 (by omega) w2 (flX.1 hw2)).mono (fun e1 w3 ⟨b, M', h1, h2, h3, h4⟩ => ⟨(b, M'), h1, ⟨h2, h3⟩, flX.2 h4⟩)) ?_
 rintro ⟨bv, M1⟩ ⟨hbv, hs3⟩
 simp only at hbv hs3 ⊢
 refine OL.nil (At.tk (fun w hw => hw.thin (.keep (.keep (.any (fun k hk => hLim k (by rw [show k = y.bm from hk]; exact hbm)) (.any (fun k hk => hLim k (by rw [← hyB]; exact hk.1)) .same))))) ?_)
 apply TL.one rfl
 refine OL.callE (α := Unit) (fun _ => .tuple #[]) (fun _ => FSOk e y ((s.with M1).into i (ixF e x.n))) (fun _ => Cls (blk b5 43 [.int .i64 x.op, .int .i64 x.n, .slice xy.b.1 x.binds.length xy.b.2, .slice xy.k.1 x.kids.length xy.k.2, .slice xy.a.1 x.alts.length xy.a.2] :: flI e y ((s.with M1).into i (ixF e x.n)) H) S) rfl rfl (by exact Args.au) (fun w2 hw2 => intoX_calls e y _ hy (by assumption) i bi (ixF e x.n) bv (P_node hbi) hbv _ H S w2 hw2) ?_
 rintro ⟨⟩ hs4
 apply OL.nil
 with_reducible apply At.tn; decide +kernel
 apply TL.nil
 with_reducible apply At.np
 with_reducible apply At.in_normal
 refine At.end_ (At.fin0 rfl (fun w' hw' => ⟨_, rfl, FStep.with (.one hs4), hw'.thin (.any (fun k hk => by rw [show k = b5 from hk]; exact hb5) .same)⟩))
theorem node_con (s0 : World) (e : List Ex) (y : FY) (hy : FYOk e y) (hyB : y.B = s0.heap.size) (hbs : s0.heap.size ≤ y.bs) (hbm : s0.heap.size ≤ y.bm) (i : Nat) (x : Ex) (xy : ExY) (hx : e[i]? = some x) (hok : ExOk s0 (low s0) x xy) (ho : x.op = 6)
  (s : FS) (hs : FSOk e y s) (H : List Eng.Item) (hno : ∀ k, k < s0.heap.size → NotOwned H k) (S : List World) (hs0 : s0 ∈ S) (hSS : ∀ s ∈ S, s.heap.size ≤ s0.heap.size) (w : World) (hc : Cls (flI e y s H) S w) :
  Calls Tryd.prog 23 [.pointer (some ⟨y.bs, 0, none⟩), .int .i64 (i : Int), .agg (exC x xy).toArray].toArray w fun r w' => ∃ s', r = .returned (.tuple #[]) ∧ FStep e y s (eStat e.length (ixF e) i x) s' ∧ Cls (flI e y s' H) S w' := by
 have hsh := hy.ok.sh i x hx
 have hn := hy.len
 have hlen := hy.ok.len
 have hil := (List.getElem?_eq_some_iff.1 hx).1
 have hkl := hok.kl
 have hbl := hok.bl
 have hLim : ∀ k, s0.heap.size ≤ k → AllLe S k := fun k hk => AllLe.of fun s hs => Nat.le_trans (hSS s hs) hk
 obtain ⟨bi, hbi, hrowi⟩ := own_ex hy hil
 have hes : eStat e.length (ixF e) i x = (List.range x.kids.length).map fun k => (e.length, kidN x k) := by
  unfold eStat
  simp [ho]
 rw [hes]
 refine enter Tryd.func23 rfl Tryd.ntmps23 rfl hc ?_
 (simp only [argEnv, Nat.zero_add, Nat.reduceAdd])
 unfold flI FY.c exC
 apply W.sr
 apply OL.box; rfl; rfl; exact CellsL.agg; (intro bk hbk; have hbk0 := hbk.mem s0 hs0)
 apply OL.nsr
 apply ofa; rfl; rfl; rfl
 apply old; rfl; rfl; exact .head _; rfl; rfl
 apply OL.nx
 apply W.block
 refine W.no ?_
 refine W.no ?_
 apply W.seq
 refine W.no ?_
 refine W.noR ?_
 with_reducible apply At.next
 refine W.cF ?_
 apply W.seq
 refine W.yes ?_
 apply W.sk
 refine W.cT ?_
 apply W.sr
 apply ofa; rfl; rfl; rfl
 apply old; rfl; rfl; exact .head _; rfl; rfl
 apply oop; rfl; apply Pev.len_slice; rfl; exact yes; rfl
 apply omv; rfl; rfl
 apply OL.nx
 apply W.block
 revert hbk0
 revert bk
 intro b5 hb5 hb50
 refine W.loop (G := Nat × FS) (fun G => G.1 ≤ x.kids.length ∧ FStep e y s ((List.range G.1).map fun k => (e.length, kidN x k)) G.2) (fun G => x.kids.length - G.1)
  (fun G => [(0, true, .pointer (some ⟨y.bs, 0, none⟩)), (88, true, .slice xy.k.1 x.kids.length xy.k.2), (89, true, .int .i64 (x.kids.length : Int)), (90, true, .int .i64 (G.1 : Int))])
  (fun G => Cls (blk b5 43 [.int .i64 x.op, .int .i64 x.n, .slice xy.b.1 x.binds.length xy.b.2, .slice xy.k.1 x.kids.length xy.k.2, .slice xy.a.1 x.alts.length xy.a.2] :: flI e y G.2 H) S) (0, s) ⟨Nat.zero_le _, .nil hs⟩ (by exact Sub.au) (fun w' hw' => hw') ?_
 rintro ⟨k, s1⟩ ⟨hk, hst⟩
 simp only at hk hst ⊢
 have hs1 := hst.ok
 apply W.sr
 apply obn; rfl; rfl; rfl; apply Bin.lss
 apply OL.nx
 apply W.seq
 (refine W.cnd (fun hlt => ?_) (fun hlt => ?_)) <;> (try (exfalso; first | omega | exact hlt trivial | contradiction))
 ·obtain ⟨ak, k1, bk1, hk1, hqk, habk, hcell1, hbk1, hki1, hkN1, hrow1⟩ := kid_ex hy hx hok (k := k) (by omega)
  rw [hqk]
  unfold flI FY.c
  apply W.sk
  apply W.sb
  apply W.sr
  apply oop; rfl; apply Pev.idx; rfl; exact yes; rfl; exact yes; rfl; rfl; intro hcond; omega
  apply oop; rfl; apply Pev.load_kept; rfl; exact yes; assumption; rfl; intro hcond; assumption; intro hcond; (rw [add_block]; assumption); intro hcond; (focus ((try simp only [add_block]); (repeat (first | exact NotOwned.nil | exact hno _ (by omega) | exact hnr _ (by omega) | refine NotOwned.any (hXn _ (by omega)) ?_ | refine NotOwned.blk (by omega) ?_ | refine NotOwned.row (by omega) ?_ | refine NotOwned.rws (by omega) ?_ | refine NotOwned.pile (by omega) ?_ | refine NotOwned.pool (by omega) ?_ | refine NotOwned.bag (by omega) ?_ | refine NotOwned.mapI (by omega) ?_ | apply NotOwned.bif | refine NotOwned.nothing ?_)); done))
  apply oas; rfl; rfl
  apply OL.nx
  refine W.regn 12 (by (repeat (first | exact SplitN.z | apply SplitN.s))) (by kernel_rfl) (by decide +kernel) (fun w hw => hw.drew) ?_
  apply qmv; rfl; rfl
  apply qmv; rfl; rfl
  apply qop; rfl; apply Pev.nil_ptr; rfl; exact yes
  apply qfa; rfl; rfl; rfl
  apply qld; rfl; rfl; exact .tail _ (.head _); rfl; rfl
  apply qmv; rfl; rfl
  apply qop; rfl; apply Pev.nil_ptr; rfl; exact yes
  apply qfa; rfl; rfl; rfl
  apply qld; rfl; rfl; exact .tail _ (.head _); rfl; rfl
  apply qmv; rfl; rfl
  apply qop; rfl; apply Pev.idxB; rfl; exact yes; rfl; exact yes; rfl; intro hcond; omega; rfl
  apply qop; rfl; apply Pev.load_row; rfl; exact yes; apply List.Mem.tail; apply List.Mem.tail; exact .tail _ (.tail _ (.head _)); rfl; assumption
  with_reducible apply QL.tail
  refine OL.callE (α := Unit) (fun _ => .tuple #[]) (fun _ => FSOk e y (s1.into e.length k1)) (fun _ => Cls (blk b5 43 [.int .i64 x.op, .int .i64 x.n, .slice xy.b.1 x.binds.length xy.b.2, .slice (some ak) x.kids.length xy.k.2, .slice xy.a.1 x.alts.length xy.a.2] :: flI e y (s1.into e.length k1) H) S) rfl rfl (by exact Args.au) (fun w2 hw2 => intoX_calls e y _ hy (by assumption) e.length y.bh k1 bk1 (by rw [← hn]; exact P_heap) (P_node hbk1) _ H S w2 hw2) ?_
  rintro ⟨⟩ hs2
  apply OL.nil
  with_reducible apply At.in_normal
  with_reducible apply At.next
  apply W.reg
  apply obn; rfl; rfl; rfl; apply Bin.add_in; omega
  apply omv; rfl; rfl
  apply OL.nil
  refine At.again (k + 1, s1.into e.length k1) ⟨by omega, ?_⟩ (by simp only; omega) (by exact Sub.au) (fun w' hw' => hw')
  rw [List.range_succ, List.map_append, List.map_singleton, hk1]
  exact hst.app hs (.one hs2)
 ·obtain rfl : k = x.kids.length := by omega
  refine W.xt ?_
  with_reducible apply At.in_normal
  refine At.end_ (At.fin0 rfl (fun w' hw' => ⟨_, rfl, hst, hw'.thin (.any (fun k hk => by rw [show k = b5 from hk]; exact hb5) .same)⟩))
theorem node_row (s0 : World) (e : List Ex) (y : FY) (hy : FYOk e y) (hyB : y.B = s0.heap.size) (hbs : s0.heap.size ≤ y.bs) (hbm : s0.heap.size ≤ y.bm) (i : Nat) (x : Ex) (xy : ExY) (hx : e[i]? = some x) (hok : ExOk s0 (low s0) x xy) (ho : x.op = 9)
  (s : FS) (hs : FSOk e y s) (H : List Eng.Item) (hno : ∀ k, k < s0.heap.size → NotOwned H k) (S : List World) (hs0 : s0 ∈ S) (hSS : ∀ s ∈ S, s.heap.size ≤ s0.heap.size) (w : World) (hc : Cls (flI e y s H) S w) :
  Calls Tryd.prog 23 [.pointer (some ⟨y.bs, 0, none⟩), .int .i64 (i : Int), .agg (exC x xy).toArray].toArray w fun r w' => ∃ s', r = .returned (.tuple #[]) ∧ FStep e y s (eStat e.length (ixF e) i x) s' ∧ Cls (flI e y s' H) S w' := by
 have hsh := hy.ok.sh i x hx
 have hn := hy.len
 have hlen := hy.ok.len
 have hil := (List.getElem?_eq_some_iff.1 hx).1
 have hkl := hok.kl
 have hbl := hok.bl
 have hLim : ∀ k, s0.heap.size ≤ k → AllLe S k := fun k hk => AllLe.of fun s hs => Nat.le_trans (hSS s hs) hk
 obtain ⟨bi, hbi, hrowi⟩ := own_ex hy hil
 have hes : eStat e.length (ixF e) i x = (List.range x.kids.length).map fun k => (e.length, kidN x k) := by
  unfold eStat
  simp [ho]
 rw [hes]
 refine enter Tryd.func23 rfl Tryd.ntmps23 rfl hc ?_
 (simp only [argEnv, Nat.zero_add, Nat.reduceAdd])
 unfold flI FY.c exC
 apply W.sr
 apply OL.box; rfl; rfl; exact CellsL.agg; (intro bk hbk; have hbk0 := hbk.mem s0 hs0)
 apply OL.nsr
 apply ofa; rfl; rfl; rfl
 apply old; rfl; rfl; exact .head _; rfl; rfl
 apply OL.nx
 apply W.block
 refine W.no ?_
 refine W.no ?_
 apply W.seq
 refine W.no ?_
 refine W.noR ?_
 with_reducible apply At.next
 refine W.cF ?_
 apply W.seq
 refine W.no ?_
 refine W.yesR ?_
 with_reducible apply At.next
 refine W.cT ?_
 apply W.sr
 apply ofa; rfl; rfl; rfl
 apply old; rfl; rfl; exact .head _; rfl; rfl
 apply oop; rfl; apply Pev.len_slice; rfl; exact yes; rfl
 apply omv; rfl; rfl
 apply OL.nx
 apply W.block
 revert hbk0
 revert bk
 intro b5 hb5 hb50
 refine W.loop (G := Nat × FS) (fun G => G.1 ≤ x.kids.length ∧ FStep e y s ((List.range G.1).map fun k => (e.length, kidN x k)) G.2) (fun G => x.kids.length - G.1)
  (fun G => [(0, true, .pointer (some ⟨y.bs, 0, none⟩)), (88, true, .slice xy.k.1 x.kids.length xy.k.2), (89, true, .int .i64 (x.kids.length : Int)), (90, true, .int .i64 (G.1 : Int))])
  (fun G => Cls (blk b5 43 [.int .i64 x.op, .int .i64 x.n, .slice xy.b.1 x.binds.length xy.b.2, .slice xy.k.1 x.kids.length xy.k.2, .slice xy.a.1 x.alts.length xy.a.2] :: flI e y G.2 H) S) (0, s) ⟨Nat.zero_le _, .nil hs⟩ (by exact Sub.au) (fun w' hw' => hw') ?_
 rintro ⟨k, s1⟩ ⟨hk, hst⟩
 simp only at hk hst ⊢
 have hs1 := hst.ok
 apply W.sr
 apply obn; rfl; rfl; rfl; apply Bin.lss
 apply OL.nx
 apply W.seq
 (refine W.cnd (fun hlt => ?_) (fun hlt => ?_)) <;> (try (exfalso; first | omega | exact hlt trivial | contradiction))
 ·obtain ⟨ak, k1, bk1, hk1, hqk, habk, hcell1, hbk1, hki1, hkN1, hrow1⟩ := kid_ex hy hx hok (k := k) (by omega)
  rw [hqk]
  unfold flI FY.c
  apply W.sk
  apply W.sb
  apply W.sr
  apply oop; rfl; apply Pev.idx; rfl; exact yes; rfl; exact yes; rfl; rfl; intro hcond; omega
  apply oop; rfl; apply Pev.load_kept; rfl; exact yes; assumption; rfl; intro hcond; assumption; intro hcond; (rw [add_block]; assumption); intro hcond; (focus ((try simp only [add_block]); (repeat (first | exact NotOwned.nil | exact hno _ (by omega) | exact hnr _ (by omega) | refine NotOwned.any (hXn _ (by omega)) ?_ | refine NotOwned.blk (by omega) ?_ | refine NotOwned.row (by omega) ?_ | refine NotOwned.rws (by omega) ?_ | refine NotOwned.pile (by omega) ?_ | refine NotOwned.pool (by omega) ?_ | refine NotOwned.bag (by omega) ?_ | refine NotOwned.mapI (by omega) ?_ | apply NotOwned.bif | refine NotOwned.nothing ?_)); done))
  apply oas; rfl; rfl
  apply OL.nx
  refine W.regn 12 (by (repeat (first | exact SplitN.z | apply SplitN.s))) (by kernel_rfl) (by decide +kernel) (fun w hw => hw.drew) ?_
  apply qmv; rfl; rfl
  apply qmv; rfl; rfl
  apply qop; rfl; apply Pev.nil_ptr; rfl; exact yes
  apply qfa; rfl; rfl; rfl
  apply qld; rfl; rfl; exact .tail _ (.head _); rfl; rfl
  apply qmv; rfl; rfl
  apply qop; rfl; apply Pev.nil_ptr; rfl; exact yes
  apply qfa; rfl; rfl; rfl
  apply qld; rfl; rfl; exact .tail _ (.head _); rfl; rfl
  apply qmv; rfl; rfl
  apply qop; rfl; apply Pev.idxB; rfl; exact yes; rfl; exact yes; rfl; intro hcond; omega; rfl
  apply qop; rfl; apply Pev.load_row; rfl; exact yes; apply List.Mem.tail; apply List.Mem.tail; exact .tail _ (.tail _ (.head _)); rfl; assumption
  with_reducible apply QL.tail
  refine OL.callE (α := Unit) (fun _ => .tuple #[]) (fun _ => FSOk e y (s1.into e.length k1)) (fun _ => Cls (blk b5 43 [.int .i64 x.op, .int .i64 x.n, .slice xy.b.1 x.binds.length xy.b.2, .slice (some ak) x.kids.length xy.k.2, .slice xy.a.1 x.alts.length xy.a.2] :: flI e y (s1.into e.length k1) H) S) rfl rfl (by exact Args.au) (fun w2 hw2 => intoX_calls e y _ hy (by assumption) e.length y.bh k1 bk1 (by rw [← hn]; exact P_heap) (P_node hbk1) _ H S w2 hw2) ?_
  rintro ⟨⟩ hs2
  apply OL.nil
  with_reducible apply At.in_normal
  with_reducible apply At.next
  apply W.reg
  apply obn; rfl; rfl; rfl; apply Bin.add_in; omega
  apply omv; rfl; rfl
  apply OL.nil
  refine At.again (k + 1, s1.into e.length k1) ⟨by omega, ?_⟩ (by simp only; omega) (by exact Sub.au) (fun w' hw' => hw')
  rw [List.range_succ, List.map_append, List.map_singleton, hk1]
  exact hst.app hs (.one hs2)
 ·obtain rfl : k = x.kids.length := by omega
  refine W.xt ?_
  with_reducible apply At.in_normal
  refine At.end_ (At.fin0 rfl (fun w' hw' => ⟨_, rfl, hst, hw'.thin (.any (fun k hk => by rw [show k = b5 from hk]; exact hb5) .same)⟩))
theorem node_let (s0 : World) (e : List Ex) (y : FY) (hy : FYOk e y) (hyB : y.B = s0.heap.size) (hbs : s0.heap.size ≤ y.bs) (hbm : s0.heap.size ≤ y.bm) (i : Nat) (x : Ex) (xy : ExY) (hx : e[i]? = some x) (hok : ExOk s0 (low s0) x xy) (ho : x.op = 4)
  (s : FS) (hs : FSOk e y s) (H : List Eng.Item) (hno : ∀ k, k < s0.heap.size → NotOwned H k) (S : List World) (hs0 : s0 ∈ S) (hSS : ∀ s ∈ S, s.heap.size ≤ s0.heap.size) (w : World) (hc : Cls (flI e y s H) S w) :
  Calls Tryd.prog 23 [.pointer (some ⟨y.bs, 0, none⟩), .int .i64 (i : Int), .agg (exC x xy).toArray].toArray w fun r w' => ∃ s', r = .returned (.tuple #[]) ∧ FStep e y s (eStat e.length (ixF e) i x) s' ∧ Cls (flI e y s' H) S w' := by
 have hsh := hy.ok.sh i x hx
 have hn := hy.len
 have hlen := hy.ok.len
 have hil := (List.getElem?_eq_some_iff.1 hx).1
 have hkl := hok.kl
 have hbl := hok.bl
 have hLim : ∀ k, s0.heap.size ≤ k → AllLe S k := fun k hk => AllLe.of fun s hs => Nat.le_trans (hSS s hs) hk
 obtain ⟨bi, hbi, hrowi⟩ := own_ex hy hil
 have hkk : x.kids.length = x.binds.length + 1 := by have := hsh.lets ho; omega
 have hes : eStat e.length (ixF e) i x = ((List.range x.binds.length).map fun k => (ixF e (x.binds.getD k 0), kidN x k)) ++ [(i, kidN x x.binds.length)] := by
  unfold eStat
  rw [if_neg (by omega), if_pos (by omega), hkk, Nat.add_sub_cancel]
 rw [hes]
 refine enter Tryd.func23 rfl Tryd.ntmps23 rfl hc ?_
 (simp only [argEnv, Nat.zero_add, Nat.reduceAdd])
 unfold flI FY.c exC
 apply W.sr
 apply OL.box; rfl; rfl; exact CellsL.agg; (intro bk hbk; have hbk0 := hbk.mem s0 hs0)
 apply OL.nsr
 apply ofa; rfl; rfl; rfl
 apply old; rfl; rfl; exact .head _; rfl; rfl
 apply OL.nx
 apply W.block
 refine W.no ?_
 refine W.no ?_
 apply W.seq
 refine W.yes ?_
 apply W.sk
 refine W.cT ?_
 apply W.seq
 apply W.sr
 apply ofa; rfl; rfl; rfl
 apply old; rfl; rfl; exact .head _; rfl; rfl
 apply oop; rfl; apply Pev.len_slice; rfl; exact yes; rfl
 apply omv; rfl; rfl
 apply OL.nx
 apply W.block
 revert hbk0
 revert bk
 intro b5 hb5 hb50
 refine W.loop (G := Nat × FS) (fun G => G.1 ≤ x.binds.length ∧ FStep e y s ((List.range G.1).map fun k => (ixF e (x.binds.getD k 0), kidN x k)) G.2) (fun G => x.binds.length - G.1)
  (fun G => [(0, true, .pointer (some ⟨y.bs, 0, none⟩)), (1, true, .int .i64 (i : Int)), (5, true, .pointer (some ⟨b5, 0, none⟩)), (37, true, .slice xy.b.1 x.binds.length xy.b.2), (38, true, .int .i64 (x.binds.length : Int)), (39, true, .int .i64 (G.1 : Int))])
  (fun G => Cls (blk b5 43 [.int .i64 x.op, .int .i64 x.n, .slice xy.b.1 x.binds.length xy.b.2, .slice xy.k.1 x.kids.length xy.k.2, .slice xy.a.1 x.alts.length xy.a.2] :: flI e y G.2 H) S) (0, s) ⟨Nat.zero_le _, .nil hs⟩ (by exact Sub.au) (fun w' hw' => hw') ?_
 rintro ⟨k, s1⟩ ⟨hk, hst⟩
 simp only at hk hst ⊢
 have hs1 := hst.ok
 apply W.sr
 apply obn; rfl; rfl; rfl; apply Bin.lss
 apply OL.nx
 apply W.seq
 (refine W.cnd (fun hlt => ?_) (fun hlt => ?_)) <;> (try (exfalso; first | omega | exact hlt trivial | contradiction))
 ·obtain ⟨ak, k1, bk1, hk1, hqk, habk, hcell1, hbk1, hki1, hkN1, hrow1⟩ := kid_ex hy hx hok (k := k) (by omega)
  obtain ⟨av, v, hqv, habv, hv, hcellv⟩ := hok.b.get (show k < x.binds.length by omega)
  have habv : av.block < s0.heap.size := habv
  have hgv : x.binds.getD k 0 = v := by rw [List.getD_eq_getElem?_getD, hv]; rfl
  have hid : v ∈ e.flatMap bindersX := FOk.bind hx (by omega) (List.mem_of_getElem? hv)
  rw [hqk]
  unfold flI FY.c
  rw [hqv]
  apply W.sk
  apply W.sb
  apply W.sr
  apply omv; rfl; rfl
  apply oop; rfl; apply Pev.idx; rfl; exact yes; rfl; exact yes; rfl; rfl; intro hcond; omega
  apply oop; rfl; apply Pev.load_kept; rfl; exact yes; assumption; rfl; intro hcond; assumption; intro hcond; (rw [add_block]; assumption); intro hcond; (focus ((try simp only [add_block]); (repeat (first | exact NotOwned.nil | exact hno _ (by omega) | exact hnr _ (by omega) | refine NotOwned.any (hXn _ (by omega)) ?_ | refine NotOwned.blk (by omega) ?_ | refine NotOwned.row (by omega) ?_ | refine NotOwned.rws (by omega) ?_ | refine NotOwned.pile (by omega) ?_ | refine NotOwned.pool (by omega) ?_ | refine NotOwned.bag (by omega) ?_ | refine NotOwned.mapI (by omega) ?_ | apply NotOwned.bif | refine NotOwned.nothing ?_)); done))
  apply oas; rfl; rfl
  apply oas; rfl; rfl
  apply OL.nx
  refine W.regzC (C0 := Cls (blk b5 43 [.int .i64 x.op, .int .i64 x.n, .slice (some av) x.binds.length xy.b.2, .slice (some ak) x.kids.length xy.k.2, .slice xy.a.1 x.alts.length xy.a.2] :: blk y.bs 56 [.slice y.qe y.N.length y.ce, .slice (some ⟨y.gn, 0, none⟩) y.N.length y.cn, .map (some y.bm), slW y.N.length y.bh, slW y.N.length y.ba, .bool s1.mv] :: row y.B y.O (some ⟨y.gn, 0, none⟩) y.N.length y.cn 52 1 (y.N.map (slW y.N.length)) :: H) S) (by (repeat (first | exact ZSplit.nil | apply ZSplit.pure rfl | apply ZSplit.tail))) (by kernel_rfl) (by decide +kernel) (fun w hw => hw.drew) (fun w hw => hw.thin (.keep (.keep (.any (fun k hk => hLim k (by rw [show k = y.bm from hk]; exact hbm)) (.any (fun k hk => hLim k (by rw [← hyB]; exact hk.1)) .same))))) ?_
  apply ZL.op rfl; exact Guard.none; rfl; rfl; apply Pev.move; rfl; exact yes
  apply ZL.op rfl; exact Guard.none; rfl; rfl; apply Pev.move; rfl; exact yes
  apply ZL.op rfl; exact Guard.none; rfl; rfl; apply Pev.move; rfl; exact yes
  apply ZL.op rfl; exact Guard.none; rfl; rfl; apply Pev.move; rfl; exact yes
  apply ZL.op rfl; exact Guard.none; rfl; rfl; apply Pev.nil_ptr; rfl; exact yes
  apply ZL.op rfl; exact Guard.none; rfl; rfl; apply Pev.fld; rfl; exact yes; rfl
  apply ZL.ld rfl; exact Guard.none; rfl; rfl; apply Pev.load_blk; rfl; exact yes; exact .tail _ (.head _); rfl; rfl
  apply ZL.op rfl; exact Guard.none; rfl; rfl; apply Pev.fld; rfl; exact yes; rfl
  apply ZL.ld rfl; exact Guard.none; rfl; rfl; apply Pev.load_blk; rfl; exact yes; exact .head _; rfl; rfl
  apply ZL.op rfl; exact Guard.none; rfl; rfl; apply Pev.move; rfl; exact yes
  apply ZL.op rfl; exact Guard.none; rfl; rfl; apply Pev.idx; rfl; exact yes; rfl; exact yes; rfl; rfl; intro hcond; omega
  apply ZL.ld rfl; exact Guard.none; rfl; rfl; apply Pev.load_kept; rfl; exact yes; assumption; rfl; intro hcond; assumption; intro hcond; (rw [add_block]; assumption); intro hcond; exact NotOwned.au
  apply ZL.op rfl; exact Guard.none; rfl; rfl; apply Pev.idxB; rfl; exact yes; rfl; exact yes; rfl; intro hcond; omega; rfl
  apply ZL.ld rfl; exact Guard.none; rfl; rfl; apply Pev.load_row; rfl; exact yes; exact .tail _ (.tail _ (.head _)); rfl; assumption
  apply ZL.nilC
  apply TL.one rfl
  refine OL.callE (α := Nat × List (Int × Nat)) (fun z => slW y.N.length z.1) (fun z => (ixF e v, z.1) ∈ (s1.with z.2).P e y ∧ FSOk e y (s1.with z.2)) (fun z => Cls (blk b5 43 [.int .i64 x.op, .int .i64 x.n, .slice (some av) x.binds.length xy.b.2, .slice (some ak) x.kids.length xy.k.2, .slice xy.a.1 x.alts.length xy.a.2] :: flI e y (s1.with z.2) H) S) rfl rfl (by exact Args.au) (fun w2 hw2 => (identI_calls e y s1 hy hs1 v hid _ S s0 hs0 (by omega) w2 (flX.1 hw2)).mono (fun e1 w3 ⟨b, M', h1, h2, h3, h4⟩ => ⟨(b, M'), h1, ⟨h2, h3⟩, flX.2 h4⟩)) ?_
  rintro ⟨bv, M1⟩ ⟨hbv, hs3⟩
  simp only at hbv hs3 ⊢
  refine OL.nil (At.tk (fun w hw => hw.thin (.keep (.keep (.any (fun k hk => hLim k (by rw [show k = y.bm from hk]; exact hbm)) (.any (fun k hk => hLim k (by rw [← hyB]; exact hk.1)) .same))))) ?_)
  apply TL.one rfl
  refine OL.callE (α := Unit) (fun _ => .tuple #[]) (fun _ => FSOk e y ((s1.with M1).into (ixF e v) k1)) (fun _ => Cls (blk b5 43 [.int .i64 x.op, .int .i64 x.n, .slice (some av) x.binds.length xy.b.2, .slice (some ak) x.kids.length xy.k.2, .slice xy.a.1 x.alts.length xy.a.2] :: flI e y ((s1.with M1).into (ixF e v) k1) H) S) rfl rfl (by exact Args.au) (fun w2 hw2 => intoX_calls e y _ hy hs3 (ixF e v) bv k1 bk1 hbv (P_node hbk1) _ H S w2 hw2) ?_
  rintro ⟨⟩ hs4
  apply OL.nil
  with_reducible apply At.tn; decide +kernel
  apply TL.nil
  with_reducible apply At.np
  with_reducible apply At.in_normal
  with_reducible apply At.next
  apply W.reg
  apply obn; rfl; rfl; rfl; apply Bin.add_in; omega
  apply omv; rfl; rfl
  apply OL.nil
  refine At.again (k + 1, (s1.with M1).into (ixF e v) k1) ⟨by omega, ?_⟩ (by simp only; omega) (by exact Sub.au) (fun w' hw' => hw')
  rw [List.range_succ, List.map_append, List.map_singleton, hgv, hk1]
  exact hst.app hs (FStep.with (.one hs4))
 ·obtain rfl : k = x.binds.length := by omega
  obtain ⟨ak, k1, bk1, hk1, hqk, habk, hcell1, hbk1, hki1, hkN1, hrow1⟩ := kid_ex hy hx hok (k := x.binds.length) (by omega)
  have hcell2 : s0.cell? (ak.add (((x.kids.length : Int) - 1).toNat * 1)) = some (.int .i64 (k1 : Int)) := by rw [show ((x.kids.length : Int) - 1).toNat = x.binds.length by omega]; exact hcell1
  rw [hqk, hk1]
  unfold flI FY.c
  refine W.xt ?_
  with_reducible apply At.next
  refine W.regn 22 (by (repeat (first | exact SplitN.z | apply SplitN.s))) (by kernel_rfl) (by decide +kernel) (fun w hw => hw.drew) ?_
  apply qmv; rfl; rfl
  apply qmv; rfl; rfl
  apply qop; rfl; apply Pev.nil_ptr; rfl; exact yes
  apply qfa; rfl; rfl; rfl
  apply qld; rfl; rfl; exact .tail _ (.head _); rfl; rfl
  apply qmv; rfl; rfl
  apply qop; rfl; apply Pev.idxB; rfl; exact yes; rfl; exact yes; rfl; intro hcond; omega; rfl
  apply qop; rfl; apply Pev.load_row; rfl; exact yes; apply List.Mem.tail; apply List.Mem.tail; exact .tail _ (.tail _ (.head _)); rfl; assumption
  apply qmv; rfl; rfl
  apply qop; rfl; apply Pev.nil_ptr; rfl; exact yes
  apply qfa; rfl; rfl; rfl
  apply qld; rfl; rfl; exact .tail _ (.head _); rfl; rfl
  apply qfa; rfl; rfl; rfl
  apply qld; rfl; rfl; exact .head _; rfl; rfl
  apply qfa; rfl; rfl; rfl
  apply qld; rfl; rfl; exact .head _; rfl; rfl
  apply qop; rfl; apply Pev.len_slice; rfl; exact yes; rfl
  apply qbn; rfl; rfl; rfl; apply Bin.sub_in; omega
  apply qop; rfl; apply Pev.idxI; rfl; exact yes; rfl; exact yes; rfl; intro hcond; omega
  apply qop; rfl; apply Pev.load_kept; rfl; exact yes; assumption; rfl; intro hcond; assumption; intro hcond; (rw [add_block]; assumption); intro hcond; (focus ((try simp only [add_block]); (repeat (first | exact NotOwned.nil | exact hno _ (by omega) | exact hnr _ (by omega) | refine NotOwned.any (hXn _ (by omega)) ?_ | refine NotOwned.blk (by omega) ?_ | refine NotOwned.row (by omega) ?_ | refine NotOwned.rws (by omega) ?_ | refine NotOwned.pile (by omega) ?_ | refine NotOwned.pool (by omega) ?_ | refine NotOwned.bag (by omega) ?_ | refine NotOwned.mapI (by omega) ?_ | apply NotOwned.bif | refine NotOwned.nothing ?_)); done))
  apply qop; rfl; apply Pev.idxB; rfl; exact yes; rfl; exact yes; rfl; intro hcond; omega; rfl
  apply qop; rfl; apply Pev.load_row; rfl; exact yes; apply List.Mem.tail; apply List.Mem.tail; exact .tail _ (.tail _ (.head _)); rfl; assumption
  with_reducible apply QL.tail
  refine OL.callE (α := Unit) (fun _ => .tuple #[]) (fun _ => FSOk e y (s1.into i k1)) (fun _ => Cls (blk b5 43 [.int .i64 x.op, .int .i64 x.n, .slice xy.b.1 x.binds.length xy.b.2, .slice (some ak) x.kids.length xy.k.2, .slice xy.a.1 x.alts.length xy.a.2] :: flI e y (s1.into i k1) H) S) rfl rfl (by exact Args.au) (fun w2 hw2 => intoX_calls e y _ hy (by assumption) i bi k1 bk1 (P_node hbi) (P_node hbk1) _ H S w2 hw2) ?_
  rintro ⟨⟩ hs2
  apply OL.nil
  with_reducible apply At.in_normal
  refine At.end_ (At.fin0 rfl (fun w' hw' => ⟨_, rfl, hst.app hs (.one hs2), hw'.thin (.any (fun k hk => by rw [show k = b5 from hk]; exact hb5) .same)⟩))
theorem node_rec (s0 : World) (e : List Ex) (y : FY) (hy : FYOk e y) (hyB : y.B = s0.heap.size) (hbs : s0.heap.size ≤ y.bs) (hbm : s0.heap.size ≤ y.bm) (i : Nat) (x : Ex) (xy : ExY) (hx : e[i]? = some x) (hok : ExOk s0 (low s0) x xy) (ho : x.op = 5)
  (s : FS) (hs : FSOk e y s) (H : List Eng.Item) (hno : ∀ k, k < s0.heap.size → NotOwned H k) (S : List World) (hs0 : s0 ∈ S) (hSS : ∀ s ∈ S, s.heap.size ≤ s0.heap.size) (w : World) (hc : Cls (flI e y s H) S w) :
  Calls Tryd.prog 23 [.pointer (some ⟨y.bs, 0, none⟩), .int .i64 (i : Int), .agg (exC x xy).toArray].toArray w fun r w' => ∃ s', r = .returned (.tuple #[]) ∧ FStep e y s (eStat e.length (ixF e) i x) s' ∧ Cls (flI e y s' H) S w' := by
 have hsh := hy.ok.sh i x hx
 have hn := hy.len
 have hlen := hy.ok.len
 have hil := (List.getElem?_eq_some_iff.1 hx).1
 have hkl := hok.kl
 have hbl := hok.bl
 have hLim : ∀ k, s0.heap.size ≤ k → AllLe S k := fun k hk => AllLe.of fun s hs => Nat.le_trans (hSS s hs) hk
 obtain ⟨bi, hbi, hrowi⟩ := own_ex hy hil
 have hkk : x.kids.length = x.binds.length + 1 := by exact hsh.recs ho
 have hes : eStat e.length (ixF e) i x = ((List.range x.binds.length).map fun k => (ixF e (x.binds.getD k 0), kidN x k)) ++ [(i, kidN x x.binds.length)] := by
  unfold eStat
  rw [if_neg (by omega), if_pos (by omega), hkk, Nat.add_sub_cancel]
 rw [hes]
 refine enter Tryd.func23 rfl Tryd.ntmps23 rfl hc ?_
 (simp only [argEnv, Nat.zero_add, Nat.reduceAdd])
 unfold flI FY.c exC
 apply W.sr
 apply OL.box; rfl; rfl; exact CellsL.agg; (intro bk hbk; have hbk0 := hbk.mem s0 hs0)
 apply OL.nsr
 apply ofa; rfl; rfl; rfl
 apply old; rfl; rfl; exact .head _; rfl; rfl
 apply OL.nx
 apply W.block
 refine W.no ?_
 refine W.no ?_
 apply W.seq
 refine W.no ?_
 refine W.yesR ?_
 with_reducible apply At.next
 refine W.cT ?_
 apply W.seq
 apply W.sr
 apply ofa; rfl; rfl; rfl
 apply old; rfl; rfl; exact .head _; rfl; rfl
 apply oop; rfl; apply Pev.len_slice; rfl; exact yes; rfl
 apply omv; rfl; rfl
 apply OL.nx
 apply W.block
 revert hbk0
 revert bk
 intro b5 hb5 hb50
 refine W.loop (G := Nat × FS) (fun G => G.1 ≤ x.binds.length ∧ FStep e y s ((List.range G.1).map fun k => (ixF e (x.binds.getD k 0), kidN x k)) G.2) (fun G => x.binds.length - G.1)
  (fun G => [(0, true, .pointer (some ⟨y.bs, 0, none⟩)), (1, true, .int .i64 (i : Int)), (5, true, .pointer (some ⟨b5, 0, none⟩)), (37, true, .slice xy.b.1 x.binds.length xy.b.2), (38, true, .int .i64 (x.binds.length : Int)), (39, true, .int .i64 (G.1 : Int))])
  (fun G => Cls (blk b5 43 [.int .i64 x.op, .int .i64 x.n, .slice xy.b.1 x.binds.length xy.b.2, .slice xy.k.1 x.kids.length xy.k.2, .slice xy.a.1 x.alts.length xy.a.2] :: flI e y G.2 H) S) (0, s) ⟨Nat.zero_le _, .nil hs⟩ (by exact Sub.au) (fun w' hw' => hw') ?_
 rintro ⟨k, s1⟩ ⟨hk, hst⟩
 simp only at hk hst ⊢
 have hs1 := hst.ok
 apply W.sr
 apply obn; rfl; rfl; rfl; apply Bin.lss
 apply OL.nx
 apply W.seq
 (refine W.cnd (fun hlt => ?_) (fun hlt => ?_)) <;> (try (exfalso; first | omega | exact hlt trivial | contradiction))
 ·obtain ⟨ak, k1, bk1, hk1, hqk, habk, hcell1, hbk1, hki1, hkN1, hrow1⟩ := kid_ex hy hx hok (k := k) (by omega)
  obtain ⟨av, v, hqv, habv, hv, hcellv⟩ := hok.b.get (show k < x.binds.length by omega)
  have habv : av.block < s0.heap.size := habv
  have hgv : x.binds.getD k 0 = v := by rw [List.getD_eq_getElem?_getD, hv]; rfl
  have hid : v ∈ e.flatMap bindersX := FOk.bind hx (by omega) (List.mem_of_getElem? hv)
  rw [hqk]
  unfold flI FY.c
  rw [hqv]
  apply W.sk
  apply W.sb
  apply W.sr
  apply omv; rfl; rfl
  apply oop; rfl; apply Pev.idx; rfl; exact yes; rfl; exact yes; rfl; rfl; intro hcond; omega
  apply oop; rfl; apply Pev.load_kept; rfl; exact yes; assumption; rfl; intro hcond; assumption; intro hcond; (rw [add_block]; assumption); intro hcond; (focus ((try simp only [add_block]); (repeat (first | exact NotOwned.nil | exact hno _ (by omega) | exact hnr _ (by omega) | refine NotOwned.any (hXn _ (by omega)) ?_ | refine NotOwned.blk (by omega) ?_ | refine NotOwned.row (by omega) ?_ | refine NotOwned.rws (by omega) ?_ | refine NotOwned.pile (by omega) ?_ | refine NotOwned.pool (by omega) ?_ | refine NotOwned.bag (by omega) ?_ | refine NotOwned.mapI (by omega) ?_ | apply NotOwned.bif | refine NotOwned.nothing ?_)); done))
  apply oas; rfl; rfl
  apply oas; rfl; rfl
  apply OL.nx
  refine W.regzC (C0 := Cls (blk b5 43 [.int .i64 x.op, .int .i64 x.n, .slice (some av) x.binds.length xy.b.2, .slice (some ak) x.kids.length xy.k.2, .slice xy.a.1 x.alts.length xy.a.2] :: blk y.bs 56 [.slice y.qe y.N.length y.ce, .slice (some ⟨y.gn, 0, none⟩) y.N.length y.cn, .map (some y.bm), slW y.N.length y.bh, slW y.N.length y.ba, .bool s1.mv] :: row y.B y.O (some ⟨y.gn, 0, none⟩) y.N.length y.cn 52 1 (y.N.map (slW y.N.length)) :: H) S) (by (repeat (first | exact ZSplit.nil | apply ZSplit.pure rfl | apply ZSplit.tail))) (by kernel_rfl) (by decide +kernel) (fun w hw => hw.drew) (fun w hw => hw.thin (.keep (.keep (.any (fun k hk => hLim k (by rw [show k = y.bm from hk]; exact hbm)) (.any (fun k hk => hLim k (by rw [← hyB]; exact hk.1)) .same))))) ?_
  apply ZL.op rfl; exact Guard.none; rfl; rfl; apply Pev.move; rfl; exact yes
  apply ZL.op rfl; exact Guard.none; rfl; rfl; apply Pev.move; rfl; exact yes
  apply ZL.op rfl; exact Guard.none; rfl; rfl; apply Pev.move; rfl; exact yes
  apply ZL.op rfl; exact Guard.none; rfl; rfl; apply Pev.move; rfl; exact yes
  apply ZL.op rfl; exact Guard.none; rfl; rfl; apply Pev.nil_ptr; rfl; exact yes
  apply ZL.op rfl; exact Guard.none; rfl; rfl; apply Pev.fld; rfl; exact yes; rfl
  apply ZL.ld rfl; exact Guard.none; rfl; rfl; apply Pev.load_blk; rfl; exact yes; exact .tail _ (.head _); rfl; rfl
  apply ZL.op rfl; exact Guard.none; rfl; rfl; apply Pev.fld; rfl; exact yes; rfl
  apply ZL.ld rfl; exact Guard.none; rfl; rfl; apply Pev.load_blk; rfl; exact yes; exact .head _; rfl; rfl
  apply ZL.op rfl; exact Guard.none; rfl; rfl; apply Pev.move; rfl; exact yes
  apply ZL.op rfl; exact Guard.none; rfl; rfl; apply Pev.idx; rfl; exact yes; rfl; exact yes; rfl; rfl; intro hcond; omega
  apply ZL.ld rfl; exact Guard.none; rfl; rfl; apply Pev.load_kept; rfl; exact yes; assumption; rfl; intro hcond; assumption; intro hcond; (rw [add_block]; assumption); intro hcond; exact NotOwned.au
  apply ZL.op rfl; exact Guard.none; rfl; rfl; apply Pev.idxB; rfl; exact yes; rfl; exact yes; rfl; intro hcond; omega; rfl
  apply ZL.ld rfl; exact Guard.none; rfl; rfl; apply Pev.load_row; rfl; exact yes; exact .tail _ (.tail _ (.head _)); rfl; assumption
  apply ZL.nilC
  apply TL.one rfl
  refine OL.callE (α := Nat × List (Int × Nat)) (fun z => slW y.N.length z.1) (fun z => (ixF e v, z.1) ∈ (s1.with z.2).P e y ∧ FSOk e y (s1.with z.2)) (fun z => Cls (blk b5 43 [.int .i64 x.op, .int .i64 x.n, .slice (some av) x.binds.length xy.b.2, .slice (some ak) x.kids.length xy.k.2, .slice xy.a.1 x.alts.length xy.a.2] :: flI e y (s1.with z.2) H) S) rfl rfl (by exact Args.au) (fun w2 hw2 => (identI_calls e y s1 hy hs1 v hid _ S s0 hs0 (by omega) w2 (flX.1 hw2)).mono (fun e1 w3 ⟨b, M', h1, h2, h3, h4⟩ => ⟨(b, M'), h1, ⟨h2, h3⟩, flX.2 h4⟩)) ?_
  rintro ⟨bv, M1⟩ ⟨hbv, hs3⟩
  simp only at hbv hs3 ⊢
  refine OL.nil (At.tk (fun w hw => hw.thin (.keep (.keep (.any (fun k hk => hLim k (by rw [show k = y.bm from hk]; exact hbm)) (.any (fun k hk => hLim k (by rw [← hyB]; exact hk.1)) .same))))) ?_)
  apply TL.one rfl
  refine OL.callE (α := Unit) (fun _ => .tuple #[]) (fun _ => FSOk e y ((s1.with M1).into (ixF e v) k1)) (fun _ => Cls (blk b5 43 [.int .i64 x.op, .int .i64 x.n, .slice (some av) x.binds.length xy.b.2, .slice (some ak) x.kids.length xy.k.2, .slice xy.a.1 x.alts.length xy.a.2] :: flI e y ((s1.with M1).into (ixF e v) k1) H) S) rfl rfl (by exact Args.au) (fun w2 hw2 => intoX_calls e y _ hy hs3 (ixF e v) bv k1 bk1 hbv (P_node hbk1) _ H S w2 hw2) ?_
  rintro ⟨⟩ hs4
  apply OL.nil
  with_reducible apply At.tn; decide +kernel
  apply TL.nil
  with_reducible apply At.np
  with_reducible apply At.in_normal
  with_reducible apply At.next
  apply W.reg
  apply obn; rfl; rfl; rfl; apply Bin.add_in; omega
  apply omv; rfl; rfl
  apply OL.nil
  refine At.again (k + 1, (s1.with M1).into (ixF e v) k1) ⟨by omega, ?_⟩ (by simp only; omega) (by exact Sub.au) (fun w' hw' => hw')
  rw [List.range_succ, List.map_append, List.map_singleton, hgv, hk1]
  exact hst.app hs (FStep.with (.one hs4))
 ·obtain rfl : k = x.binds.length := by omega
  obtain ⟨ak, k1, bk1, hk1, hqk, habk, hcell1, hbk1, hki1, hkN1, hrow1⟩ := kid_ex hy hx hok (k := x.binds.length) (by omega)
  have hcell2 : s0.cell? (ak.add (((x.kids.length : Int) - 1).toNat * 1)) = some (.int .i64 (k1 : Int)) := by rw [show ((x.kids.length : Int) - 1).toNat = x.binds.length by omega]; exact hcell1
  rw [hqk, hk1]
  unfold flI FY.c
  refine W.xt ?_
  with_reducible apply At.next
  refine W.regn 22 (by (repeat (first | exact SplitN.z | apply SplitN.s))) (by kernel_rfl) (by decide +kernel) (fun w hw => hw.drew) ?_
  apply qmv; rfl; rfl
  apply qmv; rfl; rfl
  apply qop; rfl; apply Pev.nil_ptr; rfl; exact yes
  apply qfa; rfl; rfl; rfl
  apply qld; rfl; rfl; exact .tail _ (.head _); rfl; rfl
  apply qmv; rfl; rfl
  apply qop; rfl; apply Pev.idxB; rfl; exact yes; rfl; exact yes; rfl; intro hcond; omega; rfl
  apply qop; rfl; apply Pev.load_row; rfl; exact yes; apply List.Mem.tail; apply List.Mem.tail; exact .tail _ (.tail _ (.head _)); rfl; assumption
  apply qmv; rfl; rfl
  apply qop; rfl; apply Pev.nil_ptr; rfl; exact yes
  apply qfa; rfl; rfl; rfl
  apply qld; rfl; rfl; exact .tail _ (.head _); rfl; rfl
  apply qfa; rfl; rfl; rfl
  apply qld; rfl; rfl; exact .head _; rfl; rfl
  apply qfa; rfl; rfl; rfl
  apply qld; rfl; rfl; exact .head _; rfl; rfl
  apply qop; rfl; apply Pev.len_slice; rfl; exact yes; rfl
  apply qbn; rfl; rfl; rfl; apply Bin.sub_in; omega
  apply qop; rfl; apply Pev.idxI; rfl; exact yes; rfl; exact yes; rfl; intro hcond; omega
  apply qop; rfl; apply Pev.load_kept; rfl; exact yes; assumption; rfl; intro hcond; assumption; intro hcond; (rw [add_block]; assumption); intro hcond; (focus ((try simp only [add_block]); (repeat (first | exact NotOwned.nil | exact hno _ (by omega) | exact hnr _ (by omega) | refine NotOwned.any (hXn _ (by omega)) ?_ | refine NotOwned.blk (by omega) ?_ | refine NotOwned.row (by omega) ?_ | refine NotOwned.rws (by omega) ?_ | refine NotOwned.pile (by omega) ?_ | refine NotOwned.pool (by omega) ?_ | refine NotOwned.bag (by omega) ?_ | refine NotOwned.mapI (by omega) ?_ | apply NotOwned.bif | refine NotOwned.nothing ?_)); done))
  apply qop; rfl; apply Pev.idxB; rfl; exact yes; rfl; exact yes; rfl; intro hcond; omega; rfl
  apply qop; rfl; apply Pev.load_row; rfl; exact yes; apply List.Mem.tail; apply List.Mem.tail; exact .tail _ (.tail _ (.head _)); rfl; assumption
  with_reducible apply QL.tail
  refine OL.callE (α := Unit) (fun _ => .tuple #[]) (fun _ => FSOk e y (s1.into i k1)) (fun _ => Cls (blk b5 43 [.int .i64 x.op, .int .i64 x.n, .slice xy.b.1 x.binds.length xy.b.2, .slice (some ak) x.kids.length xy.k.2, .slice xy.a.1 x.alts.length xy.a.2] :: flI e y (s1.into i k1) H) S) rfl rfl (by exact Args.au) (fun w2 hw2 => intoX_calls e y _ hy (by assumption) i bi k1 bk1 (P_node hbi) (P_node hbk1) _ H S w2 hw2) ?_
  rintro ⟨⟩ hs2
  apply OL.nil
  with_reducible apply At.in_normal
  refine At.end_ (At.fin0 rfl (fun w' hw' => ⟨_, rfl, hst.app hs (.one hs2), hw'.thin (.any (fun k hk => by rw [show k = b5 from hk]; exact hb5) .same)⟩))
end Go.Proofs.YtkpjndhgicbjjaaDoor.co

/- The walk of flow's node, joined. Conditions: none. -/
namespace Go.Proofs.YtkpjndhgicbjjaaDoor.co
open Go.RowKit Go.Eng Go.Co
set_option maxRecDepth 100000
theorem node_app (s0 : World) (es : List (Ex × ExY)) (e : List Ex) (hee : es.map Prod.fst = e) (y : FY) (hy : FYOk e y) (he : Arr exR s0 (low s0) es y.qe) (hT : tzAt s0) (hTg : 0 < s0.heap.size) (hyB : y.B = s0.heap.size) (hbs : s0.heap.size ≤ y.bs) (hbm : s0.heap.size ≤ y.bm) (i : Nat) (x : Ex) (xy : ExY) (hes : es[i]? = some (x, xy)) (hx : e[i]? = some x) (hok : ExOk s0 (low s0) x xy) (ho : x.op = 3)
  (s : FS) (hs : FSOk e y s) (H : List Eng.Item) (hno : ∀ k, k < s0.heap.size → NotOwned H k) (S : List World) (hs0 : s0 ∈ S) (hSS : ∀ s ∈ S, s.heap.size ≤ s0.heap.size) (w : World) (hc : Cls (flI e y s H) S w) :
  Calls Tryd.prog 23 [.pointer (some ⟨y.bs, 0, none⟩), .int .i64 (i : Int), .agg (exC x xy).toArray].toArray w fun r w' => ∃ s', r = .returned (.tuple #[]) ∧ FStep e y s (eApp e.length (ixF e) e s.R i x (e.length + 1)) s' ∧ Cls (flI e y s' H) S w' := by
 have hsh := hy.ok.sh i x hx
 have hn := hy.len
 have hlen := hy.ok.len
 have hil := (List.getElem?_eq_some_iff.1 hx).1
 have hkl := hok.kl
 have hbl := hok.bl
 have hLim : ∀ k, s0.heap.size ≤ k → AllLe S k := fun k hk => AllLe.of fun s hs => Nat.le_trans (hSS s hs) hk
 obtain ⟨bi, hbi, hrowi⟩ := own_ex hy hil
 refine enter Tryd.func23 rfl Tryd.ntmps23 rfl hc ?_
 (simp only [argEnv, Nat.zero_add, Nat.reduceAdd])
 unfold flI FY.c exC
 apply W.sr
 apply OL.box; rfl; rfl; exact CellsL.agg; (intro bk hbk; have hbk0 := hbk.mem s0 hs0)
 apply OL.nsr
 apply ofa; rfl; rfl; rfl
 apply old; rfl; rfl; exact .head _; rfl; rfl
 apply OL.nx
 apply W.block
 refine W.no ?_
 refine W.yes ?_
 apply W.reg
 apply omv; rfl; rfl
 apply omv; rfl; rfl
 apply oop; rfl; apply Pev.load_blkA; rfl; exact yes; exact .head _; rfl; exact Take.au
 revert hbk0
 revert bk
 intro b5 hb5 hb50
 skip
 refine OL.callE (α := FS) (vs := [.pointer (some ⟨y.bs, 0, none⟩), .int .i64 (i : Int), .agg (exC x xy).toArray]) (fun _ => .tuple #[]) (fun s' => FStep e y s (eApp e.length (ixF e) e s.R i x (e.length + 1)) s') (fun s' => Cls (blk b5 43 [.int .i64 x.op, .int .i64 x.n, .slice xy.b.1 x.binds.length xy.b.2, .slice xy.k.1 x.kids.length xy.k.2, .slice xy.a.1 x.alts.length xy.a.2] :: flI e y s' H) S) rfl rfl (by exact Args.au) (fun w2 hw2 => (call_calls s0 es e hee y hy he hyB hbs hbm hT hTg i (x, xy) hes ho s hs _ (fun k hk => NotOwned.blk (by omega) (hno k hk)) S hs0 hSS w2 (flX.1 hw2)).mono (fun e1 w3 ⟨s', h1, h2, h3⟩ => ⟨s', h1, h2, flX.2 h3⟩)) ?_
 intro s' hs'
 apply OL.nil
 with_reducible apply At.in_normal
 refine At.end_ (At.fin0 rfl (fun w' hw' => ⟨_, rfl, hs', hw'.thin (.any (fun k hk => by rw [show k = b5 from hk]; exact hb5) .same)⟩))
theorem node_calls (s0 : World) (es : List (Ex × ExY)) (e : List Ex) (hee : es.map Prod.fst = e) (y : FY) (hy : FYOk e y) (he : Arr exR s0 (low s0) es y.qe) (hT : tzAt s0) (hTg : 0 < s0.heap.size) (hyB : y.B = s0.heap.size) (hbs : s0.heap.size ≤ y.bs) (hbm : s0.heap.size ≤ y.bm) (i : Nat) (x : Ex) (xy : ExY) (hes : es[i]? = some (x, xy)) (hx : e[i]? = some x) (hop : 0 ≤ x.op) (hok : ExOk s0 (low s0) x xy)
  (s : FS) (hs : FSOk e y s) (H : List Eng.Item) (hno : ∀ k, k < s0.heap.size → NotOwned H k) (S : List World) (hs0 : s0 ∈ S) (hSS : ∀ s ∈ S, s.heap.size ≤ s0.heap.size) (w : World) (hc : Cls (flI e y s H) S w) :
  Calls Tryd.prog 23 [.pointer (some ⟨y.bs, 0, none⟩), .int .i64 (i : Int), .agg (exC x xy).toArray].toArray w fun r w' => ∃ s', r = .returned (.tuple #[]) ∧ FStep e y s (if x.op = 2 then [] else edges e.length (ixF e) e s.R i x) s' ∧ Cls (flI e y s' H) S w' := by
 by_cases h3 : x.op = 3
 ·rw [if_neg (by omega), edges, if_pos h3]
  exact node_app s0 es e hee y hy he hT hTg hyB hbs hbm i x xy hes hx hok h3 s hs H hno S hs0 hSS w hc
 have hE : (if x.op = 2 then [] else edges e.length (ixF e) e s.R i x) = eStat e.length (ixF e) i x := by
  by_cases h2 : x.op = 2
  ·rw [if_pos h2]
   unfold eStat
   repeat (first | rw [if_neg (by omega)] | rfl)
  ·rw [if_neg h2, edges, if_neg h3]
 rw [hE]
 by_cases h0 : x.op = 0
 ·exact node_var s0 e y hy hyB hbs hbm i x xy hx hok h0 s hs H hno S hs0 hSS w hc
 by_cases h4 : x.op = 4
 ·exact node_let s0 e y hy hyB hbs hbm i x xy hx hok h4 s hs H hno S hs0 hSS w hc
 by_cases h5 : x.op = 5
 ·exact node_rec s0 e y hy hyB hbs hbm i x xy hx hok h5 s hs H hno S hs0 hSS w hc
 by_cases h6 : x.op = 6
 ·exact node_con s0 e y hy hyB hbs hbm i x xy hx hok h6 s hs H hno S hs0 hSS w hc
 by_cases h7 : x.op = 7
 ·exact node_case s0 e y hy hyB hbs hbm i x xy hx hok h7 s hs H hno S hs0 hSS w hc
 by_cases h8 : x.op = 8
 ·exact node_prim s0 e y hy hyB hbs hbm i x xy hx hok h8 s hs H hno S hs0 hSS w hc
 by_cases h9 : x.op = 9
 ·exact node_row s0 e y hy hyB hbs hbm i x xy hx hok h9 s hs H hno S hs0 hSS w hc
 by_cases h10 : x.op = 10
 ·exact node_get s0 e y hy hyB hbs hbm i x xy hx hok h10 s hs H hno S hs0 hSS w hc
 by_cases h11 : x.op = 11
 ·exact node_set s0 e y hy hyB hbs hbm i x xy hx hok h11 s hs H hno S hs0 hSS w hc
 by_cases h12 : x.op = 12
 ·exact node_perform s0 e y hy hyB hbs hbm i x xy hx hok h12 s hs H hno S hs0 hSS w hc
 by_cases h13 : x.op = 13
 ·exact node_handle s0 e y hy hyB hbs hbm i x xy hx hok h13 s hs H hno S hs0 hSS w hc
 exact node_none s0 e y hy hyB hbs hbm i x xy hx hok (by omega) s hs H hno S hs0 hSS w hc
end Go.Proofs.YtkpjndhgicbjjaaDoor.co

/- Plain: a pass of the solver over some nodes. Condition: none. -/
namespace Go.Co
open Go.Eng
structure PStep (e : List Ex) (y : FY) (s : FS) (l : List Nat) (s' : FS) : Prop where
 R : s'.R = passF false e.length (ixF e) e s.R l
 mv : s'.mv = (s.mv || !decide (s'.R = s.R))
 ok : FSOk e y s'
theorem PStep.nil {e : List Ex} {y : FY} {s : FS} (h : FSOk e y s) : PStep e y s [] s := ⟨rfl, by simp, h⟩
theorem PStep.snoc {e : List Ex} {y : FY} {s s1 s2 : FS} {l : List Nat} {i : Nat} {x : Ex} (h0 : FSOk e y s) (h : PStep e y s l s1) (hx : e[i]? = some x) (hn : FStep e y s1 (if x.op = 2 then [] else edges e.length (ixF e) e s1.R i x) s2) : PStep e y s (l ++ [i]) s2 := by
 have e1 : s2.R = nodeF false e.length (ixF e) e s1.R i := by
  rw [hn.R]
  unfold nodeF
  rw [hx]
  by_cases h2 : x.op = 2
  ·simp [h2, inAll]
  ·simp [h2]
 have e2 : s2.R = passF false e.length (ixF e) e s.R (l ++ [i]) := by
  rw [e1, h.R]
  simp [passF]
 refine ⟨e2, ?_, hn.ok⟩
 rw [hn.mv, ← hn.R, h.mv]
 have l1 : FLe s.R s1.R := by rw [h.R]; exact FLe.pass _ _ _ _ _ _
 have l2 : FLe s1.R s2.R := by rw [e1]; exact FLe.node _ _ _ _ _ _
 by_cases h1 : s2.R = s.R
 ·have h2 : s1.R = s.R := FLe.anti h.ok.dim h0.dim (by rw [h1] at l2; exact l2) l1
  simp [h1, h2]
 ·by_cases h2 : s1.R = s.R
  ·have h3 : ¬ s2.R = s1.R := by rw [h2]; exact h1
   simp [h1, h2]
  ·simp [h1, h2]
end Go.Co

/- The walk of flow's solve: the solver's memory is laid, and passes are made until nothing moves. Conditions: none. -/
namespace Go.Co
open Go.Eng
def initB (e : List Ex) (p f : Nat) : Bool := (decide (p = f) && (match e[p]? with | some x => decide (x.op = 2) | none => false)) || (decide (p = e.length + 1) && decide (f = e.length))
def rowB0 (e : List Ex) (p : Nat) : List Bool := (List.range (e.length + 1)).map (initB e p)
def R0 (e : List Ex) : FR := (List.range (rowsN e)).map (rowB0 e)
theorem R0_dim (e : List Ex) : FDim e.length (rowsN e) (R0 e) := ⟨by simp [R0], fun r hr => by
 obtain ⟨p, _, rfl⟩ := List.mem_map.1 hr
 simp [rowB0]⟩
theorem R0_get {e : List Ex} {p : Nat} (h : p < rowsN e) : (R0 e).getD p [] = rowB0 e p := by
 unfold R0
 rw [List.getD_eq_getElem?_getD, List.getElem?_map, List.getElem?_range h]
 rfl
theorem rowB0_get {e : List Ex} {p f : Nat} : (rowB0 e p).getD f false = (decide (f < e.length + 1) && initB e p f) := by
 unfold rowB0
 rw [List.getD_eq_getElem?_getD, List.getElem?_map]
 by_cases h : f < e.length + 1
 ·rw [List.getElem?_range h]
  simp [h]
 ·rw [List.getElem?_eq_none (by rw [List.length_range]; omega)]
  simp [h]
theorem R0_hB {e : List Ex} {p f : Nat} (h : hB (R0 e) p f = true) : initB e p f = true := by
 unfold hB at h
 by_cases hp : p < rowsN e
 ·rw [R0_get hp, rowB0_get] at h
  simp only [Bool.and_eq_true] at h
  exact h.2
 ·rw [List.getD_eq_getElem?_getD (l := R0 e), List.getElem?_eq_none (by rw [(R0_dim e).len]; omega)] at h
  simp at h
theorem R0_lam {e : List Ex} : LamOnly e (R0 e) := fun p g h => by
 have := R0_hB h
 unfold initB at this
 simp only [Bool.or_eq_true, Bool.and_eq_true, decide_eq_true_eq] at this
 rcases this with ⟨rfl, h2⟩ | ⟨_, h2⟩
 ·cases hx : e[p]? with
  | none => rw [hx] at h2; cases h2
  | some x =>
   rw [hx] at h2
   exact .inr ⟨x, rfl, by simpa using h2⟩
 ·exact .inl h2
theorem R0_on {e : List Ex} {i : Nat} {x : Ex} (hx : e[i]? = some x) (ho : x.op = 2) : hB (R0 e) i i = true := by
 have hi := (List.getElem?_eq_some_iff.1 hx).1
 unfold hB
 rw [R0_get (by unfold rowsN; omega), rowB0_get]
 simp [initB, hx, ho]
 omega
theorem R0_again (e : List Ex) : hB (R0 e) (e.length + 1) e.length = true := by
 unfold hB
 rw [R0_get (by unfold rowsN; omega), rowB0_get]
 simp [initB]
theorem R0_ident {e : List Ex} {id : Int} : ∀ f, hB (R0 e) (ixF e id) f = false := fun f => by
 rw [Bool.eq_false_iff]
 intro h
 have := R0_hB h
 unfold initB at this
 simp only [Bool.or_eq_true, Bool.and_eq_true, decide_eq_true_eq] at this
 unfold ixF at this
 rcases this with ⟨_, h2⟩ | ⟨h1, _⟩
 ·rw [List.getElem?_eq_none (by omega)] at h2
  cases h2
 ·omega
theorem R0_least {e : List Ex} {n m : Nat} {ix : Int → Nat} {C : FR} (hC : FClosed n m ix e C) (ho : hB C (e.length + 1) e.length = true) : FLe (R0 e) C := fun p f h => by
 have := R0_hB h
 unfold initB at this
 simp only [Bool.or_eq_true, Bool.and_eq_true, decide_eq_true_eq] at this
 rcases this with ⟨rfl, h2⟩ | ⟨rfl, rfl⟩
 ·cases hx : e[p]? with
  | none => rw [hx] at h2; cases h2
  | some x =>
   rw [hx] at h2
   exact hC.lam p x hx (by simpa using h2)
 ·exact ho
theorem words_one (n i : Nat) {r : List Bool} (hi : i ≤ n) (h : ∀ f, r.getD f false = decide (f = i)) : wordsB n r = (List.replicate (n / 64 + 1) 0).set (i / 64) (2 ^ (i % 64)) := by
 refine List.ext_getElem? fun j => ?_
 by_cases hj : j < n / 64 + 1
 ·rw [wordsB_get _ hj]
  by_cases he : i / 64 = j
  ·subst he
   rw [List.getElem?_set_self (by rw [List.length_replicate]; exact hj)]
   congr 1
   apply Nat.eq_of_testBit_eq
   intro k
   rw [word_bit, h, Nat.testBit_two_pow]
   by_cases hk : k < 64
   ·simp only [hk, decide_true, Bool.true_and]
    exact decide_eq_decide.2 (by omega)
   ·have : ¬ i % 64 = k := by omega
    simp [hk, this]
  ·rw [List.getElem?_set_ne he, List.getElem?_replicate, if_pos hj]
   congr 1
   apply Nat.eq_of_testBit_eq
   intro k
   rw [word_bit, h, Nat.zero_testBit]
   by_cases hk : k < 64
   ·simp only [hk, decide_true, Bool.true_and]
    exact decide_eq_false (by omega)
   ·simp [hk]
 ·rw [List.getElem?_eq_none (by rw [wordsB_len]; omega), List.getElem?_eq_none (by rw [List.length_set, List.length_replicate]; omega)]
theorem row_node {e : List Ex} {i : Nat} {x : Ex} (hx : e[i]? = some x) : wordsB e.length ((R0 e).getD i []) = if x.op = 2 then (List.replicate (e.length / 64 + 1) 0).set (i / 64) (2 ^ (i % 64)) else List.replicate (e.length / 64 + 1) 0 := by
 have hi := (List.getElem?_eq_some_iff.1 hx).1
 rw [R0_get (by unfold rowsN; omega)]
 split
 ·rename_i ho
  refine words_one _ _ (by omega) fun f => ?_
  rw [rowB0_get]
  simp only [initB, hx, ho, decide_true, Bool.and_true]
  by_cases hf : i = f
  ·subst hf
   simp
   omega
  ·have h2 : ¬ f = i := fun h => hf h.symm
   have h3 : ¬ i = e.length + 1 := by omega
   simp [hf, h2, h3]
 ·rename_i ho
  refine words_zero _ fun f => ?_
  rw [rowB0_get]
  have h3 : ¬ i = e.length + 1 := by omega
  simp [initB, hx, ho, h3]
theorem row_heap (e : List Ex) : wordsB e.length ((R0 e).getD e.length []) = List.replicate (e.length / 64 + 1) 0 := by
 rw [R0_get (by unfold rowsN; omega)]
 refine words_zero _ fun f => ?_
 rw [rowB0_get]
 simp [initB]
theorem row_again (e : List Ex) : wordsB e.length ((R0 e).getD (e.length + 1) []) = (List.replicate (e.length / 64 + 1) 0).set (e.length / 64) (2 ^ (e.length % 64)) := by
 rw [R0_get (by unfold rowsN; omega)]
 refine words_one _ _ (Nat.le_refl _) fun f => ?_
 rw [rowB0_get]
 have h2 : e[e.length + 1]? = none := List.getElem?_eq_none (by omega)
 simp only [initB, h2, Bool.and_false, Bool.false_or, decide_true, Bool.true_and]
 by_cases hf : f = e.length
 ·simp [hf]
 ·simp [hf]
theorem FSOk.start {e : List Ex} {y : FY} : FSOk e y ⟨R0 e, true, []⟩ := ⟨R0_dim e, R0_lam, .nil, (fun p hp => by cases hp), (fun p hp => by cases hp), fun id _ _ f => R0_ident f⟩
def slN (n bh ba : Nat) (N : List Nat) : List (Nat × Nat) := (N.zipIdx.map fun p => (p.2, p.1)) ++ [(n, bh), (n + 1, ba)]
theorem slN_push (n bh ba b : Nat) (N : List Nat) : ((N.length, b) :: slN n bh ba N).Perm (slN n bh ba (N ++ [b])) := by
 unfold slN
 rw [List.zipIdx_append, List.map_append]
 simp only [List.zipIdx_cons, List.zipIdx_nil, List.map_cons, List.map_nil, Nat.zero_add, List.append_assoc, List.singleton_append]
 exact (List.perm_middle).symm
theorem wrap_bit (k : Nat) : IntKind.u64.wrap (1 * 2 ^ ((k : Int) % 64).toNat) = ((2 ^ (k % 64) : Nat) : Int) := by
 rw [IntKind.wrap_u64, Int.one_mul]
 have h1 : ((k : Int) % 64).toNat = k % 64 := by omega
 rw [h1]
 have h2 : 2 ^ (k % 64) < 18446744073709551616 := Nat.lt_of_lt_of_eq (m := 2 ^ 64) (Nat.pow_lt_pow_right (by decide) (Nat.mod_lt _ (by decide))) (by decide)
 have h3 : ((2 : Int) ^ (k % 64)) = ((2 ^ (k % 64) : Nat) : Int) := by simp
 rw [h3]
 generalize 2 ^ (k % 64) = b at h2
 omega
end Go.Co

/- Blocks of elements of several cells: make, load, store at a place that is reckoned; a result beside one in a cell. General. No condition. -/
namespace Go.Eng
open Go.RowKit
section
variable {α : Type} {f : α → List Value} {sz : Nat}
end
section
variable {P : Program} {n : Nm} {l : Env} {H : List Item} {S : List World} {C : World → Prop} {c : Bool} {d : Option Nat} {ty : TypeId} {pos : String} {af : Array Edge} {g : Option (Nat × Bool)}
variable {ops : Array Oper} {rest : List Oper} {Q : Exit → Act → World → Prop} {t : TypeId} {x y : Operand} {cx cy : Bool}
theorem Bin.shlW {k : IntKind} {yk : IntKind} {a b : Int} (hk : k.bits = 64) (h : 0 ≤ b ∧ b ≤ 64) : Bin P .shl t (.int k a) (.int yk b) (.int k (k.wrap (a * 2 ^ b.toNat))) := Bin.shl ⟨h.1, by rw [hk]; exact h.2⟩
end
end Go.Eng

/- The walk of flow's solve: the solver's memory is laid, and passes are made until nothing moves. Conditions: none. -/
namespace Go.Proofs.YtkpjndhgicbjjaaDoor.co
open Go.RowKit Go.Eng Go.Co
set_option maxRecDepth 100000
theorem solve_calls (es : List (Ex × ExY)) (e : List Ex) (hee : es.map Prod.fst = e) (hF : FOk e) (qe : Option Addr) (ce : Nat) (s0 : World) (he : Arr exR s0 (low s0) es qe) (hT : tzAt s0) (hTg : 0 < s0.heap.size) (hop : ∀ x ∈ e, 0 ≤ x.op) :
  Calls Tryd.prog 15 [.slice qe es.length ce].toArray s0 fun r w' => ∃ y s, r = .returned (.pointer (some ⟨y.bs, 0, none⟩)) ∧ y.qe = qe ∧ FYOk e y ∧ FSOk e y s ∧ y.B = s0.heap.size ∧ s0.heap.size ≤ y.bs ∧ s0.heap.size ≤ y.bm ∧
   FClosed e.length (rowsN e) (ixF e) e s.R ∧ hB s.R (e.length + 1) e.length = true ∧ (∀ C, FClosed e.length (rowsN e) (ixF e) e C → hB C (e.length + 1) e.length = true → FLe s.R C) ∧ Cls (flI e y s []) [s0] w' := by
 have hlen := hF.len
 have hel : e.length = es.length := by rw [← hee, List.length_map]
 refine enter Tryd.func15 rfl Tryd.ntmps15 rfl (Cls.start s0) ?_
 (simp only [argEnv, Nat.zero_add, Nat.reduceAdd])
 apply W.sr
 apply oas; rfl; rfl
 apply OL.nsr
 apply omv; rfl; rfl
 apply OL.imakeMap; rfl; rfl; (intro bk hbk; simp only [AllLe, and_true] at hbk)
 apply oop; rfl; apply Pev.build; rfl; exact CellsL.agg; rfl; exact Fill.au; rfl
 apply OL.box; rfl; rfl; exact CellsL.agg; (intro bk hbk; simp only [AllLe, and_true] at hbk)
 apply oas; rfl; rfl
 apply OL.nsr
 apply omv; rfl; rfl
 apply omv; rfl; rfl
 apply omv; rfl; rfl
 rename_i bm hbm
 revert hbk
 revert bk
 intro bs hbs
 have hn : es.length ≤ 4096 := by omega
 refine OL.callE (α := Nat) (fun b => .slice (some ⟨b, 0, none⟩) (es.length / 64 + 1) (es.length / 64 + 1)) (fun b => AllLe [s0] b) (fun b => Cls (blk b 67 (u64s (List.replicate (es.length / 64 + 1) 0)) :: blk bs 56 [.slice qe es.length ce, .slice none 0 0, .map (some bm), .slice none 0 0, .slice none 0 0, .bool true] :: mapI bm [] :: []) [s0]) rfl rfl (by exact Args.au) (fun w2 hw2 => (empty_calls bs es.length qe ce _ _ _ _ true hn _ [s0] w2 hw2).mono (fun e1 w3 ⟨b, h3, h4, h5⟩ => ⟨b, h3, h4, h5⟩)) ?_
 intro bh hbh
 apply omv; rfl; rfl
 refine OL.callE (α := Nat) (fun b => .slice (some ⟨b, 0, none⟩) (es.length / 64 + 1) (es.length / 64 + 1)) (fun b => AllLe [s0] b) (fun b => Cls (blk b 67 (u64s (List.replicate (es.length / 64 + 1) 0)) :: blk bs 56 [.slice qe es.length ce, .slice none 0 0, .map (some bm), .slice none 0 0, .slice none 0 0, .bool true] :: blk bh 67 (u64s (List.replicate (es.length / 64 + 1) 0)) :: mapI bm [] :: []) [s0]) rfl rfl (by exact Args.au) (fun w2 hw2 => (empty_calls bs es.length qe ce _ _ _ _ true hn _ [s0] w2 hw2.flip).mono (fun e1 w3 ⟨b, h3, h4, h5⟩ => ⟨b, h3, h4, h5⟩)) ?_
 intro ba hba
 apply oop; rfl; apply Pev.nil_ptr; rfl; exact yes
 apply ofa; rfl; rfl; rfl
 apply OL.storeB; rfl; rfl; exact CellsL.one rfl; rfl; rfl; rfl; exact Swap.au; exact Put.au
 apply oop; rfl; apply Pev.nil_ptr; rfl; exact yes
 apply ofa; rfl; rfl; rfl
 apply OL.storeB; rfl; rfl; exact CellsL.one rfl; rfl; rfl; rfl; exact Swap.au; exact Put.au
 apply OL.nx
 apply W.seq
 apply W.regq; apply Split.s rfl; apply Split.s rfl; apply Split.s rfl; apply Split.s rfl; apply Split.s rfl; apply Split.s rfl; apply Split.s rfl; apply Split.s rfl; apply Split.s rfl; apply Split.s rfl; apply Split.s rfl; apply Split.s rfl; exact Split.z rfl; kernel_rfl; decide +kernel; exact fun w hw => hw.drew
 apply qmv; rfl; rfl
 apply qop; rfl; apply Pev.nil_ptr; rfl; exact yes
 apply qfa; rfl; rfl; rfl
 apply qld; rfl; rfl; exact .tail _ (.head _); rfl; rfl
 apply qmv; rfl; rfl
 apply qop; rfl; apply Pev.len_slice; rfl; exact yes; rfl
 apply qbn; rfl; rfl; rfl; apply Bin.quo_in; omega
 apply qmv; rfl; rfl
 apply qop; rfl; apply Pev.len_slice; rfl; exact yes; rfl
 apply qbn; rfl; rfl; rfl; apply Bin.rem_in; omega
 apply qbn; rfl; rfl; rfl; apply Bin.shlW; rfl; omega
 apply qop; rfl; apply Pev.idxB; rfl; exact yes; rfl; exact yes; rfl; intro hcond; omega; rfl
 with_reducible apply QL.tail
 rw [wrap_bit]
 (apply OL.storeI); rfl; rfl; rfl; rfl; rfl; (exact Swap.au); (rw [u64s_len, List.length_replicate]; omega)
 rw [show 0 + ((es.length : Int) / 64).toNat * 1 = es.length / 64 by omega, u64s_set]
 obtain ⟨n, hnn⟩ : ∃ n, es.length = n := ⟨_, rfl⟩
 have hen : e.length = n := by omega
 apply OL.nx
 apply W.seq
 apply W.sr
 apply omv; rfl; rfl
 apply oop; rfl; apply Pev.len_slice; rfl; exact yes; rfl
 apply omv; rfl; rfl
 apply OL.nx
 apply W.block
 have hRn : FDim n (rowsN e) (R0 e) := by rw [← hen]; exact R0_dim e
 refine W.cls (C' := Cls (blk bs 56 [.slice qe es.length ce, .slice none 0 0, .map (some bm), slW n bh, slW n ba, .bool true] :: mapI bm [] :: bag s0.heap.size (setsI 67 n (R0 e) (slN n bh ba [])) :: row s0.heap.size (fun _ => False) none 0 0 52 1 [] :: []) [s0]) (fun w' hw' => ?_) ?_
 ·rw [hnn] at hw' ⊢
  have e1 := row_again e
  have e2 := row_heap e
  rw [hen] at e1 e2
  have h1 : Cls [blk ba 67 (u64s ((List.replicate (n / 64 + 1) 0).set (n / 64) (2 ^ (n % 64)))), blk bh 67 (u64s (List.replicate (n / 64 + 1) 0)), blk bs 56 [.slice qe n ce, .slice none 0 0, .map (some bm), slW n bh, slW n ba, .bool true], mapI bm [], row s0.heap.size (fun _ => False) none 0 0 52 1 []] [s0] w' :=
   (hw'.row_nil s0.heap.size 52 1).perm ((List.perm_append_comm (l₁ := [_]) (l₂ := [_, _, _, _])).trans (List.Perm.cons _ (List.Perm.swap _ _ _)))
  have h2 := (h1.bag_nil s0.heap.size).flip.bag_in (fun k hk => by rw [show k = ba from hk]; exact hba.mem s0 (.head _))
  have h3 := h2.flip.bag_in (fun k hk => by rw [show k = bh from hk]; exact hbh.mem s0 (.head _))
  have e3 : setsI 67 n (R0 e) (slN n bh ba []) = [blk bh 67 (u64s (List.replicate (n / 64 + 1) 0)), blk ba 67 (u64s ((List.replicate (n / 64 + 1) 0).set (n / 64) (2 ^ (n % 64))))] := by
   simp only [slN, setsI, setI, List.zipIdx_nil, List.map_nil, List.nil_append, List.map_cons, e1, e2]
  rw [e3]
  exact h3.perm ((List.perm_append_comm (l₁ := [_]) (l₂ := [_, _])).append_right [_])
 rw [hnn]
 refine W.loop (G := List Nat × (Nat → Prop) × Option Addr × Nat) (fun g => g.1.length ≤ n ∧ ∀ b ∈ g.1, s0.heap.size ≤ b) (fun g => n - g.1.length)
  (fun g => [(0, true, .slice qe n ce), (3, true, .pointer (some ⟨bs, 0, none⟩)), (35, true, .slice qe n ce), (36, true, .int .i64 (n : Int)), (37, true, .int .i64 (g.1.length : Int))])
  (fun g => Cls (blk bs 56 [.slice qe n ce, .slice g.2.2.1 g.1.length g.2.2.2, .map (some bm), slW n bh, slW n ba, .bool true] :: mapI bm [] :: bag s0.heap.size (setsI 67 n (R0 e) (slN n bh ba g.1)) :: row s0.heap.size g.2.1 g.2.2.1 g.1.length g.2.2.2 52 1 (g.1.map (slW n)) :: []) [s0]) ([], fun _ => False, none, 0) ⟨Nat.zero_le _, fun b hb => by cases hb⟩ (by exact Sub.au) (fun w' hw' => hw') ?_
 rintro ⟨N, O, q, cap⟩ ⟨hNn, hNB⟩
 simp only at hNn hNB ⊢
 apply W.sr
 apply obn; rfl; rfl; rfl; apply Bin.lss
 apply OL.nx
 apply W.seq
 (refine W.cnd (fun hlt => ?_) (fun hlt => ?_)) <;> (try (exfalso; first | omega | exact hlt trivial | contradiction))
 ·have hil : N.length < es.length := by omega
  obtain ⟨a, p, hqa, hab, hp, hcell, hok⟩ := he.get hil
  have hab : a.block < s0.heap.size := hab
  have hcell : CellsAt s0 (a.add (N.length * 5)) [.int .i64 p.1.op, .int .i64 p.1.n, .slice p.2.b.1 p.1.binds.length p.2.b.2, .slice p.2.k.1 p.1.kids.length p.2.k.2, .slice p.2.a.1 p.1.alts.length p.2.a.2] := hcell
  have hx : e[N.length]? = some p.1 := by rw [← hee, List.getElem?_map, hp]; rfl
  rw [hqa]
  apply W.sk
  apply W.sb
  apply W.sr
  apply omv; rfl; rfl
  apply oop; rfl; apply Pev.idx; rfl; exact yes; rfl; exact yes; rfl; rfl; intro hcond; omega
  apply oop; rfl; apply Pev.load_keptA; rfl; exact yes; exact .head _; rfl; intro hcond; assumption; rfl; intro hcond; (rw [add_block]; assumption); intro hcond; (focus ((try simp only [add_block]); (repeat (first | exact NotOwned.nil | exact hno _ (by omega) | exact hnr _ (by omega) | refine NotOwned.any (hXn _ (by omega)) ?_ | refine NotOwned.blk (by omega) ?_ | refine NotOwned.row (by omega) ?_ | refine NotOwned.rws (by omega) ?_ | refine NotOwned.pile (by omega) ?_ | refine NotOwned.pool (by omega) ?_ | refine NotOwned.bag (by omega) ?_ | refine NotOwned.mapI (by omega) ?_ | apply NotOwned.bif | refine NotOwned.nothing ?_)); done))
  apply OL.alloc; rfl; rfl; exact CellsL.agg; (intro bk hbk; simp only [AllLe, and_true] at hbk)
  apply oas; rfl; rfl
  apply OL.storeB; rfl; rfl; exact CellsL.agg; rfl; rfl; rfl; exact Swap.au; exact Put.au
  apply OL.nsr
  apply omv; rfl; rfl
  revert hbk
  revert bk
  intro bx hbx
  refine OL.callE (α := Nat) (fun b => slW n b) (fun b => AllLe [s0] b) (fun b => Cls (blk b 67 (u64s (List.replicate (n / 64 + 1) 0)) :: blk bs 56 [.slice (some a) n ce, .slice q N.length cap, .map (some bm), slW n bh, slW n ba, .bool true] :: blk bx 43 [.int .i64 p.1.op, .int .i64 p.1.n, .slice p.2.b.1 p.1.binds.length p.2.b.2, .slice p.2.k.1 p.1.kids.length p.2.k.2, .slice p.2.a.1 p.1.alts.length p.2.a.2] :: mapI bm [] :: bag s0.heap.size (setsI 67 n (R0 e) (slN n bh ba N)) :: row s0.heap.size O q N.length cap 52 1 (N.map (slW n)) :: []) [s0]) rfl rfl (by exact Args.au) (fun w2 hw2 => (empty_calls bs n (some a) ce _ _ _ _ true (by omega) _ [s0] w2 hw2.flip).mono (fun e1 w3 ⟨b, h3, h4, h5⟩ => ⟨b, h3, h4, h5⟩)) ?_
  intro b hb
  have hb0 := hb.mem s0 (.head _)
  apply oas; rfl; rfl
  apply OL.nx
  apply W.seq
  apply W.sr
  apply ofa; rfl; rfl; rfl
  apply old; rfl; rfl; exact .tail _ (.tail _ (.head _)); rfl; rfl
  apply obn; rfl; rfl; rfl; apply Bin.eql
  apply OL.nx
  refine W.joinx (G := Unit) (fun _ => True) (fun _ => [(0, true, .slice (some a) n ce), (3, true, .pointer (some ⟨bs, 0, none⟩)), (6, true, slW n b), (35, true, .slice (some a) n ce), (36, true, .int .i64 (n : Int)), (37, true, .int .i64 (N.length : Int))])
   (fun _ => Cls (blk b 67 (u64s (wordsB n ((R0 e).getD N.length []))) :: blk bs 56 [.slice (some a) n ce, .slice q N.length cap, .map (some bm), slW n bh, slW n ba, .bool true] :: blk bx 43 [.int .i64 p.1.op, .int .i64 p.1.n, .slice p.2.b.1 p.1.binds.length p.2.b.2, .slice p.2.k.1 p.1.kids.length p.2.k.2, .slice p.2.a.1 p.1.alts.length p.2.a.2] :: mapI bm [] :: bag s0.heap.size (setsI 67 n (R0 e) (slN n bh ba N)) :: row s0.heap.size O q N.length cap 52 1 (N.map (slW n)) :: []) [s0]) ?_ ?_
  ·have hrn := row_node hx
   rw [hen] at hrn
   (refine W.cnd (fun ho => ?_) (fun ho => ?_)) <;> (try (exfalso; first | omega | exact ho trivial | contradiction))
   ·rw [if_pos ho] at hrn
    apply W.reg
    apply omv; rfl; rfl
    apply omv; rfl; rfl
    apply obn; rfl; rfl; rfl; apply Bin.quo_in; omega
    apply omv; rfl; rfl
    apply obn; rfl; rfl; rfl; apply Bin.rem_in; omega
    apply obn; rfl; rfl; rfl; apply Bin.shlW; rfl; omega
    apply oop; rfl; apply Pev.idxB; rfl; exact yes; rfl; exact yes; rfl; intro hcond; omega; rfl
    rw [wrap_bit]
    (apply OL.storeI); rfl; rfl; rfl; rfl; rfl; (exact Swap.au); (rw [u64s_len, List.length_replicate]; omega)
    rw [show 0 + ((N.length : Int) / 64).toNat * 1 = N.length / 64 by omega, u64s_set, ← hrn]
    apply OL.nil
    exact At.joinedx () trivial (by exact Sub.au) (fun w' hw' => hw')
   ·rw [if_neg ho] at hrn
    rw [← hrn]
    apply W.skip
    exact At.joinedx () trivial (by exact Sub.au) (fun w' hw' => hw')
  ·rintro ⟨⟩ _
   apply W.reg
   apply omv; rfl; rfl
   apply omv; rfl; rfl
   apply oop; rfl; apply Pev.nil_ptr; rfl; exact yes
   apply ofa; rfl; rfl; rfl
   apply old; rfl; rfl; exact .tail _ (.head _); rfl; rfl
   apply omv; rfl; rfl
   apply OL.buildSlice; rfl; rfl; rfl; exact Elems.au; rfl; rfl; (intro bk hbk; simp only [AllLe, and_true] at hbk)
   apply OL.append; rfl; rfl; rfl; rfl; exact Hole.au; exact .head _; exact Take.au; rfl; rfl; exact ⟨_, .head _, Nat.le_refl _⟩; omega; intro O1 g1 cap1
   apply oop; rfl; apply Pev.nil_ptr; rfl; exact yes
   apply ofa; rfl; rfl; rfl
   apply OL.storeB; rfl; rfl; exact CellsL.one rfl; rfl; rfl; rfl; exact Swap.au; exact Put.au
   apply OL.nil
   with_reducible apply At.in_normal
   with_reducible apply At.next
   apply W.reg
   apply obn; rfl; rfl; rfl; apply Bin.add_in; omega
   apply omv; rfl; rfl
   apply OL.nil
   refine At.again (N ++ [b], O1, some ⟨g1, 0, none⟩, cap1) ⟨by rw [List.length_append, List.length_singleton]; omega, fun c hc => ?_⟩ (by simp only [List.length_append, List.length_singleton]; omega) ?_ (fun w' hw' => ?_)
   ·rcases List.mem_append.1 hc with hc | hc
    ·exact hNB c hc
    ·rw [List.mem_singleton.1 hc]; exact hb0
   ·simp only [List.length_append, List.length_singleton]
    exact Sub.au
   ·have h1 : Cls (blk b 67 (u64s (wordsB n ((R0 e).getD N.length []))) :: blk bs 56 [.slice (some a) n ce, .slice (some ⟨g1, 0, none⟩) (N.length + 1) cap1, .map (some bm), slW n bh, slW n ba, .bool true] :: mapI bm [] :: bag s0.heap.size (setsI 67 n (R0 e) (slN n bh ba N)) :: row s0.heap.size O1 (some ⟨g1, 0, none⟩) (N.length + 1) cap1 52 1 (N.map (slW n) ++ [slW n b]) :: []) [s0] w' :=
     hw'.thin (.any (fun k hk => by rw [show k = bk from hk]; exact ⟨hbk, trivial⟩) (.keep (.keep (.any (fun k hk => by rw [show k = bx from hk]; exact ⟨hbx, trivial⟩) Thin.same))))
    have h2 : Cls (blk b 67 (u64s (wordsB n ((R0 e).getD N.length []))) :: bag s0.heap.size (setsI 67 n (R0 e) (slN n bh ba N)) :: blk bs 56 [.slice (some a) n ce, .slice (some ⟨g1, 0, none⟩) (N.length + 1) cap1, .map (some bm), slW n bh, slW n ba, .bool true] :: mapI bm [] :: row s0.heap.size O1 (some ⟨g1, 0, none⟩) (N.length + 1) cap1 52 1 (N.map (slW n) ++ [slW n b]) :: []) [s0] w' :=
     h1.perm (List.Perm.cons _ ((List.perm_append_comm (l₁ := [_, _]) (l₂ := [_])).append_right [_]))
    have h3 := h2.bag_in (fun k hk => by rw [show k = b from hk]; exact hb0)
    have h4 := h3.bag_perm (L' := setsI 67 n (R0 e) (slN n bh ba (N ++ [b]))) ((slN_push n bh ba b N).map (setI 67 n (R0 e)))
    simp only [List.length_append, List.length_singleton, List.map_append, List.map_cons, List.map_nil]
    exact h4.perm ((List.perm_append_comm (l₁ := [_]) (l₂ := [_, _])).append_right [_])
 ·obtain rfl : N.length = n := by omega
  refine W.xt ?_
  with_reducible apply At.next
  apply W.sb
  refine W.fact (φ := ∃ g0, q = some ⟨g0, 0, none⟩) (fun w' hw' => row_some (hw'.item (i := row s0.heap.size O q N.length cap 52 1 (N.map (slW N.length))) (by exact mau)) (by have := hF.pos; omega)) ?_
  rintro ⟨gn, rfl⟩
  obtain ⟨y, hy⟩ : ∃ y : FY, y = ⟨bs, bm, s0.heap.size, O, gn, cap, qe, ce, N, bh, ba⟩ := ⟨_, rfl⟩
  have hP0 : y.P0 = slN N.length bh ba N := by rw [hy]; rfl
  have hyO : FYOk e y := ⟨hF, by rw [hy]; exact hen.symm, fun p hp => by
   rw [hP0] at hp
   rw [hy]
   rcases List.mem_append.1 hp with hp | hp
   ·obtain ⟨u, hu, rfl⟩ := List.mem_map.1 hp
    exact hNB u.1 (List.mem_zipIdx_iff_getElem?.1 hu |> List.mem_of_getElem?)
   ·simp only [List.mem_cons, List.not_mem_nil, or_false] at hp
    rcases hp with rfl | rfl
    ·exact hbh.mem s0 (.head _)
    ·exact hba.mem s0 (.head _)⟩
  have hyq : y.qe = qe := by rw [hy]
  have hyN : y.N = N := by rw [hy]
  have hyB : y.B = s0.heap.size := by rw [hy]
  have hyc : y.ce = ce := by rw [hy]
  have hyb : y.bs = bs := by rw [hy]
  have hybm : y.bm = bm := by rw [hy]
  refine W.cls (C' := Cls (flI e y ⟨R0 e, true, []⟩ []) [s0]) (fun w' hw' => ?_) ?_
  ·have e1 : FS.P e y ⟨R0 e, true, []⟩ = slN N.length bh ba N := by
    unfold FS.P
    rw [hP0]
    simp [idP]
   unfold flI
   rw [e1, hy]
   exact hw'
  have hA : ∀ (s : FS), FSOk e y s → FLe (R0 e) s.R → hB s.R (e.length + 1) e.length = true := fun s _ h => h _ _ (R0_again e)
  refine W.loop (G := FS) (fun s => FSOk e y s ∧ FLe (R0 e) s.R ∧ (∀ C, FClosed e.length (rowsN e) (ixF e) e C → hB C (e.length + 1) e.length = true → FLe s.R C) ∧ (s.mv = false → FClosed e.length (rowsN e) (ixF e) e s.R)) (fun s => 2 * offs s.R + (if s.mv then 1 else 0))
   (fun s => [(0, true, .slice y.qe y.N.length y.ce), (3, true, .pointer (some ⟨y.bs, 0, none⟩))])
   (fun s => Cls (flI e y s []) [s0]) ⟨R0 e, true, []⟩ ⟨FSOk.start, .refl _, fun C hC ho => R0_least hC ho, fun h => by cases h⟩ (by rw [hy]; exact Sub.au) (fun w' hw' => hw') ?_
  rintro s ⟨hs, hlo, hle, hcl⟩
  unfold flI FY.c
  have heq : Arr exR s0 (low s0) es y.qe := by rw [hyq]; exact he
  have hbs0 : s0.heap.size ≤ y.bs := by rw [hyb]; exact hbs
  have hbm0 : s0.heap.size ≤ y.bm := by rw [hybm]; exact hbm
  have hNl : y.N.length = es.length := by rw [hyN]; exact hnn.symm
  apply W.seq
  apply W.sr
  apply omv; rfl; rfl
  apply oop; rfl; apply Pev.nil_ptr; rfl; exact yes
  apply ofa; rfl; rfl; rfl
  apply old; rfl; rfl; exact .head _; rfl; rfl
  apply OL.nx
  refine W.cond rfl (fun hmv => ?_) (fun hmv => ?_)
  ·apply W.sk
   apply W.block
   apply W.sr
   apply omv; rfl; rfl
   apply oop; rfl; apply Pev.nil_ptr; rfl; exact yes
   apply ofa; rfl; rfl; rfl
   apply OL.storeB; rfl; rfl; exact CellsL.one rfl; rfl; rfl; rfl; exact Swap.au; exact Put.au
   apply OL.nsr
   apply omv; rfl; rfl
   apply oop; rfl; apply Pev.len_slice; rfl; exact yes; rfl
   apply omv; rfl; rfl
   apply OL.nx
   apply W.block
   refine W.cls (C' := Cls (flI e y ⟨s.R, false, s.M⟩ []) [s0]) (fun w' hw' => hw') ?_
   have hs1 : FSOk e y ⟨s.R, false, s.M⟩ := ⟨hs.dim, hs.lam, hs.nd, hs.ids, hs.B, hs.zero⟩
   refine W.loop (G := Nat × FS) (fun g => g.1 ≤ y.N.length ∧ PStep e y ⟨s.R, false, s.M⟩ (List.range g.1) g.2) (fun g => y.N.length - g.1)
    (fun g => [(0, true, .slice y.qe y.N.length y.ce), (3, true, .pointer (some ⟨y.bs, 0, none⟩)), (72, true, .slice y.qe y.N.length y.ce), (73, true, .int .i64 (y.N.length : Int)), (74, true, .int .i64 (g.1 : Int))])
    (fun g => Cls (flI e y g.2 []) [s0]) (0, ⟨s.R, false, s.M⟩) ⟨Nat.zero_le _, PStep.nil hs1⟩ (by exact Sub.au) (fun w' hw' => hw') ?_
   rintro ⟨i, s1⟩ ⟨hi, hst⟩
   simp only at hi hst ⊢
   apply W.sr
   apply obn; rfl; rfl; rfl; apply Bin.lss
   apply OL.nx
   apply W.seq
   (refine W.cnd (fun hlt2 => ?_) (fun hlt2 => ?_)) <;> (try (exfalso; first | omega | exact hlt2 trivial | contradiction))
   ·obtain ⟨a, p, hqa, hab, hp, hcell, hok⟩ := heq.get (show i < es.length by omega)
    have hab : a.block < s0.heap.size := hab
    have hcell : CellsAt s0 (a.add (i * 5)) [.int .i64 p.1.op, .int .i64 p.1.n, .slice p.2.b.1 p.1.binds.length p.2.b.2, .slice p.2.k.1 p.1.kids.length p.2.k.2, .slice p.2.a.1 p.1.alts.length p.2.a.2] := hcell
    have hx : e[i]? = some p.1 := by rw [← hee, List.getElem?_map, hp]; rfl
    have hno : ∀ k, k < s0.heap.size → NotOwned (flI e y s1 []) k := fun k hk => flI_no (by omega) hbs0 hbm0 (fun k hk => .nil) k hk
    rw [hqa]
    apply W.sk
    apply W.sb
    apply W.sr
    apply omv; rfl; rfl
    apply oop; rfl; apply Pev.idx; rfl; exact yes; rfl; exact yes; rfl; rfl; intro hcond; omega
    apply oop; rfl; apply Pev.load_keptA; rfl; exact yes; exact .head _; rfl; intro hcond; assumption; rfl; intro hcond; (rw [add_block]; assumption); intro hcond; exact NotOwned.au
    apply OL.alloc; rfl; rfl; exact CellsL.agg; (intro bk hbk; simp only [AllLe, and_true] at hbk)
    apply oas; rfl; rfl
    apply OL.storeB; rfl; rfl; exact CellsL.agg; rfl; rfl; rfl; exact Swap.au; exact Put.au
    apply OL.nx
    apply W.reg
    apply omv; rfl; rfl
    apply omv; rfl; rfl
    apply oop; rfl; apply Pev.load_blkA; rfl; exact yes; exact .head _; rfl; exact Take.au
    refine OL.callE (α := FS) (vs := [.pointer (some ⟨y.bs, 0, none⟩), .int .i64 (i : Int), .agg (exC p.1 p.2).toArray]) (fun _ => .tuple #[]) (fun s2 => FStep e y s1 (if p.1.op = 2 then [] else edges e.length (ixF e) e s1.R i p.1) s2) (fun s2 => Cls (blk bk 43 [.int .i64 p.1.op, .int .i64 p.1.n, .slice p.2.b.1 p.1.binds.length p.2.b.2, .slice p.2.k.1 p.1.kids.length p.2.k.2, .slice p.2.a.1 p.1.alts.length p.2.a.2] :: flI e y s2 []) [s0]) rfl rfl (by exact Args.au) (fun w2 hw2 => (node_calls s0 es e hee y hyO heq hT hTg hyB hbs0 hbm0 i p.1 p.2 hp hx (hop _ (List.mem_of_getElem? hx)) hok s1 hst.ok _ (fun k hk => NotOwned.blk (by omega) .nil) [s0] (.head _) (fun s hs => by rw [List.mem_singleton.1 hs]; exact Nat.le_refl _) w2 (flX.1 hw2)).mono (fun e1 w3 ⟨s', h1, h2, h3⟩ => ⟨s', h1, h2, flX.2 h3⟩)) ?_
    intro s2 hs2
    apply OL.nil
    with_reducible apply At.in_normal
    with_reducible apply At.next
    apply W.reg
    apply obn; rfl; rfl; rfl; apply Bin.add_in; omega
    apply omv; rfl; rfl
    apply OL.nil
    refine At.again (i + 1, s2) ⟨by omega, by rw [List.range_succ]; exact PStep.snoc hs1 hst hx hs2⟩ (by simp only; omega) (by exact Sub.au) (fun w' hw' => hw'.thin (.any (fun k hk => by rw [show k = bk from hk]; exact ⟨hbk, trivial⟩) .same))
   ·obtain rfl : i = y.N.length := by omega
    refine W.xt ?_
    with_reducible apply At.in_normal
    have hne : y.N.length = e.length := hyO.len
    have hR := hst.R
    have hmv1 := hst.mv
    simp only [Bool.false_or] at hmv1
    have l1 : FLe s.R s1.R := by rw [hR]; exact FLe.pass _ _ _ _ _ _
    have hrng := FOk.rng hF hst.ok.lam
    have hoff := offs_lt hs.dim hst.ok.dim l1
    refine At.again s1 ⟨hst.ok, hlo.trans l1, fun C hC ho => by rw [hR]; exact (hle C hC ho).pass_ hC _ _, fun hm => ?_⟩ ?_ (by exact Sub.au) (fun w' hw' => hw')
    ·rw [hm] at hmv1
     have he1 : s1.R = s.R := by simpa using hmv1.symm
     refine closed_of (r := false) (l := List.range y.N.length) hst.ok.dim hrng (fun i hi => List.mem_range.2 (by omega)) (by unfold rowsN; omega) (by omega) ?_ (.inr fun i x hx ho => l1 _ _ (hlo _ _ (R0_on hx ho)))
     rw [he1, ← hR, he1]
    ·rw [hmv]
     cases hm : s1.mv with
     | false =>
      have := hoff.1
      simp
      omega
     | true =>
      rw [hm] at hmv1
      have he1 : ¬ s1.R = s.R := by simpa using hmv1.symm
      have := hoff.2 (fun h => he1 h.symm)
      simp
      omega
  ·have hcl := hcl hmv
   refine W.xt ?_
   with_reducible apply At.next
   apply W.sr
   apply omv; rfl; rfl
   apply oas; rfl; rfl
   apply OL.nx
   apply W.ret
   ((with_reducible apply At.fin1); rfl; rfl; intro w' hw')
   exact ⟨y, s, rfl, hyq, hyO, hs, hyB, hbs0, hbm0, hcl, hlo _ _ (R0_again e), hle, hw'⟩
end Go.Proofs.YtkpjndhgicbjjaaDoor.co

/- A range over a function: the call of yield, a round, the statement, and the end of a function that holds one. General. No condition. -/
namespace Go.Eng
open Go.RowKit
def setL (rc : Loop) (s : LoopState) (p : Option Code) : Loop := { rc with state := s, pending := p }
def lpI (lp : Nat) (rc : Loop) : Item := ⟨fun k => k = lp, fun w => w.heap[lp]? = some (.loop rc), fun w w' hk h => (hk lp rfl).trans h⟩
def mkI (D : Nat) : Item := ⟨fun k => k = D, fun w => w.heap[D]? = some (.deferred (some [])), fun w w' hk h => (hk D rfl).trans h⟩
def mks (B : Nat) (Ds : List Nat) : Item := ⟨fun k => k ∈ Ds, fun w => Ds.Nodup ∧ ∀ D ∈ Ds, B ≤ D ∧ w.heap[D]? = some (.deferred (some [])), fun w w' hk h => ⟨h.1, fun D hD => ⟨(h.2 D hD).1, (hk D hD).trans (h.2 D hD).2⟩⟩⟩
def mksN (B : Nat) (Ds : List Nat) : Item := ⟨fun k => k ∈ Ds, fun w => ∀ D ∈ Ds, B ≤ D, fun w w' hk h => h⟩
abbrev yv (lp : Nat) : Value := .func (.yield lp) #[] #[]
def mksE (B : Nat) (Es Ds : List Nat) : Item := ⟨fun k => k ∈ Es ++ Ds, fun w => (Es ++ Ds).Nodup ∧ (∀ E ∈ Es ++ Ds, B ≤ E) ∧ ∀ E ∈ Ds, w.heap[E]? = some (.deferred (some [])), fun w w' hk h => ⟨h.1, h.2.1, fun E hE => (hk E (List.mem_append_right _ hE)).trans (h.2.2 E hE)⟩⟩
def dMark (D : Nat) : Deferred := { target := .collected D, args := #[] }
section
variable {P : Program} {n : Nm} {l : Env} {H : List Item} {S : List World} {C : World → Prop} {ops : Array Oper} {rest : List Oper} {Q : Exit → Act → World → Prop} {ty : TypeId} {pos : String} {af : Array Edge} {x : Operand}
theorem NotOwned.mks {B k : Nat} {Ds : List Nat} (h : k ∉ Ds) (r : NotOwned H k) : NotOwned (Eng.mks B Ds :: H) k := NotOwned.any h r
theorem Hole.other {p : Nat} {i : Item} {F : Item → List Item} (h : Hole p H i F) (j : Item) : Hole p (F j) j F := by
 induction h with
 | z => exact .z
 | s _ ih => exact .s ih
theorem Cls.mks_nil {w : World} (h : Cls H S w) (B : Nat) : Cls (mks B [] :: H) S w :=
 h.add (Keep.refl _ w) _ ⟨.nil, fun D hD => by cases hD⟩ (fun k hk => by cases hk)
theorem Cls.mks_in {w : World} {B D : Nat} {Ds : List Nat} (h : Cls (mkI D :: mks B Ds :: H) S w) (hB : B ≤ D) : Cls (mks B (D :: Ds) :: H) S w := by
 have hd := h.dj
 rw [List.pairwise_cons, List.pairwise_cons] at hd
 obtain ⟨h1, h2, h3⟩ := hd
 have a1 := h.holds (mkI D) (.head _)
 have a2 := h.holds (mks B Ds) (.tail _ (.head _))
 refine ⟨fun j hj => ?_, fun j hj => ?_, List.pairwise_cons.2 ⟨fun j hj k hk hjk => ?_, h3⟩, fun s hs => (h.kp s hs).mono fun k _ ⟨j, hj, hk⟩ => ?_⟩
 ·rcases List.mem_cons.1 hj with rfl | hj
  ·refine ⟨List.nodup_cons.2 ⟨fun hm => h1 _ (.head _) D rfl hm, a2.1⟩, fun E hE => ?_⟩
   rcases List.mem_cons.1 hE with rfl | hE
   ·exact ⟨hB, a1⟩
   ·exact a2.2 E hE
  ·exact h.holds j (.tail _ (.tail _ hj))
 ·rcases List.mem_cons.1 hj with rfl | hj
  ·intro k hk
   rcases List.mem_cons.1 hk with rfl | hk
   ·exact h.lt _ (.head _) _ rfl
   ·exact h.lt _ (.tail _ (.head _)) k hk
  ·exact h.lt j (.tail _ (.tail _ hj))
 ·rcases List.mem_cons.1 hk with rfl | hk
  ·exact h1 j (.tail _ hj) _ rfl hjk
  ·exact h2 j hj k hk hjk
 ·rcases List.mem_cons.1 hj with rfl | hj
  ·exact ⟨_, .head _, by rw [show k = D from hk]; exact .head _⟩
  ·rcases List.mem_cons.1 hj with rfl | hj
   ·exact ⟨_, .head _, .tail _ hk⟩
   ·exact ⟨j, .tail _ hj, hk⟩
theorem Cls.putO {F : Item → List Item} {w : World} {p k : Nat} {i j : Item} {o : Obj} (h : Cls H S w) (hH : Hole p H i F) (hi : i.own k) (hk : k < w.heap.size) (hj : j.holds (w.putObj k o)) (ho : ∀ q, j.own q → i.own q) (ho2 : ∀ q, i.own q → j.own q) : Cls (F j) S (w.putObj k o) := by
 obtain ⟨hp, hF⟩ := hH.eq
 rw [hF]
 have hsz : (w.putObj k o).heap.size = w.heap.size := by simp [World.putObj]
 refine h.turn p hp (j := j) ⟨rfl, rfl, rfl, by rw [hsz]; exact Nat.le_refl _, fun q hq hn => World.putObj_heap_other (fun e => hn (by rw [e]; exact hi))⟩ hj (fun q hq => ⟨.inl (ho q hq), by rw [hsz]; exact h.lt _ (List.mem_of_getElem? hp) q (ho q hq)⟩) ho2
/-! ### The call of yield -/
def YQ (P : Program) (ops : Array Oper) (Q : Exit → Act → World → Prop) (o : Oper) (post : List Oper) : Exit → Act → World → Prop := fun e a w => match e with
 | .normal => ∃ lp args, o.guard = none ∧ (∀ c, o.op ≠ .defer c) ∧ (execOp a.eval o).run P w = (Instr.yield lp args).run P w ∧ YieldAt Fence.wide 0 P lp args w fun e' w' => ∃ v, e' = .returned v ∧ wpList P ops Q post (a.put o.dst v) w'
 | e => Q e a w
theorem yieldAt_mono {F : Fence} {m lp : Nat} {args : Array Value} {w : World} {R R' : Ending → World → Prop} (h : YieldAt F m P lp args w R) (hr : ∀ e w, R e w → R' e w) : YieldAt F m P lp args w R' := by
 obtain ⟨fn, tmps, assign, body, hy, hR⟩ := h
 exact ⟨fn, tmps, assign, body, hy, hR.mono hr⟩
inductive CutN : Nat → List Oper → List Oper → Oper → List Oper → Prop where
 | z {o : Oper} {r : List Oper} : CutN 0 (o :: r) [] o r
 | s {k : Nat} {x o : Oper} {r pre post : List Oper} (h : CutN k r pre o post) : CutN (k + 1) (x :: r) (x :: pre) o post
theorem CutN.eq {k : Nat} {l0 pre post : List Oper} {o : Oper} (h : CutN k l0 pre o post) : l0 = pre ++ o :: post := by
 induction h with
 | z => rfl
 | s _ ih => rw [ih]; rfl
theorem W.regY {id : Nat} (k : Nat) {l0 pre post : List Oper} {o : Oper} (hc : CutN k l0 pre o post) (h : OL P n l0.toArray (YQ P l0.toArray Q o post) pre l C) : W P n (.region id l0.toArray false) Q l C := ⟨fun a w hs hC hp b k cs hro _ _ => by
 have hl := hc.eq
 have h1 := h.run a w hs hC
 have hsz : l0.toArray.size = pre.length + (post.length + 1) := by rw [List.size_toArray, hl, List.length_append, List.length_cons]
 have hrange : List.range l0.toArray.size = List.range' 0 pre.length ++ pre.length :: List.range' (pre.length + 1) post.length := by
  rw [List.range_eq_range', hsz, ← List.range'_append_1, Nat.zero_add, List.range'_succ]
 have hops : ∀ j, l0.toArray[j]? = (pre ++ o :: post)[j]? := fun j => by rw [List.getElem?_toArray, hl]
 have hwl := wpOps_of_list (P := P) (ops := l0.toArray) (Q := YQ P l0.toArray Q o post) pre 0 (fun j hj => by rw [hops, Nat.zero_add, List.getElem?_append_left hj]) a w h1
 have key := wpp_ops2 (r := n.r) (P := P) (Q := Q) (ops := l0.toArray) (Y := YQ P l0.toArray Q o post) (pre.length :: List.range' (pre.length + 1) post.length) ?_ (fun e a w hne hy => by cases e <;> first | exact hy | exact absurd rfl hne) (List.range' 0 pre.length) a w hwl hp b k cs hro
 ·obtain ⟨e, a', w', hq, harr⟩ := key
  refine ⟨e, a', w', hq, .of_steps (.one (fencedR _ _ _) stepR_region) ?_⟩
  rw [hrange]
  exact harr
 ·rintro a w ⟨lp, args, hg, hdf, hrun, fn, tmps, assign, body, hy, hF, hR⟩ b k cs hro
  have ho : l0.toArray[pre.length]? = some o := by rw [hops]; simp
  have hw : Region.wanted o (yielded l0.toArray a.tmps) = true := by simp [Region.wanted, hg]
  have hsem : o.semAt b.roundOf a.eval = execOp a.eval o := Oper.semAt_eq _ _ _ hdf
  have hgo := stepGR_op (P := P) (b := b) (k := k) (cs := cs) (w := w) (rest := List.range' (pre.length + 1) post.length) ho hw
  rw [hsem] at hgo
  have hfin : ∀ v, (b.atR a (.inRegion l0.toArray (pre.length :: List.range' (pre.length + 1) post.length) :: k)).finish v = b.atR (a.put o.dst v) (.inRegion l0.toArray (List.range' (pre.length + 1) post.length) :: k) := by
   intro v; rw [Frame.finish_atR, ho]; rfl
  have henter : step P (lone (b.atR a (.inRegion l0.toArray (pre.length :: List.range' (pre.length + 1) post.length) :: k)) cs w) =
    .next (lone (Frame.round lp fn tmps assign body .normal) (b.atR a (.inRegion l0.toArray (pre.length :: List.range' (pre.length + 1) post.length) :: k) :: cs) w) :=
   step_lone_go (by rw [hgo]; simp [stepG.apply, hrun, hy, Frame.atR])
  obtain ⟨e, w', ⟨v, rfl, hwl⟩, hsteps⟩ := hR (b.atR a (.inRegion l0.toArray (pre.length :: List.range' (pre.length + 1) post.length) :: k)) cs (room_wide _)
  have hpost := wpOps_of_list (P := P) (ops := l0.toArray) (Q := Q) post (pre.length + 1) (fun j hj => by rw [hops, List.getElem?_append_right (by omega), show pre.length + 1 + j - pre.length = j + 1 by omega, List.getElem?_cons_succ]) _ _ hwl
  obtain ⟨e2, a2, w2, hq, harr⟩ := wpp_ops (r := n.r) _ _ _ hpost hp b k cs hro
  refine ⟨e2, a2, w2, hq, .of_steps (.head (fencedR _ _ _) henter ?_) harr⟩
  rw [← hfin]
  exact hsteps⟩
theorem At.yield {α : Type} (V : α → Bool) (Φ : α → Prop) (C' : α → World → Prop) {lp dd : Nat} {args : List Operand} {vs : List Value} {ats : Array TypeId} {post : List Oper} (hx : evl l x = some (true, .func (.yield lp) #[] #[])) (hn : Nat.ble (dd + 1) n.n = true) (ha : Args l true args vs)
  (h : ∀ w, C w → YieldAt Fence.wide 0 P lp vs.toArray w fun e w' => ∃ u, e = .returned (.bool (V u)) ∧ Φ u ∧ C' u w')
  (k : ∀ u, Φ u → OL P n ops Q post ((dd, true, .bool (V u)) :: l) (C' u)) : At n (YQ P ops Q ⟨some dd, .call { callee := .value x, args := args.toArray, argTypes := ats }, ty, pos, af, none⟩ post) .normal l C := ⟨fun a w hs hC => by
 have hn' := Nat.le_of_ble_eq_true hn
 refine ⟨lp, vs.toArray, rfl, (fun c hc => by cases hc), ?_, yieldAt_mono (h w hC) ?_⟩
 ·have h1 := hs.eval hx rfl
  have h2 := ha.map hs rfl
  have h3 : (args.toArray.map a.eval) = vs.toArray := by rw [List.map_toArray, h2]
  simp only [execOp, resolve, h1, h3, Sem.run_bind, Sem.run_pure, Result.andThen_ok, invoke]
  simp [go_sem]
 ·rintro e w' ⟨u, rfl, hu, hc⟩
  exact ⟨_, rfl, (k u hu).run _ w' (hs.put hn' true _) hc⟩⟩
/-! ### A round -/
def BegQ (P : Program) (lp : Nat) (body : Code) (R : Ending → World → Prop) : Exit → Act → World → Prop := fun e a w => match e with
 | .normal => ∃ w2, (Instr.beginRound lp).run P w = .ok () w2 ∧ wpp (some lp) P body (roundPost P lp R) a w2
 | _ => False
theorem Cls.loopTo {w : World} {p lp : Nat} {rc rc' : Loop} {F : Item → List Item} (h : Cls H S w) (hH : Hole p H (lpI lp rc) F) : Cls (F (lpI lp rc')) S (w.putObj lp (.loop rc')) := by
 have hi := h.item (List.mem_of_getElem? hH.eq.1)
 have hlt := h.lt _ (List.mem_of_getElem? hH.eq.1) lp rfl
 exact h.putO hH rfl hlt (World.putObj_heap_same hlt) (fun q hq => hq) (fun q hq => hq)
theorem At.begin {p lp m : Nat} {M : List Deferred} {rc : Loop} {F : Item → List Item} {body : Code} {R : Ending → World → Prop} (hH : Hole p H (lpI lp (setL rc .ready none)) F) (h : W P ⟨m, M, some lp⟩ body (roundPost P lp R) l (Cls (F (lpI lp (setL rc .busy none))) S)) :
  At ⟨m, M, some lp⟩ (BegQ P lp body R) .normal l (Cls H S) := ⟨fun a w hs hc => by
 have hi := hc.item (List.mem_of_getElem? hH.eq.1)
 exact ⟨_, run_beginRound hi rfl, h.run a _ ⟨hs.df, hs.sz, hs.at_⟩ (hc.loopTo hH)⟩⟩
theorem At.round {p lp m : Nat} {M : List Deferred} {rc : Loop} {F : Item → List Item} {R : Ending → World → Prop} (hH : Hole p H (lpI lp (setL rc .busy none)) F) (h : ∀ w, Cls (F (lpI lp (setL rc .ready none))) S w → R (.returned (.bool true)) w) :
  At ⟨m, M, some lp⟩ (roundPost P lp R) .normal l (Cls H S) := ⟨fun a w hs hc => by
 have hi := hc.item (List.mem_of_getElem? hH.eq.1)
 exact ⟨_, _, run_endRound none hi, h _ (hc.loopTo hH)⟩⟩
/-! ### The statement -/
def zipE : List Nat → List Value → Env → Env
 | p :: ps, v :: vs, l => zipE ps vs ((p, true, v) :: l)
 | _, _, l => l
def foldT (t : Array Value) (q : List (Nat × Value)) : Array Value := q.foldl (fun t (p, v) => t.setIfInBounds p v) t
theorem sees_zip {m : Nat} {M : List Deferred} {r : Option Nat} : ∀ (ps : List Nat) (vs : List Value) (l : Env) (a : Act), (∀ p ∈ ps, Nat.ble (p + 1) m = true) → Sees ⟨m, M, r⟩ l a → Sees ⟨m, M, r⟩ (zipE ps vs l) { a with tmps := foldT a.tmps (ps.zip vs) }
 | [], _, l, a, _, h => by simpa [zipE, foldT] using h
 | p :: ps, [], l, a, _, h => by simpa [zipE, foldT] using h
 | p :: ps, v :: vs, l, a, hb, h => by
  have h1 := h.put (Nat.le_of_ble_eq_true (hb p (.head _))) true v
  exact sees_zip ps vs _ _ (fun q hq => hb q (.tail _ hq)) h1
def RdR (S : List World) {σ : Type} (I : σ → List Item) (B : σ → List Value → σ → Prop) (Z : Code → σ → Prop) (lp D : Nat) (rc : Loop) (x : σ) (vs : List Value) : Ending → World → Prop := fun e w =>
 (∃ x', e = .returned (.bool true) ∧ B x vs x' ∧ Cls (lpI lp (setL rc .ready none) :: mkI D :: I x') S w) ∨ (∃ c x', e = .returned (.bool false) ∧ Z c x' ∧ Cls (lpI lp (setL rc .done (some c)) :: mkI D :: I x') S w)
def Iter (P : Program) (gf : FuncId) (first cap : List Value) (S : List World) {σ : Type} (I : σ → List Item) (A : σ → List Value → Prop) (B : σ → List Value → σ → Prop) (E : σ → Prop) (x0 : σ) : Prop :=
 ∀ (lp D : Nat) (rc : Loop) (Z : Code → σ → Prop), AllLe S lp → AllLe S D →
  (∀ x vs w, A x vs → Cls (lpI lp (setL rc .ready none) :: mkI D :: I x) S w → YieldAt Fence.wide 0 P lp vs.toArray w (RdR S I B Z lp D rc x vs)) →
  ∀ w, Cls (lpI lp (setL rc .ready none) :: mkI D :: I x0) S w → Calls P gf (first ++ [yv lp] ++ cap).toArray w fun e w' => (∃ v, e = .returned v) ∧
   ((∃ x', E x' ∧ Cls (lpI lp (setL rc .ready none) :: mkI D :: I x') S w') ∨ (∃ c x', Z c x' ∧ Cls (lpI lp (setL rc .done (some c)) :: mkI D :: I x') S w'))
theorem AllLe.all {k : Nat} : ∀ {S : List World}, AllLe S k → ∀ s ∈ S, s.heap.size ≤ k
 | [], _, s, hs => by cases hs
 | s :: S, h, t, ht => by
  rcases List.mem_cons.1 ht with rfl | ht
  ·exact h.1
  ·exact AllLe.all h.2 t ht
theorem W.range {m : Nat} {M : List Deferred} {g : Operand} {ps : List Nat} {assign body : Code} {gf : FuncId} {first cap : List Value} {σ : Type} (I : σ → List Item) (A : σ → List Value → Prop) (B : σ → List Value → σ → Prop) (E : σ → Prop) (Z : Code → σ → Prop) (x0 : σ)
  (hg : evl l g = some (true, .func (.func gf) first.toArray cap.toArray)) (hf : callable P gf = true) (hps : ∀ p ∈ ps, Nat.ble (p + 1) m = true) (hcb : calmC assign && calmC body) (hI : ∀ w, C w → Cls (I x0) S w)
  (hvs : ∀ x vs, A x vs → vs.length = ps.length)
  (hiter : ∀ w, Cls (I x0) S w → Iter P gf first cap S I A B E x0)
  (hround : ∀ (lp D : Nat) (rc : Loop) (x : σ) (vs : List Value), AllLe S lp → AllLe S D → A x vs → W P ⟨m, [], some lp⟩ assign (BegQ P lp body (RdR S I B Z lp D rc x vs)) (zipE ps vs l) (Cls (lpI lp (setL rc .ready none) :: mkI D :: I x) S))
  (hdone : ∀ D x, AllLe S D → E x → At ⟨m, dMark D :: M, none⟩ Q .normal l (Cls (mkI D :: I x) S))
  (hstop : ∀ D c x, AllLe S D → Z c x → W P ⟨m, dMark D :: M, none⟩ c Q l (Cls (mkI D :: I x) S)) :
  W P ⟨m, M, none⟩ (.rangeFunc g ps.toArray assign body) Q l C := ⟨fun a w0 hs hC hp => by
 have hc := hI w0 hC
 simp only [Bool.and_eq_true] at hcb
 refine wpIn_rangeFunc ?_
 intro fn hfn
 have hev := hs.eval hg rfl
 obtain ⟨rc, hrc⟩ : ∃ rc : Loop, rc = { state := .ready, pending := none, fn, tmps := a.tmps, params := ps.toArray, assign, body, defers := w0.heap.size } := ⟨_, rfl⟩
 have hrc0 : setL rc .ready none = rc := by rw [hrc]; rfl
 obtain ⟨w1, hw1⟩ : ∃ w1, w0.alloc (.deferred (some [])) = w1 := ⟨_, rfl⟩
 have hz1 : w1.heap.size = w0.heap.size + 1 := by rw [← hw1, World.size_alloc]
 obtain ⟨w2, hw2⟩ : ∃ w2, w1.alloc (.loop rc) = w2 := ⟨_, rfl⟩
 have hz2 : w2.heap.size = w0.heap.size + 2 := by rw [← hw2, World.size_alloc, hz1]
 have hE1 : Ext w0 w1 := by rw [← hw1]; exact Ext.of_below ((Below.refl _ w0).alloc (Nat.le_refl _) _)
 have hE2 : Ext w1 w2 := by rw [← hw2]; exact Ext.of_below ((Below.refl _ w1).alloc (Nat.le_refl _) _)
 have c1 : Cls (mkI w0.heap.size :: I x0) S w1 := hc.add hE1 _ (by rw [← hw1]; exact World.alloc_heap_new w0 _) (fun k hk => by rw [show k = w0.heap.size from hk]; omega)
 have c2 : Cls (lpI (w0.heap.size + 1) rc :: mkI w0.heap.size :: I x0) S w2 := c1.add hE2 _ (by rw [← hw2, ← hz1]; exact World.alloc_heap_new w1 _) (fun k hk => by rw [show k = w0.heap.size + 1 from hk]; omega)
 have hlD : AllLe S w0.heap.size := AllLe.of fun s hs => (hc.kp s hs).size
 have hlp : AllLe S (w0.heap.size + 1) := AllLe.of fun s hs => Nat.le_trans (hc.kp s hs).size (Nat.le_succ _)
 refine ⟨w0.heap.size + 1, [dMark w0.heap.size], w2, { target := .fn (.func gf) cap.toArray, args := first.toArray ++ #[yv (w0.heap.size + 1)] }, w2, gf, (first ++ [yv (w0.heap.size + 1)] ++ cap).toArray, w2, ?_, ?_, fun _ _ => trivial, ?_, (fun h => by cases h), ?_⟩
 ·rw [← hw2, ← hw1, hrc]
  exact run_enterLoop_outer _ _ _ _ _
 ·simp only [resolve, hev]
  simp [go_sem]
 ·have := run_callFunc_body (P := P) hf (first ++ [yv (w0.heap.size + 1)] ++ cap).toArray w2
  simp only [invoke]
  simpa using this
 ·refine callsIn_wide.2 ?_
  rw [← hrc0] at c2
  refine (hiter w0 hc (w0.heap.size + 1) w0.heap.size rc Z hlp hlD (fun x vs w hA hw => ?_) w2 c2).mono ?_
  ·have hi := hw.item (i := lpI (w0.heap.size + 1) (setL rc .ready none)) (.head _)
   refine ⟨fn, foldT a.tmps (ps.zip vs), assign, body, ?_, ?_⟩
   ·have := run_yield (P := P) (args := vs.toArray) hi (by rw [hrc]; simp [setL, hvs x vs hA])
    rw [this, hrc]
    simp [setL, foldT]
   ·refine roundIn_of_wpIn hfn ?_
    have hsr : Sees ⟨m, [], some (w0.heap.size + 1)⟩ l { a with defers := [] } := ⟨rfl, hs.sz, hs.at_⟩
    have hrun := (hround _ _ rc x vs hlp hlD hA).run _ w (sees_zip ps vs l _ hps hsr) hw (fun _ => hcb.1)
    refine wpIn_mono hrun fun e a1 w1 hq => ?_
    cases e with
    | normal =>
     obtain ⟨w2, h1, h2⟩ := hq
     exact ⟨w2, h1, h2 fun _ => hcb.2⟩
    | _ => exact hq.elim
  ·have hfinal : ∀ (x' : σ) (st : LoopState) (pe : Option Code) (w3 : World), st ≠ .busy → Cls (lpI (w0.heap.size + 1) (setL rc st pe) :: mkI w0.heap.size :: I x') S w3 → ∃ w4, (Instr.endLoop (w0.heap.size + 1)).run P w3 = .ok pe w4 ∧ Cls (mkI w0.heap.size :: I x') S w4 := fun x' st pe w3 hst hw => by
    have hi := hw.item (i := lpI (w0.heap.size + 1) (setL rc st pe)) (.head _)
    refine ⟨_, run_endLoop hi hst, ?_⟩
    have h5 := hw.loopTo (rc' := { setL rc st pe with state := .exhausted }) .z
    exact h5.thin (.any (fun k hk => by rw [show k = w0.heap.size + 1 from hk]; exact hlp) Thin.same)
   have hsa : Sees ⟨m, dMark w0.heap.size :: M, none⟩ l { a with defers := [dMark w0.heap.size] ++ a.defers } := ⟨congrArg (fun z => [dMark w0.heap.size] ++ z) hs.df, hs.sz, hs.at_⟩
   rintro e w3 ⟨⟨v, rfl⟩, ⟨x', hE, hw⟩ | ⟨c, x', hZ, hw⟩⟩
   ·obtain ⟨w4, h1, h2⟩ := hfinal x' _ _ w3 (by simp) hw
    exact ⟨none, w4, h1, (hdone _ x' hlD hE).run _ w4 hsa h2⟩
   ·obtain ⟨w4, h1, h2⟩ := hfinal x' _ _ w3 (by simp) hw
    exact ⟨some c, w4, h1, (hstop _ c x' hlD hZ).run _ w4 hsa h2 (fun h => by cases h)⟩⟩
/-! ### The end of a function that holds such a statement -/
theorem enterM {f : FuncId} {fn : Func} {c : Code} {args : List Value} {R : Ending → World → Prop} {w : World} {m : Nat} (hf : P.funcs[f]? = some fn) (hb : fn.body = some c) (hn : fn.ntmps = m) (ha : Nat.ble args.length m = true)
  (hC : C w) (h : W P ⟨m, [], none⟩ c (bodyPostM Fence.wide 0 P fn R) (argEnv 0 args) C) : Calls P f args.toArray w R := by
 subst hn
 refine callsIn_wide.1 (callsIn_of_wp_marks (n := 0) hf hb trivial ?_ rfl)
 have h1 := h.run _ w (by have := sees_args (args := args.toArray) (n := fn.ntmps) (by simpa using Nat.le_of_ble_eq_true ha); simpa using this) hC
 exact h1 (fun h => by cases h)
theorem Cls.shut {w : World} {p B D : Nat} {Ds Es : List Nat} {F : Item → List Item} (h : Cls H S w) (hH : Hole p H (mksE B Es (D :: Ds)) F) :
  (Instr.takeDeferred D).run P w = .ok [] (w.putObj D (.deferred none)) ∧ Cls (F (mksE B (Es ++ [D]) Ds)) S (w.putObj D (.deferred none)) := by
 have hi := h.item (List.mem_of_getElem? hH.eq.1)
 have hlt := h.lt _ (List.mem_of_getElem? hH.eq.1) D (show D ∈ Es ++ D :: Ds by simp)
 have e1 : (Es ++ [D]) ++ Ds = Es ++ D :: Ds := by simp
 refine ⟨run_takeDeferred (hi.2.2 D (.head _)), h.putO hH (show D ∈ Es ++ D :: Ds by simp) hlt ?_ (fun q hq => by have h9 : q ∈ (Es ++ [D]) ++ Ds := hq; rw [e1] at h9; exact h9) (fun q hq => by have h9 : q ∈ Es ++ D :: Ds := hq; rw [← e1] at h9; exact h9)⟩
 show ((Es ++ [D]) ++ Ds).Nodup ∧ (∀ E ∈ (Es ++ [D]) ++ Ds, B ≤ E) ∧ ∀ E ∈ Ds, (w.putObj D (.deferred none)).heap[E]? = some (.deferred (some []))
 rw [e1]
 refine ⟨hi.1, hi.2.1, fun E hE => ?_⟩
 have hne : E ≠ D := fun e => by
  have hn := hi.1
  rw [List.nodup_append] at hn
  have := (List.nodup_cons.1 hn.2.1).1
  rw [← e] at this
  exact this hE
 exact (World.putObj_heap_other hne).trans (hi.2.2 E (.tail _ hE))
theorem leaves_marks {fn : Func} {tmps : Array Value} {R : Ending → World → Prop} {p B : Nat} {v : Value} {F : Item → List Item} {i0 : Item} (hH0 : Hole p H i0 F) (hr : ∀ w, (results fn tmps).run P w = .ok v w) : ∀ (Ds Es : List Nat) (w : World),
  Cls (F (mksE B Es Ds)) S w →
  (∀ w, Cls (F (mksN B (Es ++ Ds))) S w → R (.returned v) w) → LeavesInM Fence.wide 0 P fn tmps R (Ds.map dMark) .returning w
 | [], Es, w, hc, hR => by
  refine ⟨v, hr w, hR w ?_⟩
  obtain ⟨q, hq⟩ : ∃ j, F j = H.set p j := ⟨i0, hH0.eq.2 i0⟩
  have hl : p < H.length := by
   have := hH0.eq.1
   exact (List.getElem?_eq_some_iff.1 this).1
  have h1 := hc
  rw [hH0.eq.2] at h1
  have h2 := h1.turn p (i := mksE B Es []) (j := mksN B (Es ++ [])) (by rw [List.getElem?_set_self hl]) (Keep.refl _ w) (h1.holds _ (List.mem_of_getElem? (List.getElem?_set_self hl))).2.1 (fun k hk => ⟨.inl hk, h1.lt _ (List.mem_of_getElem? (List.getElem?_set_self hl)) k hk⟩) (fun k hk => hk)
  rw [List.set_set] at h2
  rw [hH0.eq.2]
  exact h2
 | D :: Ds, Es, w, hc, hR => by
  have hl : p < H.length := (List.getElem?_eq_some_iff.1 hH0.eq.1).1
  have hH : Hole p (F (mksE B Es (D :: Ds))) (mksE B Es (D :: Ds)) F := hH0.other _
  obtain ⟨h1, h2⟩ := Cls.shut (P := P) hc hH
  refine ⟨by simp, .inl ⟨D, _, rfl, h1, ?_⟩⟩
  exact leaves_marks hH0 hr Ds (Es ++ [D]) _ h2 (fun w hw => hR w (by rw [show Es ++ D :: Ds = (Es ++ [D]) ++ Ds by simp]; exact hw))
theorem At.finM {m p B : Nat} {Ds : List Nat} {fn : Func} {R : Ending → World → Prop} {F : Item → List Item} {v : Value} (hH : Hole p H (mks B Ds) F) (hr : ∀ a, Sees ⟨m, Ds.map dMark, none⟩ l a → ∀ w, (results fn a.tmps).run P w = .ok v w)
  (h : ∀ w, Cls (F (mksN B Ds)) S w → R (.returned v) w) : At ⟨m, Ds.map dMark, none⟩ (bodyPostM Fence.wide 0 P fn R) .ret l (Cls H S) := ⟨fun a w hs hc => by
 show LeavesInM Fence.wide 0 P fn a.tmps R a.defers .returning w
 rw [show a.defers = Ds.map dMark from hs.df]
 refine leaves_marks (p := p) (B := B) hH (hr a hs) Ds [] w ?_ h
 have hl : p < H.length := (List.getElem?_eq_some_iff.1 hH.eq.1).1
 have hi := hc.item (List.mem_of_getElem? hH.eq.1)
 rw [hH.eq.2]
 exact hc.turn p hH.eq.1 (Keep.refl _ w) ⟨hi.1, fun E hE => (hi.2 E hE).1, fun E hE => (hi.2 E hE).2⟩ (fun k hk => ⟨.inl hk, hc.lt _ (List.mem_of_getElem? hH.eq.1) k hk⟩) (fun k hk => hk)⟩
theorem At.finM0 {m : Nat} {fn : Func} {R : Ending → World → Prop} {v : Value} (hr : ∀ a, Sees ⟨m, [], none⟩ l a → ∀ w, (results fn a.tmps).run P w = .ok v w)
  (h : ∀ w, C w → R (.returned v) w) : At ⟨m, [], none⟩ (bodyPostM Fence.wide 0 P fn R) .ret l C := ⟨fun a w hs hc => by
 show LeavesInM Fence.wide 0 P fn a.tmps R a.defers .returning w
 rw [show a.defers = [] from hs.df]
 exact ⟨v, hr a hs w, h w hc⟩⟩
theorem results2 {m : Nat} {Ds : List Deferred} {fn : Func} {t u : Nat} {v v' : Value} (hr : fn.results = #[.tmp t, .tmp u]) (ht : look l t = some (true, v)) (hu : look l u = some (true, v')) : ∀ a, Sees ⟨m, Ds, none⟩ l a → ∀ w, (results fn a.tmps).run P w = .ok (.tuple #[v, v']) w := fun a hs w => by
 have h1 := hs.at_ t true v ht
 have h2 := hs.at_ u true v' hu
 simp [results, hr, Array.getD_eq_getD_getElem?, h1, h2]
/-! ### A loop whose rounds leave such marks -/
def AgainM {G : Type} (Φ : G → Prop) (μ : G → Nat) (ng : G → Nm) (lg : G → Env) (Cg : G → World → Prop) (g : G) (a : Act) (w : World) : Prop :=
 ∃ g', Φ g' ∧ μ g' < μ g ∧ Sees (ng g') (lg g') a ∧ Cg g' w
theorem W.loopM {c : Code} {G : Type} (Φ : G → Prop) (μ : G → Nat) (ng : G → Nm) (lg : G → Env) (Cg : G → World → Prop) (g0 : G) (hn : ng g0 = n) (hr : ∀ g, (ng g).r = n.r) (h0 : Φ g0) (hs0 : Sub l (lg g0)) (hc0 : ∀ w, C w → Cg g0 w)
  (body : ∀ g, Φ g → W P (ng g) c (Exit.then (AgainM Φ μ ng lg Cg g) Q) (lg g) (Cg g)) : W P n (.loop c) Q l C := by
 have key : ∀ m g, μ g < m → Φ g → ∀ a w, Sees (ng g) (lg g) a → Cg g w → roundsP n.r P c Q m a w := by
  intro m
  induction m with
  | zero => intro g h; omega
  | succ m ih =>
   intro g hm hg a w hs hc
   show wpp n.r P c (Exit.then (roundsP n.r P c Q m) Q) a w
   have h1 := (body g hg).run a w hs hc
   rw [hr g] at h1
   refine wpp_mono h1 fun e a' w' hq => ?_
   cases e with
   | normal =>
    obtain ⟨g', hg', hlt, hs', hc'⟩ := hq
    exact ih g' (by omega) hg' a' w' hs' hc'
   | _ => exact hq
 exact ⟨fun a w hs hc => wpp_loop _ (key (μ g0 + 1) g0 (by omega) h0 a w (by rw [hn]; exact hs.sub hs0) (hc0 w hc))⟩
theorem At.againM {G : Type} {Φ : G → Prop} {μ : G → Nat} {ng : G → Nm} {lg : G → Env} {Cg : G → World → Prop} {g : G} (g' : G) (hn : ng g' = n) (hg : Φ g') (hm : μ g' < μ g) (hs : Sub l (lg g')) (hc : ∀ w, C w → Cg g' w) :
  At n (Exit.then (AgainM Φ μ ng lg Cg g) Q) .normal l C := ⟨fun a w s c => ⟨g', hg, hm, by rw [hn]; exact s.sub hs, hc w c⟩⟩
end
end Go.Eng

/- The walk of flow's set.all where a range over it calls it: its contract as an iterator. Conditions: none. -/
namespace Go.Proofs.YtkpjndhgicbjjaaDoor.co
open Go.RowKit Go.Eng Go.Co
set_option maxRecDepth 100000
def allA {σ : Type} (r : List Bool) (φ : Nat → σ → Prop) (x : σ) (vs : List Value) : Prop := ∃ g : Nat, vs = [.int .i64 (g : Int)] ∧ r.getD g false = true ∧ φ g x
def allB {σ : Type} (φ : Nat → σ → Prop) (x : σ) (vs : List Value) (x' : σ) : Prop := ∃ g : Nat, vs = [.int .i64 (g : Int)] ∧ φ (g + 1) x'
def allC {σ : Type} (I : σ → List Eng.Item) (lp D : Nat) (rc : Loop) (u : σ × Option Code) : List Eng.Item :=
 lpI lp (match u.2 with | none => setL rc .ready none | some c => setL rc .done (some c)) :: mkI D :: I u.1
theorem drop_loop {lp D : Nat} {rc : Loop} {L : List Eng.Item} {S : List World} {w : World} (hlp : AllLe S lp) (hD : AllLe S D) (hw : Cls (lpI lp rc :: mkI D :: L) S w) : Cls L S w := by
 have h1 : Thin S (lpI lp rc :: mkI D :: L) L := by
  refine Thin.any (fun k hk => ?_) (Thin.any (fun k hk => ?_) Thin.same)
  ·have : k = lp := hk
   rw [this]
   exact hlp
  ·have : k = D := hk
   rw [this]
   exact hD
 exact hw.thin h1
theorem all_iter {σ : Type} (bA ca n : Nat) (hn : n ≤ 4096) (r : List Bool) (I : σ → List Eng.Item) (S : List World) (φ : Nat → σ → Prop)
  (hT : ∀ x w, Cls (I x) S w → tzAt w)
  (hread : ∀ x w, (∃ c, φ c x) → Cls (I x) S w → CellsAt w ⟨bA, 0, none⟩ (u64s (wordsB n r)))
  (hskip : ∀ g x, r.getD g false = false → φ g x → φ (g + 1) x)
  (x0 : σ) (h0 : φ 0 x0) : Iter Tryd.prog 16 [.slice (some ⟨bA, 0, none⟩) (n / 64 + 1) ca] [] S I (allA r φ) (allB φ) (fun x => φ (64 * (n / 64 + 1)) x) x0 := by
 intro lp D rc Z hlp hD hyld w hc0
 have hdropL : ∀ rc' x w, Cls (lpI lp rc' :: mkI D :: I x) S w → Cls (I x) S w := fun rc' x w hw => drop_loop hlp hD hw
 have hc : Cls (allC I lp D rc (x0, none)) S w := hc0
 rw [show ([Value.slice (some ⟨bA, 0, none⟩) (n / 64 + 1) ca] ++ [yv lp] ++ []) = [Value.slice (some ⟨bA, 0, none⟩) (n / 64 + 1) ca, yv lp] from rfl]
 refine enter Tryd.func16 rfl Tryd.ntmps16 rfl hc ?_
 (simp only [argEnv, Nat.zero_add, Nat.reduceAdd])
 apply W.sr
 apply omv; rfl; rfl
 apply oop; rfl; apply Pev.len_slice; rfl; exact yes; rfl
 apply omv; rfl; rfl
 apply OL.nx
 apply W.block
 refine W.loop (G := Nat × σ) (fun g => g.1 ≤ n / 64 + 1 ∧ φ (64 * g.1) g.2) (fun g => n / 64 + 1 - g.1)
  (fun g => [(1, true, yv lp), (6, true, .slice (some ⟨bA, 0, none⟩) (n / 64 + 1) ca), (7, true, .int .i64 ((n / 64 + 1 : Nat) : Int)), (8, true, .int .i64 (g.1 : Int))])
  (fun g => Cls (allC I lp D rc (g.2, none)) S) (0, x0) ⟨Nat.zero_le _, h0⟩ (by exact Sub.au) (fun w' hw' => hw') ?_
 rintro ⟨i, x⟩ ⟨hi, hx⟩
 simp only at hi hx ⊢
 apply W.sr
 apply obn; rfl; rfl; rfl; apply Bin.lss
 apply OL.nx
 apply W.seq
 (refine W.cnd (fun hlt => ?_) (fun hlt => ?_)) <;> (try (exfalso; first | omega | exact hlt trivial | contradiction))
 ·have hil : i < n / 64 + 1 := by omega
  have hcw : ∀ w', Cls (allC I lp D rc (x, none)) S w' → w'.cell? ⟨bA, 0 + (i : Int).toNat * 1, none⟩ = some (.int .u64 (wordB r i : Int)) := fun w' hw' => by
   have := hread x w' ⟨_, hx⟩ (hdropL _ x w' hw') i _ (u64s_get (wordsB_get r hil))
   rw [add_mid] at this
   rw [← this]
   congr 2
   omega
  apply W.sk
  apply W.sb
  apply W.sr
  apply omv; rfl; rfl
  apply oop; rfl; apply Pev.idxB; rfl; exact yes; rfl; exact yes; rfl; intro hcond; omega; rfl
  (((first | (with_reducible apply OL.op) | (with_reducible apply QL.op)); (exact Guard.au); rfl; rfl); (apply Pev.load_w1; rfl; ((first | exact fun _ => rfl | exact fun h => h | (intro h; simp_all; done))); rfl; exact fun _ w' hw' => hcw w' hw'))
  apply oas; rfl; rfl
  apply oas; rfl; rfl
  apply OL.nx
  apply W.block
  refine W.loop (G := Nat × Nat × σ) (fun g => g.1 < 18446744073709551616 ∧ hiW (wordB r i) g.2.1 g.1 ∧ g.2.1 ≤ 64 ∧ φ (64 * i + g.2.1) g.2.2) (fun g => 64 - g.2.1)
   (fun g => [(1, true, yv lp), (4, true, .int .i64 (i : Int)), (5, true, .int .u64 (g.1 : Int)), (6, true, .slice (some ⟨bA, 0, none⟩) (n / 64 + 1) ca), (7, true, .int .i64 ((n / 64 + 1 : Nat) : Int)), (8, true, .int .i64 (i : Int))])
   (fun g => Cls (allC I lp D rc (g.2.2, none)) S) (wordB r i, 0, x) ⟨word_lt r i, hiW_zero _, Nat.zero_le _, hx⟩ (by exact Sub.au) (fun w' hw' => hw') ?_
  rintro ⟨y, c, x1⟩ ⟨hy, hhi, hc64, hx1⟩
  simp only at hy hhi hc64 hx1 ⊢
  apply W.seq
  apply W.sr
  apply omv; rfl; rfl
  apply obn; rfl; rfl; rfl; apply Bin.neq
  apply OL.nx
  (refine W.cnd (fun hne => ?_) (fun hne => ?_)) <;> (try (exfalso; first | omega | exact hne trivial | contradiction))
  ·have hy0 : y ≠ 0 := by omega
   obtain ⟨g1, g2, g3, g4, g5⟩ := hiW_next hhi (word_lt r i) hy0 hy
   obtain ⟨tz, htz⟩ : ∃ tz, Lib.ctz 64 y = tz := ⟨_, rfl⟩
   rw [htz] at g1 g2 g3 g4 g5
   apply W.sk
   apply W.seq
   apply W.block
   apply W.seq
   refine W.regY 6 (by (repeat (first | exact CutN.z | apply CutN.s))) ?_
   apply omv; rfl; rfl
   apply omv; rfl; rfl
   apply obn; rfl; rfl; rfl; apply Bin.mul_in; omega
   apply omv; rfl; rfl
   (((first | (with_reducible apply OL.op) | (with_reducible apply QL.op)); (exact Guard.au); rfl; rfl); (exact Pev.call (v := .int .i64 (tz : Int)) rfl (by exact Args.au) (fun _ w2 hw2 => (tz_calls y w2 hy (hT x1 w2 (hdropL _ x1 w2 hw2))).mono (fun e w3 h => ⟨by rw [h.1, htz], hw2.ext h.2⟩))))
   have hgg : r.getD (64 * i + tz) false = true := by
    have := word_bit r i tz
    rw [g3] at this
    simp only [g2, decide_true, Bool.true_and] at this
    exact this.symm
   have hx2 : φ (64 * i + tz) x1 := by
    have := skip_to hskip hx1 (tz - c) (fun j h1 h2 => by
     have h3 := g4 (j - 64 * i) (by omega) (by omega)
     rw [word_bit, show 64 * i + (j - 64 * i) = j by omega] at h3
     simpa [show j - 64 * i < 64 by omega] using h3)
    rwa [show 64 * i + c + (tz - c) = 64 * i + tz by omega] at this
   apply obn; rfl; rfl; rfl; apply Bin.add_in; omega
   apply OL.nil
   refine At.yield (α := σ × Option Code) (vs := [.int .i64 ((64 * i + tz : Nat) : Int)]) (fun u => u.2.isNone) (fun u => (u.2 = none → φ (64 * i + tz + 1) u.1) ∧ ∀ c, u.2 = some c → Z c u.1) (fun u => Cls (allC I lp D rc u) S) rfl rfl (by exact Args.au) (fun w2 hw2 => yieldAt_mono (hyld x1 _ w2 ⟨64 * i + tz, rfl, hgg, hx2⟩ hw2) ?_) ?_
   ·rintro e w3 (⟨x', rfl, ⟨g, hgv, hB⟩, hw3⟩ | ⟨cc, x', rfl, hZ, hw3⟩)
    ·simp only [List.cons.injEq, Value.int.injEq, true_and, and_true] at hgv
     have hgv : 64 * i + tz = g := by omega
     subst hgv
     exact ⟨(x', none), rfl, ⟨fun _ => hB, fun c h => by cases h⟩, hw3⟩
    ·exact ⟨(x', some cc), rfl, ⟨fun h => by (cases h), fun c h => by cases h; exact hZ⟩, hw3⟩
   rintro ⟨x2, oc⟩ ⟨hx3, hz⟩
   simp only at hx3 hz ⊢
   cases oc with
   | some cc =>
    simp only [Option.isNone_some]
    apply oop; rfl; apply Pev.not; rfl; exact yes
    apply OL.nx
    refine W.cond rfl (fun _ => ?_) (fun h => by cases h)
    refine W.rt ?_
    refine At.fin0 rfl (fun w' hw' => ⟨⟨_, rfl⟩, .inr ⟨cc, x2, hz cc rfl, hw'⟩⟩)
   | none =>
    simp only [Option.isNone_none]
    have hx3 := hx3 rfl
    apply oop; rfl; apply Pev.not; rfl; exact yes
    apply OL.nx
    refine W.cond rfl (fun h => by cases h) (fun _ => ?_)
    apply W.skip
    with_reducible apply At.in_normal
    with_reducible apply At.next
    apply W.reg
    apply omv; rfl; rfl
    apply omv; rfl; rfl
    apply obn; rfl; rfl; rfl; apply Bin.sub
    apply obn; rfl; rfl; rfl; apply Bin.and
    apply oas; rfl; rfl
    apply OL.nil
    have e1 : IntKind.u64.wrap ((y : Int) - 1) = ((y - 1 : Nat) : Int) := by rw [IntKind.wrap_u64]; omega
    have e2 : bits .and .u64 (y : Int) (IntKind.u64.wrap ((y : Int) - 1)) = ((y &&& (y - 1) : Nat) : Int) := by
     rw [e1]
     exact bits_and_u64_nat y (y - 1) hy (by omega)
    rw [e2]
    exact At.again (y &&& (y - 1), tz + 1, x2) ⟨and_lt hy, g5, g2, hx3⟩ (by simp only; omega) (by exact Sub.au) (fun w' hw' => hw')
  ·obtain rfl : y = 0 := by omega
   have hx4 : φ (64 * (i + 1)) x1 := by
    have := skip_to hskip hx1 (64 - c) (fun j h1 h2 => by
     have h3 := hiW_end hhi (j - 64 * i) (by omega)
     rw [word_bit, show 64 * i + (j - 64 * i) = j by omega] at h3
     simpa [show j - 64 * i < 64 by omega] using h3)
    rwa [show 64 * i + c + (64 - c) = 64 * (i + 1) by omega] at this
   refine W.xt ?_
   with_reducible apply At.in_normal
   with_reducible apply At.next
   apply W.reg
   apply obn; rfl; rfl; rfl; apply Bin.add_in; omega
   apply omv; rfl; rfl
   apply OL.nil
   exact At.again (i + 1, x1) ⟨by omega, hx4⟩ (by simp only; omega) (by exact Sub.au) (fun w' hw' => hw')
 ·obtain rfl : i = n / 64 + 1 := by omega
  refine W.xt ?_
  refine At.end_ (At.fin0 rfl (fun w' hw' => ⟨⟨_, rfl⟩, .inl ⟨x, hx, hw'⟩⟩))
end Go.Proofs.YtkpjndhgicbjjaaDoor.co

/- What flow.Of yields: a call, its functions, and whether it may call a resumption; as a reading. Conditions: none. -/
namespace Go.Co
open Go.Eng
structure FCall where
 pos : Int
 fns : List Int
 other : Bool
def fnsF (R : FR) (p c n : Nat) : List Int := ((List.range (min c n)).filter fun g => hB R p g).map fun (g : Nat) => (g : Int)
def callF (e : List Ex) (R : FR) (i : Nat) (x : Ex) : FCall := ⟨i, fnsF R (kidN x 0) e.length e.length, hB R (kidN x 0) e.length⟩
def outF (e : List Ex) (R : FR) : Nat → List FCall
 | 0 => []
 | k + 1 => outF e R k ++ (match e[k]? with | some x => if x.op = 3 then [callF e R k x] else [] | none => [])
theorem outF_app {e : List Ex} {R : FR} {k : Nat} {x : Ex} (hx : e[k]? = some x) (ho : x.op = 3) : outF e R (k + 1) = outF e R k ++ [callF e R k x] := by
 rw [outF, hx]
 simp only [ho, if_true]
theorem outF_skip {e : List Ex} {R : FR} {k : Nat} {x : Ex} (hx : e[k]? = some x) (ho : ¬ x.op = 3) : outF e R (k + 1) = outF e R k := by
 rw [outF, hx]
 simp only [ho, if_false, List.append_nil]
theorem outF_len (e : List Ex) (R : FR) : ∀ k, (outF e R k).length ≤ k
 | 0 => Nat.le_refl _
 | k + 1 => by
  have := outF_len e R k
  rw [outF, List.length_append]
  split
  ·split
   ·simp; omega
   ·simp; omega
  ·simp; omega
theorem fnsF_len (R : FR) (p c n : Nat) : (fnsF R p c n).length ≤ n := by
 unfold fnsF
 rw [List.length_map]
 have h1 := List.length_filter_le (fun g => hB R p g) (List.range (min c n))
 rw [List.length_range] at h1
 omega
theorem fnsF_zero (R : FR) (p n : Nat) : fnsF R p 0 n = [] := by
 unfold fnsF
 rw [Nat.zero_min]
 rfl
theorem fnsF_yes {R : FR} {p c n : Nat} (h : c < n) (hb : hB R p c = true) : fnsF R p (c + 1) n = fnsF R p c n ++ [(c : Int)] := by
 unfold fnsF
 rw [show min (c + 1) n = c + 1 by omega, show min c n = c by omega, List.range_succ, List.filter_append, List.map_append]
 simp [hb]
theorem fnsF_no {R : FR} {p c n : Nat} (hb : hB R p c = false) : fnsF R p (c + 1) n = fnsF R p c n := by
 unfold fnsF
 by_cases h : c < n
 ·rw [show min (c + 1) n = c + 1 by omega, show min c n = c by omega, List.range_succ, List.filter_append]
  simp [hb]
 ·rw [show min (c + 1) n = n by omega, show min c n = n by omega]
theorem fnsF_out {R : FR} {p c n : Nat} (h : n ≤ c) : fnsF R p c n = fnsF R p n n := by
 unfold fnsF
 rw [show min c n = n by omega, Nat.min_self]
def flCells (x : FCall) (y : Sc) : List Value := [.int .i64 x.pos, .slice y.1 x.fns.length y.2, .bool x.other]
structure FlOk (w : World) (O : Nat → Prop) (x : FCall) (y : Sc) : Prop where
 pos : I64 x.pos
 el : ∀ i ∈ x.fns, I64 i
 len : x.fns.length ≤ 1048576
 fns : IntsO w O x.fns y.1
def flR : Rel FCall Sc where
 sz := 3
 pos := by decide
 cells := flCells
 ok := FlOk
 len := fun _ _ => rfl
 stab := fun hk h => ⟨h.pos, h.el, h.len, h.fns.stab hk⟩
 mono := fun hk h => ⟨h.pos, h.el, h.len, h.fns.mono hk⟩
theorem op_pos {e : List Ex} (h : bodyE e [] false = 0) : ∀ x ∈ e, 0 ≤ x.op := by
 intro x hx
 have hb := BodyOk.of h
 have hs := (nodeE_zero (hb.node hx).1).1
 unfold shapeB at hs
 by_cases h7 : x.op = 7 ∨ x.op = 13
 ·omega
 ·rw [if_neg h7] at hs
  split at hs
  ·cases hs
  ·rename_i k b u hsh
   unfold sh at hsh
   apply Decidable.byContradiction
   intro hn
   repeat (first | (rw [if_neg (by omega)] at hsh) | (simp at hsh; done) | (split at hsh <;> try omega))
end Go.Co
namespace Go.Eng
open Go.RowKit
theorem Cls.over {H H2 : List Item} {S : List World} {w w' : World} (h : Cls H S w) (h2 : Cls H2 [w] w') (hf : ∀ i ∈ H2, ∀ k, i.own k → w.heap.size ≤ k) : Cls (H2 ++ H) S w' := by
 have hk := h2.kp w (.head _)
 have hno : ∀ k, k < w.heap.size → ¬ owned H2 k := fun k hlt ⟨i, hi, ho⟩ => by have := hf i hi k ho; omega
 refine ⟨fun i hi => ?_, fun i hi k ho => ?_, ?_, fun s hs => ?_⟩
 ·rcases List.mem_append.1 hi with hi | hi
  ·exact h2.holds i hi
  ·exact i.stab w w' (fun k ho => hk.block k (h.lt i hi k ho) (hno k (h.lt i hi k ho))) (h.holds i hi)
 ·rcases List.mem_append.1 hi with hi | hi
  ·exact h2.lt i hi k ho
  ·exact Nat.lt_of_lt_of_le (h.lt i hi k ho) hk.size
 ·rw [List.pairwise_append]
  exact ⟨h2.dj, h.dj, fun i hi j hj k ho1 ho2 => by have := hf i hi k ho1; have := h.lt j hj k ho2; omega⟩
 ·have h3 := h.kp s hs
  refine (h3.mono fun k _ ⟨i, hi, ho⟩ => ⟨i, List.mem_append_right _ hi, ho⟩).trans (hk.mono fun k _ ⟨i, hi, ho⟩ => ⟨i, List.mem_append_left _ hi, ho⟩)
theorem Cls.pool_row {α μ : Type} {R : Rel α μ} {w : World} {B m cap : Nat} {O O2 : Nat → Prop} {q : Option Addr} {e : TypeId} {xs : List Value} {l : List (α × μ)} {x : α} {y : μ} {H : List Item} {S : List World} (h : Cls (row B O q m cap e 1 xs :: pool R B O2 l :: H) S w)
  (hx : (∃ a, q = some a ∧ (B ≤ a.block ∧ O a.block) ∧ CellsAt w a xs) ∨ xs = [] → R.ok w (fun k => B ≤ k ∧ (O k ∨ O2 k)) x y) : Cls (pool R B (fun k => O k ∨ O2 k) (l ++ [(x, y)]) :: H) S w := by
 have hr := h.item (i := row B O q m cap e 1 xs) (by simp)
 have hp := h.item (i := pool R B O2 l) (by simp)
 have hd := h.dj
 rw [List.pairwise_cons, List.pairwise_cons] at hd
 obtain ⟨hr1, hp1, hH⟩ := hd
 refine ⟨fun i hi => ?_, fun i hi => ?_, ?_, fun s hs => (h.kp s hs).mono fun k _ ⟨i, hi, hk⟩ => ?_⟩
 ·rcases List.mem_cons.1 hi with rfl | hi
  ·intro z hz
   rcases List.mem_append.1 hz with hz | hz
   ·exact R.mono (fun k hk => ⟨hk.1, .inr hk.2⟩) (hp z hz)
   ·obtain rfl := List.mem_singleton.1 hz
    refine hx ?_
    rcases Nat.eq_zero_or_pos xs.length with h0 | h0
    ·exact .inr (List.eq_nil_of_length_eq_zero h0)
    ·obtain ⟨a, h1, h2, h3⟩ := SlAt.of_row hr h0
     refine .inl ⟨a, h1, ⟨?_, hr.1 a h1⟩, h3⟩
     rcases hr.2.2 with ⟨h4, h5⟩ | ⟨g, cap', cur, h4, h5, _⟩
     ·simp only [Value.slice.injEq] at h4
      rw [h4.1] at h1; cases h1
     ·simp only [Value.slice.injEq] at h4
      rw [h4.1] at h1
      obtain rfl := Option.some.inj h1
      exact h5
  ·exact h.holds i (by simp [hi])
 ·rcases List.mem_cons.1 hi with rfl | hi
  ·rintro k ⟨h1, h2 | h2⟩
   ·exact h.lt (row B O q m cap e 1 xs) (by simp) k ⟨h1, h2⟩
   ·exact h.lt (pool R B O2 l) (by simp) k ⟨h1, h2⟩
  ·exact h.lt i (by simp [hi])
 ·refine List.pairwise_cons.2 ⟨fun j hj k hk hj2 => ?_, hH⟩
  obtain ⟨h1, h2 | h2⟩ := hk
  ·exact hr1 j (by simp [hj]) k ⟨h1, h2⟩ hj2
  ·exact hp1 j hj k ⟨h1, h2⟩ hj2
 ·rcases List.mem_cons.1 hi with rfl | hi
  ·exact ⟨_, .head _, hk.1, .inl hk.2⟩
  ·rcases List.mem_cons.1 hi with rfl | hi
   ·exact ⟨_, .head _, hk.1, .inr hk.2⟩
   ·exact ⟨i, by simp [hi], hk⟩
end Go.Eng
