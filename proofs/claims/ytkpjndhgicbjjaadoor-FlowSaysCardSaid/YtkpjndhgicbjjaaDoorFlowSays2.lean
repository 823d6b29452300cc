/- Texts of the proof of FlowSays, part 2: rules of a calculus for walking, plain laws, and walks of the functions that the law reaches. No condition. -/
import Derived.Test.YtkpjndhgicbjjaaDoorProg
import Derived.LaidEqlPtr
import Derived.Lib.Builder
import Derived.Laws.Pointers
import Derived.Sort.Grow
import Derived.Shelf.Lays
import Derived.Test.YtkpjndhgicbjjaaDoorFlowSays1
set_option linter.unusedVariables false
set_option linter.unusedSimpArgs false
/- Sets of functions held together: a row of flags for each block; into, by rows. Conditions: none. -/
namespace Go.Co
open Go.Eng
def setI (t : TypeId) (n : Nat) (R : FR) (p : Nat × Nat) : Eng.Item := blk p.2 t (u64s (wordsB n (R.getD p.1 [])))
def setsI (t : TypeId) (n : Nat) (R : FR) (P : List (Nat × Nat)) : List Eng.Item := P.map (setI t n R)
theorem two_perm {P : List (Nat × Nat)} {x y : Nat × Nat} (hx : x ∈ P) (hy : y ∈ P) (hne : x ≠ y) : ∃ L, P.Perm (x :: y :: L) :=
 ⟨(P.erase x).erase y, (List.perm_cons_erase hx).trans (List.Perm.cons _ (List.perm_cons_erase ((List.mem_erase_of_ne (fun h => hne h.symm)).2 hy)))⟩
theorem getD_in_ne {R : FR} {p q r : Nat} (h : r ≠ p) : (inR R p q).getD r [] = R.getD r [] := by
 unfold inR
 simp only [List.getD_eq_getElem?_getD]
 rw [List.getElem?_set_ne (fun k => h k.symm)]
theorem getD_in_self {R : FR} {p q : Nat} (h : p < R.length) : (inR R p q).getD p [] = orR (R.getD p []) (R.getD q []) := by
 unfold inR
 simp [List.getD_eq_getElem?_getD, h]
theorem sets_other {t : TypeId} {n : Nat} {R : FR} {p q : Nat} {L : List (Nat × Nat)} (h : ∀ x ∈ L, x.1 ≠ p) : setsI t n (inR R p q) L = setsI t n R L := by
 refine List.map_congr_left fun x hx => ?_
 unfold setI
 rw [getD_in_ne (h x hx)]
end Go.Co
namespace Go.Proofs.YtkpjndhgicbjjaaDoor.co
open Go.RowKit Go.Eng Go.Co
set_option maxRecDepth 100000
theorem words_small {n : Nat} {r : List Bool} : ∀ x ∈ wordsB n r, x < 18446744073709551616 := by
 intro x hx
 unfold wordsB at hx
 obtain ⟨i, _, rfl⟩ := List.mem_map.1 hx
 exact word_lt r i
theorem intoR_calls (bs B n m : Nat) (cE cN cM cH cA : Value) (mv : Bool) (R : FR) (P : List (Nat × Nat)) (p b q c : Nat) (ca cb : Nat) (hd : FDim n m R) (hn : n ≤ 4096) (hpm : p < m) (hqm : q < m) (hp : (p, b) ∈ P) (hq : (q, c) ∈ P) (hne : p ≠ q) (hnd : (P.map Prod.fst).Nodup) (hB : ∀ x ∈ P, B ≤ x.2) (H : List Eng.Item) (S : List World) (w : World)
  (hc : Cls (blk bs 56 [cE, cN, cM, cH, cA, .bool mv] :: bag B (setsI 67 n R P) :: H) S w) :
  Calls Tryd.prog 46 [.pointer (some ⟨bs, 0, none⟩), .slice (some ⟨b, 0, none⟩) (n / 64 + 1) ca, .slice (some ⟨c, 0, none⟩) (n / 64 + 1) cb].toArray w fun e w' => e = .returned (.tuple #[]) ∧
   Cls (blk bs 56 [cE, cN, cM, cH, cA, .bool (mv || !decide (inR R p q = R))] :: bag B (setsI 67 n (inR R p q) P) :: H) S w' := by
 obtain ⟨L, hL⟩ := two_perm hp hq (fun h => hne (congrArg Prod.fst h))
 have hnd2 := ((hL.map Prod.fst).nodup_iff.1 hnd)
 simp only [List.map_cons, List.nodup_cons, List.mem_cons, not_or] at hnd2
 have hoth : ∀ x ∈ L, x.1 ≠ p := fun x hx h => hnd2.1.2 (List.mem_map.2 ⟨x, hx, h⟩)
 have hlp := hd.at hpm
 have hlq := hd.at hqm
 have hbB := hB _ hp
 have hcB := hB _ hq
 have h2 := (hc.perm (List.Perm.swap _ _ _)).bag_perm (hL.map (setI 67 n R))
 have h4 := (h2.bag_out.perm (List.Perm.swap _ _ _)).bag_out
 have h5 : Cls (blk bs 56 [cE, cN, cM, cH, cA, .bool mv] :: blk b 67 (u64s (wordsB n (R.getD p []))) :: blk c 67 (u64s (wordsB n (R.getD q []))) :: bag B (setsI 67 n R L) :: H) S w :=
  h4.perm (((List.perm_append_comm (l₁ := [_, _, _]) (l₂ := [_])).trans (List.Perm.cons _ ((List.perm_append_comm (l₁ := [_, _]) (l₂ := [_])).trans (List.Perm.cons _ (.refl _))))).append_right H)
 have hcall := into_calls bs b c cE cN cM cH cA mv (wordsB n (R.getD p [])) (wordsB n (R.getD q [])) (by rw [wordsB_len, wordsB_len]) words_small words_small (by rw [wordsB_len]; omega) ca cb _ S w h5
 rw [wordsB_len, wordsB_len] at hcall
 refine hcall.mono fun e w' ⟨h6, h7⟩ => ⟨h6, ?_⟩
 rw [moved_rows hd hpm hqm, orW_words (hlp.trans hlq.symm)] at h7
 have h8 : Cls (blk c 67 (u64s (wordsB n (R.getD q []))) :: bag B (setsI 67 n R L) :: blk b 67 (u64s (wordsB n (orR (R.getD p []) (R.getD q [])))) :: blk bs 56 [cE, cN, cM, cH, cA, .bool (mv || !decide (inR R p q = R))] :: H) S w' :=
  h7.perm (((List.perm_append_comm (l₁ := [_, _]) (l₂ := [_, _])).trans (List.Perm.cons _ (List.Perm.cons _ (List.Perm.swap _ _ _)))).append_right H)
 have h9 := h8.bag_in (fun k hk => by rw [show k = c from hk]; exact hcB)
 have h10 := (h9.perm (List.Perm.swap _ _ _)).bag_in (fun k hk => by rw [show k = b from hk]; exact hbB)
 have e1 : setsI 67 n (inR R p q) ((p, b) :: (q, c) :: L) = blk b 67 (u64s (wordsB n (orR (R.getD p []) (R.getD q [])))) :: blk c 67 (u64s (wordsB n (R.getD q []))) :: setsI 67 n R L := by
  show setI 67 n (inR R p q) (p, b) :: setI 67 n (inR R p q) (q, c) :: setsI 67 n (inR R p q) L = _
  rw [sets_other hoth]
  unfold setI
  rw [getD_in_self (by rw [hd.len]; exact hpm), getD_in_ne (fun h => hne h.symm)]
 rw [← e1] at h10
 exact (h10.bag_perm (hL.map (setI 67 n (inR R p q))).symm).perm (List.Perm.swap _ _ _)
theorem intoS_calls (bs B n : Nat) (cE cN cM cH cA mv : Value) (R : FR) (P : List (Nat × Nat)) (p b : Nat) (ca cb : Nat) (hn : n ≤ 4096) (hp : (p, b) ∈ P) (hB : ∀ x ∈ P, B ≤ x.2) (H : List Eng.Item) (S : List World) (w : World)
  (hc : Cls (blk bs 56 [cE, cN, cM, cH, cA, mv] :: bag B (setsI 67 n R P) :: H) S w) :
  Calls Tryd.prog 46 [.pointer (some ⟨bs, 0, none⟩), .slice (some ⟨b, 0, none⟩) (n / 64 + 1) ca, .slice (some ⟨b, 0, none⟩) (n / 64 + 1) cb].toArray w fun e w' => e = .returned (.tuple #[]) ∧
   Cls (blk bs 56 [cE, cN, cM, cH, cA, mv] :: bag B (setsI 67 n R P) :: H) S w' := by
 have hL := List.perm_cons_erase hp
 have hbB := hB _ hp
 have h2 := (hc.perm (List.Perm.swap _ _ _)).bag_perm (hL.map (setI 67 n R))
 have h5 : Cls (blk bs 56 [cE, cN, cM, cH, cA, mv] :: blk b 67 (u64s (wordsB n (R.getD p []))) :: bag B (setsI 67 n R (P.erase (p, b))) :: H) S w :=
  h2.bag_out.perm ((List.perm_append_comm (l₁ := [_, _]) (l₂ := [_])).append_right H)
 have hcall := into_same_calls bs b cE cN cM cH cA mv (wordsB n (R.getD p [])) words_small (by rw [wordsB_len]; omega) ca cb _ S w h5
 rw [wordsB_len] at hcall
 refine hcall.mono fun e w' ⟨h6, h7⟩ => ⟨h6, ?_⟩
 have h8 : Cls (blk b 67 (u64s (wordsB n (R.getD p []))) :: bag B (setsI 67 n R (P.erase (p, b))) :: blk bs 56 [cE, cN, cM, cH, cA, mv] :: H) S w' :=
  h7.perm ((List.perm_append_comm (l₁ := [_]) (l₂ := [_, _])).append_right H)
 have h9 := h8.bag_in (fun k hk => by rw [show k = b from hk]; exact hbB)
 exact (h9.bag_perm (hL.map (setI 67 n R)).symm).perm (List.Perm.swap _ _ _)
end Go.Proofs.YtkpjndhgicbjjaaDoor.co

/- Plain: what the checks of core expressions compute. No program in sight. No condition. -/
namespace Go.Co
def firstE {α : Type} (f : α → Int) : List α → Int
 | [] => 0
 | x :: r => if f x = 0 then firstE f r else f x
theorem firstE_drop {α : Type} {f : α → Int} {l : List α} {i : Nat} {x : α} (h : l[i]? = some x) : firstE f (l.drop i) = if f x = 0 then firstE f (l.drop (i + 1)) else f x := by
 obtain ⟨h1, rfl⟩ := List.getElem?_eq_some_iff.1 h
 rw [List.drop_eq_getElem_cons h1, firstE]
theorem firstE_zero {α : Type} {f : α → Int} : ∀ {l : List α}, firstE f l = 0 ↔ ∀ x ∈ l, f x = 0
 | [] => by simp [firstE]
 | x :: r => by
  rw [firstE]
  split
  ·rename_i h
   rw [firstE_zero]
   simp [h]
  ·rename_i h
   simp [h]
def kidsAll (e : List Ex) : List Int := e.flatMap Ex.kids
def kidsTo (e : List Ex) (i j : Nat) : List Int := kidsAll (e.take i) ++ ((e[i]?.map Ex.kids).getD []).take j
theorem kidsTo_zero (e : List Ex) : kidsTo e 0 0 = [] := by simp [kidsTo, kidsAll]
theorem kidsTo_step {e : List Ex} {i j : Nat} {x : Ex} {k : Int} (hx : e[i]? = some x) (hk : x.kids[j]? = some k) : kidsTo e i (j + 1) = kidsTo e i j ++ [k] := by
 simp [kidsTo, hx, List.take_add_one, hk]
theorem kidsTo_next {e : List Ex} {i : Nat} {x : Ex} (hx : e[i]? = some x) : kidsTo e (i + 1) 0 = kidsTo e i x.kids.length := by
 simp [kidsTo, hx, List.take_add_one, kidsAll]
theorem kidsTo_end (e : List Ex) : kidsTo e e.length 0 = kidsAll e := by simp [kidsTo]
theorem mem_kidsAll {e : List Ex} {k : Int} : k ∈ kidsAll e ↔ ∃ (i : Nat) (x : Ex), e[i]? = some x ∧ k ∈ x.kids := by
 unfold kidsAll
 rw [List.mem_flatMap]
 constructor
 ·rintro ⟨x, hx, hk⟩
  obtain ⟨i, hi⟩ := List.getElem?_of_mem hx
  exact ⟨i, x, hi, hk⟩
 ·rintro ⟨i, x, hx, hk⟩
  exact ⟨x, List.mem_of_getElem? hx, hk⟩
open Classical in
noncomputable def treeE (e : List Ex) : Int :=
 if 4096 < e.length then 2
 else if 0 < e.length ∧ Down e ∧ ∀ i : Nat, i + 1 < e.length → (kidsAll e).count (i : Int) = 1 then (if 400 < high (grow e (e.length - 1)) then 2 else 0)
 else 3
theorem count_two {l : List Int} {k : Int} {a b : Nat} (hab : a < b) (ha : l[a]? = some k) (hb : l[b]? = some k) : 2 ≤ l.count k := by
 have h1 : k ∈ l.take b := List.mem_of_getElem? (i := a) (by rw [List.getElem?_take_of_lt hab]; exact ha)
 have h2 : k ∈ l.drop b := List.mem_of_getElem? (i := 0) (by rw [List.getElem?_drop]; exact hb)
 have := List.take_append_drop b l
 rw [← this, List.count_append]
 have := List.count_pos_iff.2 h1
 have := List.count_pos_iff.2 h2
 omega
theorem kidsAll_place {e : List Ex} {p m : Nat} {x : Ex} {k : Int} (hx : e[p]? = some x) (hk : x.kids[m]? = some k) : (kidsAll e)[(kidsAll (e.take p)).length + m]? = some k := by
 have h1 : kidsAll e = kidsAll (e.take p) ++ (x.kids ++ kidsAll (e.drop (p + 1))) := by
  have hl := (List.getElem?_eq_some_iff.1 hx)
  obtain ⟨hl, rfl⟩ := hl
  have h2 : kidsAll e = kidsAll (e.take p ++ e[p] :: e.drop (p + 1)) := by rw [← List.drop_eq_getElem_cons hl, List.take_append_drop]
  rw [h2]
  simp only [kidsAll, List.flatMap_append, List.flatMap_cons]
 rw [h1, List.getElem?_append_right (by omega), Nat.add_sub_cancel_left, List.getElem?_append_left (List.getElem?_eq_some_iff.1 hk).1]
 exact hk
theorem kidsAll_mono {e : List Ex} {p p' : Nat} {x : Ex} (hx : e[p]? = some x) (hp : p < p') : (kidsAll (e.take p)).length + x.kids.length ≤ (kidsAll (e.take p')).length := by
 have hl := (List.getElem?_eq_some_iff.1 hx).1
 have h1 : e.take p' = e.take (p + 1) ++ (e.take p').drop (p + 1) := by
  conv => lhs; rw [← List.take_append_drop (p + 1) (e.take p')]
  rw [List.take_take, Nat.min_eq_left (by omega)]
 rw [h1]
 simp [kidsAll, List.take_add_one, hx]
theorem isTree_of {e : List Ex} (hd : Down e) (h : ∀ i : Nat, i + 1 < e.length → (kidsAll e).count (i : Int) = 1) : IsTree e where
 down := hd
 one := fun i hi => by
  have h1 := h i hi
  have h2 : (i : Int) ∈ kidsAll e := List.count_pos_iff.1 (by omega)
  obtain ⟨p, x, hx, hk⟩ := mem_kidsAll.1 h2
  obtain ⟨m, hm⟩ := List.getElem?_of_mem hk
  exact ⟨p, m, x, hx, hm⟩
 uniq := fun i p m p' m' h1 h2 => by
  have hlt := (h1.lt hd)
  have hc := h i (by have := hlt.2; omega)
  obtain ⟨x, hx, hk⟩ := h1
  obtain ⟨x', hx', hk'⟩ := h2
  have e1 := kidsAll_place hx hk
  have e2 := kidsAll_place hx' hk'
  have hm := (List.getElem?_eq_some_iff.1 hk).1
  have hm' := (List.getElem?_eq_some_iff.1 hk').1
  rcases Nat.lt_trichotomy p p' with hp | rfl | hp
  ·have := kidsAll_mono hx hp
   have := count_two (a := _) (b := _) (by omega) e1 e2
   omega
  ·rw [hx] at hx'
   obtain rfl := Option.some.inj hx'
   rcases Nat.lt_trichotomy m m' with h3 | rfl | h3
   ·have := count_two (a := _) (b := _) (by omega) e1 e2
    omega
   ·exact ⟨rfl, rfl⟩
   ·have := count_two (a := _) (b := _) (by omega) e2 e1
    omega
  ·have := kidsAll_mono hx' hp
   have := count_two (a := _) (b := _) (by omega) e2 e1
   omega
/-! ### Nodes by themselves -/
def altOk (x : Ex) (i : Nat) (a : Al) : Bool :=
 !((x.alts.take i).any fun b => decide (b.tag = a.tag)) && decide (-1 ≤ a.tag) && !(decide (x.op = 7) && decide (a.tag = -1) && (decide (i + 1 < x.alts.length) || decide (0 < a.binds.length)))
  && !(decide (x.op = 13) && !(decide (i = 0) == decide (a.tag = -1))) && !(decide (x.op = 13) && !decide (a.binds.length = min (i + 1) 2))
def altsOk (x : Ex) : Bool := (List.range x.alts.length).all fun i => altOk x i (x.alts.getD i ⟨0, []⟩)
def altsB (x : Ex) : Bool := altsOk x && decide (x.kids.length = 1 + x.alts.length) && (decide (x.op = 7) || decide (0 < x.alts.length))
def primN (n : Int) : Nat := if n = 7 ∨ n = 9 then 1 else if n = 11 then 3 else 2
def sh (x : Ex) : Option (Nat × Nat × Bool) :=
 if x.op = 0 ∨ x.op = 1 ∨ x.op = 17 then some (0, 0, true)
 else if x.op = 2 then some (1, x.binds.length, false)
 else if x.op = 3 then some (max 1 x.kids.length, 0, false)
 else if x.op = 4 then some (2, 1, false)
 else if x.op = 5 then some (x.binds.length + 1, max 1 x.binds.length, false)
 else if x.op = 6 ∨ x.op = 14 ∨ x.op = 15 then some (x.kids.length, 0, true)
 else if x.op = 8 then (if 0 ≤ x.n ∧ x.n ≤ 11 then some (primN x.n, 0, true) else none)
 else if x.op = 9 then some (x.binds.length, x.binds.length, false)
 else if x.op = 10 ∨ x.op = 12 ∨ x.op = 16 then some (1, 0, true)
 else if x.op = 11 then some (2, 0, true)
 else none
def shapeB (x : Ex) : Bool :=
 if x.op = 7 ∨ x.op = 13 then altsB x && decide (x.binds.length = 0) && decide (x.n = 0)
 else match sh x with
  | none => false
  | some (k, b, u) => decide (x.kids.length = k) && decide (x.binds.length = b) && decide (x.alts.length = 0) && (u || decide (x.n = 0))
def idB (n : Int) : Bool := decide (0 ≤ n) && decide (n ≤ 1048575)
def lowN (op : Int) : Int := if op = 1 then -1073741824 else if op = 17 then 1 else 0
def highN (op : Int) : Int := if op = 1 then 1073741823 else if op = 6 then 255 else if op = 17 then 6 else if op = 16 then 15 else 1048575
def altR (op : Int) (a : Al) : Bool := !(decide (255 < a.tag) && decide (op = 7) || decide (1048576 ≤ a.tag)) && a.binds.all idB
def rangesOk (x : Ex) : Bool := decide (lowN x.op ≤ x.n) && decide (x.n ≤ highN x.op) && x.binds.all idB && x.alts.all (altR x.op)
def wide (x : Ex) : Nat := x.alts.foldl (fun m a => max m a.binds.length) x.binds.length
def rangesE (x : Ex) : Int :=
 if rangesOk x = false then 4
 else if (if x.op = 2 then 6 else 16) < wide x ∨ ((x.op = 6 ∨ x.op = 15) ∧ 16 < x.kids.length) ∨ (x.op = 3 ∧ 7 < x.kids.length) ∨ (x.op = 14 ∧ 6 < x.kids.length) then 2 else 0
def bindOk (e : List Ex) (x : Ex) (i : Nat) : Bool :=
 !(decide (x.op = 5) && !decide ((e.getD (x.kids.getD i 0).toNat ⟨0, 0, [], [], []⟩).op = 2) || decide (x.op = 9) && decide (0 < i) && !decide (x.binds.getD (i - 1) 0 < x.binds.getD i 0))
def kidsB (e : List Ex) (x : Ex) : Bool := (List.range x.binds.length).all (bindOk e x)
def nodeE (e : List Ex) (x : Ex) : Int := if shapeB x = false then 3 else if ¬ rangesE x = 0 then rangesE x else if kidsB e x = false then 3 else 0
def flatBad (flat : Bool) (op : Int) : Bool := flat && (decide (op = 2) || decide (op = 5) || decide (op = 12) || decide (op = 13)) || !flat && (decide (op = 14) || decide (op = 15) || decide (op = 16))
def bindersX (x : Ex) : List Int := (if x.op = 2 ∨ x.op = 4 ∨ x.op = 5 then x.binds else []) ++ x.alts.flatMap Al.binds
open Classical in
noncomputable def bodyE (e : List Ex) (params : List Int) (flat : Bool) : Int :=
 if ¬ treeE e = 0 then treeE e
 else if ¬ firstE (fun x => if flatBad flat x.op then 3 else nodeE e x) e = 0 then firstE (fun x => if flatBad flat x.op then 3 else nodeE e x) e
 else if ¬ (params ++ e.flatMap bindersX).Nodup then 7
 else if ∃ n ∈ fv (grow e (e.length - 1)) [], ¬ n ∈ params then 6 else 0
end Go.Co

/- Grown rows of structs: their elements read in place, the last ones taken away. General. No condition. -/
namespace Go.Eng
open Go.RowKit
section
variable {P : Program} {n : Nm} {l : Env} {C : World → Prop} {Q : Exit → Act → World → Prop}
theorem W.joinx {G : Type} {code r : Code} (Φ : G → Prop) (lg : G → Env) (Cg : G → World → Prop) (h1 : W P n code (Exit.then (fun a w => ∃ g, Φ g ∧ Sees n (lg g) a ∧ Cg g w) Q) l C) (h2 : ∀ g, Φ g → W P n r Q (lg g) (Cg g)) : W P n code (Exit.then (wpp n.r P r Q) Q) l C :=
 ⟨fun a w hs hc => wpp_mono (h1.run a w hs hc) fun e a' w' hq => by
  cases e with
  | normal =>
   obtain ⟨g, hg, hs', hc'⟩ := hq
   exact (h2 g hg).run a' w' hs' hc'
  | _ => exact hq⟩
theorem At.joinedx {G : Type} {Φ : G → Prop} {lg : G → Env} {Cg : G → World → Prop} (g : G) (hg : Φ g) (hs : Sub l (lg g)) (hc : ∀ w, C w → Cg g w) : At n (Exit.then (fun a w => ∃ g, Φ g ∧ Sees n (lg g) a ∧ Cg g w) Q) .normal l C := ⟨fun a w s c => ⟨g, hg, s.sub hs, hc w c⟩⟩
end
theorem row_cap {w : World} {base m cap size : Nat} {O : Nat → Prop} {q : Option Addr} {e : TypeId} {xs : List Value} (h : (row base O q m cap e size xs).holds w) : m ≤ cap := by
 rcases h.2.2 with ⟨h3, h4⟩ | ⟨g, cap', cur, h3, _, _, hn, _⟩
 ·omega
 ·simp only [Value.slice.injEq] at h3
  omega
def fieldT (P : Program) (t : TypeId) (i : Nat) : Option (TypeId × Nat) := match P.underlying t with
 | some (.struct fs) => match fs[i]? with
  | some f => match lit f.offset with
   | some o => match scalB P f.type with
    | true => some (f.type, o)
    | false => none
   | none => none
  | none => none
 | _ => none
section
variable {P : Program} {n : Nm} {l : Env} {H : List Item} {S : List World} {C : World → Prop} {c : Bool} {d : Option Nat} {ty : TypeId} {pos : String} {af : Array Edge} {g : Option (Nat × Bool)} {t : TypeId} {x : Operand} {cx : Bool}
variable {α : Type} {f : α → List Value} {sz : Nat}
theorem Pev.pick_off {x y z : Operand} {cx cz b : Bool} {v : Value} (hx : evl l x = some (cx, .bool b)) (hc : c = true → cx = true) (hb : c = true → b = false) (hz : evl l z = some (cz, v)) (hcz : c = true → cz = true) : Pev P n l C ⟨d, .pick x y z, ty, pos, af, g⟩ c v :=
 .of_run fun h a w hs hw => by
  rw [run_pick (hs.eval hx (hc h)), hb h, cond_false, hs.eval hz (hcz h)]
theorem Pev.pick_on {x y z : Operand} {cx cy b : Bool} {v : Value} (hx : evl l x = some (cx, .bool b)) (hc : c = true → cx = true) (hb : c = true → b = true) (hy : evl l y = some (cy, v)) (hcy : c = true → cy = true) : Pev P n l C ⟨d, .pick x y z, ty, pos, af, g⟩ c v :=
 .of_run fun h a w hs hw => by
  rw [run_pick (hs.eval hx (hc h)), hb h, cond_true, hs.eval hy (hcy h)]
theorem Pev.field {i o : Nat} {ft : TypeId} {cs : List Value} {v : Value} (hx : evl l x = some (cx, .agg cs.toArray)) (hcx : c = true → cx = true) (hf : fieldT P t i = some (ft, o)) (hv : cs[o]? = some v) : Pev P n l C ⟨d, .field t x i, ty, pos, af, g⟩ c v :=
 .of_run fun h a w hs hw => by
  unfold fieldT at hf
  cases hu : P.underlying t with
  | none => simp [hu] at hf
  | some dd =>
   rw [hu] at hf
   cases dd <;> simp only [reduceCtorEq] at hf
   rename_i fs
   cases hi : fs[i]? with
   | none => simp [hi] at hf
   | some f =>
    simp only [hi] at hf
    cases ho : lit f.offset with
    | none => simp [ho] at hf
    | some o' =>
     simp only [ho] at hf
     cases hb : scalB P f.type with
     | false => simp [hb] at hf
     | true =>
      simp only [hb] at hf
      simp only [Option.some.injEq, Prod.mk.injEq] at hf
      obtain ⟨_, rfl⟩ := hf
      have h2 := lit_eq ho
      simp [execOp, Instr.field, Sem.run_bind, run_underlying hu, hs.eval hx (hcx h), hi, asAgg, part, run_isAgg_scal hb, h2, hv]
end
end Go.Eng

/- A pile of slices: rows that are finished, with the blocks that they own. General. No condition. -/
namespace Go.Eng
open Go.RowKit
structure Sl where
 q : Option Addr
 cap : Nat
 xs : List Value
theorem cell_heap {w w' : World} {a : Addr} (h : w'.heap[a.block]? = w.heap[a.block]?) : w'.cell? a = w.cell? a := by
 unfold World.cell?
 rw [h]
def pile (B : Nat) (O : Nat → Prop) (L : List Sl) : Item :=
 ⟨fun k => B ≤ k ∧ O k, fun w => ∀ s ∈ L, 0 < s.xs.length → ∃ a, s.q = some a ∧ (B ≤ a.block ∧ O a.block) ∧ CellsAt w a s.xs, fun w w' hk h s hs hl => by
  obtain ⟨a, h1, h2, h3⟩ := h s hs hl
  exact ⟨a, h1, h2, fun j v hj => by rw [cell_heap (w := w) (hk _ (by rw [add_block]; exact h2))]; exact h3 j v hj⟩⟩
theorem pile_some {w : World} {B : Nat} {O : Nat → Prop} {L : List Sl} {s : Sl} (h : (pile B O L).holds w) (hs : s ∈ L) (hl : 0 < s.xs.length) : ∃ a, s.q = some a := by
 obtain ⟨a, h1, _⟩ := h s hs hl
 exact ⟨a, h1⟩
theorem NotOwned.pile {H : List Item} {B k : Nat} {O : Nat → Prop} {L : List Sl} (h : k < B) (r : NotOwned H k) : NotOwned (Eng.pile B O L :: H) k := NotOwned.any (fun ho => Nat.not_le_of_lt h ho.1) r
section
variable {P : Program} {n : Nm} {l : Env} {H : List Item} {S : List World} {C : World → Prop} {c : Bool} {d : Option Nat} {ty : TypeId} {pos : String} {af : Array Edge} {g : Option (Nat × Bool)}
variable {t : TypeId} {x : Operand} {cx : Bool}
theorem Cls.pile_nil {w : World} (h : Cls H S w) (B : Nat) : Cls (pile B (fun _ => False) [] :: H) S w :=
 h.add (Keep.refl _ w) _ (fun s hs => by cases hs) (fun k hk => hk.2.elim)
theorem Pev.load_pile {a : Addr} {k B : Nat} {O : Nat → Prop} {L : List Sl} {s : Sl} {v : Value} (hx : evl l x = some (cx, .pointer (some (a.add k)))) (hcx : c = true → cx = true) (hp : pile B O L ∈ H) (hs : scalB P t = true)
  (hL : s ∈ L) (hq : s.q = some a) (hv : s.xs[k]? = some v) : Pev P n l (Cls H S) ⟨d, .load t x, ty, pos, af, g⟩ c v :=
 .load_of hx hcx fun _ w hw => run_loadVar_scal hs (by
  obtain ⟨a', h1, _, h3⟩ := hw.item hp s hL (by have := (List.getElem?_eq_some_iff.1 hv).1; omega)
  rw [hq] at h1
  obtain rfl := Option.some.inj h1
  exact h3 k v hv)
end
end Go.Eng

/- Readings as relations: nested structs and slices as plain data, wherever they lie; items for memory that is finished. General. No condition. -/
namespace Go.Eng
open Go.RowKit Go.ChangeShapes Go.WideShapes Go.ChangeAt
structure Rel (α μ : Type) where
 sz : Nat
 pos : 0 < sz
 cells : α → μ → List Value
 ok : World → (Nat → Prop) → α → μ → Prop
 len : ∀ x y, (cells x y).length = sz
 stab : ∀ {w w' : World} {O : Nat → Prop} {x y}, (∀ k, O k → w'.heap[k]? = w.heap[k]?) → ok w O x y → ok w' O x y
 mono : ∀ {w : World} {O O' : Nat → Prop} {x y}, (∀ k, O k → O' k) → ok w O x y → ok w O' x y
abbrev low (w : World) (k : Nat) : Prop := k < w.heap.size
def fresh (w w' : World) (k : Nat) : Prop := w.heap.size ≤ k ∧ k < w'.heap.size
section
variable {α μ : Type} {R : Rel α μ} {w w' : World} {O O' : Nat → Prop} {l : List (α × μ)} {q : Option Addr}
abbrev Rel.c (R : Rel α μ) (p : α × μ) : List Value := R.cells p.1 p.2
theorem Rel.clen (R : Rel α μ) (p : α × μ) : (R.c p).length = R.sz := R.len _ _
structure Arr (R : Rel α μ) (w : World) (O : Nat → Prop) (l : List (α × μ)) (q : Option Addr) : Prop where
 at_ : 0 < l.length → ∃ a, q = some a ∧ O a.block ∧ CellsAt w a (cat R.c l)
 el : ∀ p ∈ l, R.ok w O p.1 p.2
theorem cells_stab {a : Addr} {cs : List Value} (h : w'.heap[a.block]? = w.heap[a.block]?) (hc : CellsAt w a cs) : CellsAt w' a cs := fun j v hj => by
 rw [cell_heap (w := w) (by rw [add_block]; exact h)]
 exact hc j v hj
theorem Arr.stab (hk : ∀ k, O k → w'.heap[k]? = w.heap[k]?) (h : Arr R w O l q) : Arr R w' O l q :=
 ⟨fun hl => by
  obtain ⟨a, h1, h2, h3⟩ := h.at_ hl
  exact ⟨a, h1, h2, cells_stab (hk _ h2) h3⟩, fun p hp => R.stab hk (h.el p hp)⟩
theorem Arr.mono (hk : ∀ k, O k → O' k) (h : Arr R w O l q) : Arr R w O' l q :=
 ⟨fun hl => by
  obtain ⟨a, h1, h2, h3⟩ := h.at_ hl
  exact ⟨a, h1, hk _ h2, h3⟩, fun p hp => R.mono hk (h.el p hp)⟩
theorem Arr.nil : Arr R w O [] q := ⟨fun h => by simp at h, fun p h => by cases h⟩
theorem Arr.get (h : Arr R w O l q) {i : Nat} (hi : i < l.length) : ∃ a p, q = some a ∧ O a.block ∧ l[i]? = some p ∧ CellsAt w (a.add (i * R.sz)) (R.cells p.1 p.2) ∧ R.ok w O p.1 p.2 := by
 obtain ⟨a, h1, h2, h3⟩ := h.at_ (by omega)
 have hp : l[i]? = some l[i] := List.getElem?_eq_getElem hi
 exact ⟨a, l[i], h1, h2, hp, fun j v hj => by rw [add_add]; exact h3 _ _ (cat_get (f := R.c) R.clen hp j v hj), h.el _ (List.getElem_mem hi)⟩
theorem Arr.take (h : Arr R w O l q) (n : Nat) : Arr R w O (l.take n) q :=
 ⟨fun hl => by
  obtain ⟨a, h1, h2, h3⟩ := h.at_ (by simp at hl; omega)
  refine ⟨a, h1, h2, fun j v hj => h3 j v ?_⟩
  have hjl := (List.getElem?_eq_some_iff.1 hj).1
  rw [← cat_take (f := R.c) R.clen l n] at hj hjl
  rw [List.length_take] at hjl
  rwa [List.getElem?_take_of_lt (by omega)] at hj, fun p hp => h.el p (List.mem_of_mem_take hp)⟩
theorem Arr.slAt (h : Arr R w (low w) l q) : SlAt w w.heap.size q (cat R.c l) := fun hv => by
 rw [cat_length (f := R.c) R.clen] at hv
 obtain ⟨a, h1, h2, h3⟩ := h.at_ (Nat.pos_of_mul_pos_right hv)
 exact ⟨a, h1, h2, h3⟩
def ArrP (R : Rel α μ) (w : World) (O : Nat → Prop) (l : List α) (q : Option Addr) : Prop := ∃ ps : List (α × μ), ps.map Prod.fst = l ∧ Arr R w O ps q
theorem ArrP.stab {l : List α} (hk : ∀ k, O k → w'.heap[k]? = w.heap[k]?) (h : ArrP R w O l q) : ArrP R w' O l q := by
 obtain ⟨ps, h1, h2⟩ := h
 exact ⟨ps, h1, h2.stab hk⟩
theorem ArrP.mono {l : List α} (hk : ∀ k, O k → O' k) (h : ArrP R w O l q) : ArrP R w O' l q := by
 obtain ⟨ps, h1, h2⟩ := h
 exact ⟨ps, h1, h2.mono hk⟩
theorem ArrP.nil : ArrP R w O [] q := ⟨[], rfl, Arr.nil⟩
theorem Cls.same {H : List Item} {S : List World} (h : Cls H S w') (hs : w ∈ S) (hno : ∀ k, k < w.heap.size → NotOwned H k) : ∀ k, low w k → w'.heap[k]? = w.heap[k]? :=
 fun k hk => (h.kp w hs).block k hk (hno k hk).not
theorem Cls.up {H : List Item} {S : List World} (h : Cls H S w') (hs : w ∈ S) : ∀ k, low w k → low w' k :=
 fun k hk => Nat.lt_of_lt_of_le hk (h.kp w hs).size
theorem Rel.at {H : List Item} {S : List World} {x : α} {y : μ} (h : R.ok w (low w) x y) (hw : Cls H S w') (hs : w ∈ S) (hno : ∀ k, k < w.heap.size → NotOwned H k) : R.ok w' (low w') x y :=
 R.mono (hw.up hs) (R.stab (hw.same hs hno) h)
theorem Arr.at {H : List Item} {S : List World} (h : Arr R w (low w) l q) (hw : Cls H S w') (hs : w ∈ S) (hno : ∀ k, k < w.heap.size → NotOwned H k) : Arr R w' (low w') l q :=
 Arr.mono (hw.up hs) (Arr.stab (hw.same hs hno) h)
theorem ArrP.at {l : List α} {H : List Item} {S : List World} (h : ArrP R w (low w) l q) (hw : Cls H S w') (hs : w ∈ S) (hno : ∀ k, k < w.heap.size → NotOwned H k) : ArrP R w' (low w') l q :=
 ArrP.mono (hw.up hs) (ArrP.stab (hw.same hs hno) h)
theorem Rel.ext {x : α} {y : μ} (h : R.ok w (low w) x y) (hx : Ext w w') : R.ok w' (low w') x y :=
 R.mono (fun k hk => Nat.lt_of_lt_of_le hk hx.size) (R.stab (fun k hk => hx.block k hk id) h)
theorem Arr.ext (h : Arr R w (low w) l q) (hx : Ext w w') : Arr R w' (low w') l q :=
 Arr.mono (fun k hk => Nat.lt_of_lt_of_le hk hx.size) (Arr.stab (fun k hk => hx.block k hk id) h)
/-! ### Finished things that the call owns -/
def pool (R : Rel α μ) (B : Nat) (O : Nat → Prop) (l : List (α × μ)) : Item :=
 ⟨fun k => B ≤ k ∧ O k, fun w => ∀ p ∈ l, R.ok w (fun k => B ≤ k ∧ O k) p.1 p.2, fun w w' hk h p hp => R.stab hk (h p hp)⟩
theorem NotOwned.pool {H : List Item} {B k : Nat} {O : Nat → Prop} {l : List (α × μ)} (h : k < B) (r : NotOwned H k) : NotOwned (Eng.pool R B O l :: H) k := NotOwned.any (fun ho => Nat.not_le_of_lt h ho.1) r
theorem Cls.pool_nil {H : List Item} {S : List World} (h : Cls H S w) (R : Rel α μ) (B : Nat) : Cls (pool R B (fun _ => False) [] :: H) S w :=
 h.add (Keep.refl _ w) _ (fun s hs => by cases hs) (fun k hk => hk.2.elim)
theorem Arr.of {B m cap : Nat} {O1 O2 : Nat → Prop} {e : TypeId} (h1 : (row B O1 q m cap e R.sz (cat R.c l)).holds w) (h2 : (pool R B O2 l).holds w) : Arr R w (fun k => B ≤ k ∧ (O1 k ∨ O2 k)) l q where
 at_ := fun hl => by
  have hc : 0 < (cat R.c l).length := by
   rw [cat_length (f := R.c) R.clen]
   exact Nat.mul_pos hl R.pos
  obtain ⟨a, h3, _, h5⟩ := SlAt.of_row h1 hc
  have h6 := h1.1 a h3
  refine ⟨a, h3, ⟨?_, .inl h6⟩, h5⟩
  rcases h1.2.2 with ⟨h7, _⟩ | ⟨g, cap', cur, h7, hb, _⟩
  ·simp only [Value.slice.injEq] at h7
   rw [h7.1] at h3; cases h3
  ·simp only [Value.slice.injEq] at h7
   rw [h7.1] at h3
   obtain rfl := Option.some.inj h3
   exact hb
 el := fun p hp => R.mono (fun k hk => ⟨hk.1, .inr hk.2⟩) (h2 p hp)
theorem Cls.fresh2 {H : List Item} {S : List World} {B : Nat} {O1 O2 : Nat → Prop} {i j : Item} (h : Cls H S w') (hi : i ∈ H) (hj : j ∈ H) (e1 : i.own = fun k => B ≤ k ∧ O1 k) (e2 : j.own = fun k => B ≤ k ∧ O2 k) (hB : w.heap.size ≤ B) : ∀ k, (B ≤ k ∧ (O1 k ∨ O2 k)) → fresh w w' k := by
 rintro k ⟨h1, h2 | h2⟩
 ·exact ⟨Nat.le_trans hB h1, h.lt i hi k (by rw [e1]; exact ⟨h1, h2⟩)⟩
 ·exact ⟨Nat.le_trans hB h1, h.lt j hj k (by rw [e2]; exact ⟨h1, h2⟩)⟩
theorem Cls.arr {H : List Item} {S : List World} {B m cap : Nat} {O1 O2 : Nat → Prop} {e : TypeId} (h : Cls H S w) (h1 : row B O1 q m cap e R.sz (cat R.c l) ∈ H) (h2 : pool R B O2 l ∈ H) : Arr R w (low w) l q :=
 (Arr.of (h.item h1) (h.item h2)).mono (by
  rintro k ⟨hb, ho | ho⟩
  ·exact h.lt _ h1 k ⟨hb, ho⟩
  ·exact h.lt _ h2 k ⟨hb, ho⟩)
theorem Cls.arrF {H : List Item} {S : List World} {B m cap : Nat} {O1 O2 : Nat → Prop} {e : TypeId} (h : Cls H S w') (h1 : row B O1 q m cap e R.sz (cat R.c l) ∈ H) (h2 : pool R B O2 l ∈ H) (hB : w.heap.size ≤ B) : Arr R w' (fresh w w') l q :=
 (Arr.of (h.item h1) (h.item h2)).mono (h.fresh2 h1 h2 rfl rfl hB)
end
/-! ### Types -/
def tyc (t : Ty) (y : Option Addr × Nat) : List Value := [.int .i64 t.kind, .string t.name, .int .i64 t.var, .slice y.1 t.args.length y.2]
mutual
def TyO (s : World) (O : Nat → Prop) : Ty → Option Addr × Nat → Prop
 | .mk k nm v «as», y => I64 k ∧ I64 v ∧ («as».length : Int) ≤ 9223372036854775807 ∧ (0 < «as».length → ∃ a, y.1 = some a ∧ O a.block ∧ TyOs s O «as» a)
def TyOs (s : World) (O : Nat → Prop) : List Ty → Addr → Prop
 | [], _ => True
 | t :: r, a => (∃ y, CellsAt s a (tyc t y) ∧ TyO s O t y) ∧ TyOs s O r (a.add 4)
end
mutual
theorem TyO.stab {w w' : World} {O : Nat → Prop} (hk : ∀ k, O k → w'.heap[k]? = w.heap[k]?) : ∀ {t : Ty} {y : Option Addr × Nat}, TyO w O t y → TyO w' O t y
 | .mk k nm v «as», y, h => by
  simp only [TyO] at h ⊢
  obtain ⟨h1, h2, h3, h4⟩ := h
  refine ⟨h1, h2, h3, fun hl => ?_⟩
  obtain ⟨a, ha, hb, hall⟩ := h4 hl
  exact ⟨a, ha, hb, TyOs.stab hk hb hall⟩
theorem TyOs.stab {w w' : World} {O : Nat → Prop} (hk : ∀ k, O k → w'.heap[k]? = w.heap[k]?) : ∀ {«as» : List Ty} {a : Addr}, O a.block → TyOs w O «as» a → TyOs w' O «as» a
 | [], _, _, _ => by simp only [TyOs]
 | t :: r, a, hb, h => by
  simp only [TyOs] at h ⊢
  obtain ⟨⟨y, h1, h2⟩, h3⟩ := h
  exact ⟨⟨y, cells_stab (hk _ hb) h1, TyO.stab hk h2⟩, TyOs.stab hk (by rw [add_block]; exact hb) h3⟩
end
mutual
theorem TyO.mono {w : World} {O O' : Nat → Prop} (hk : ∀ k, O k → O' k) : ∀ {t : Ty} {y : Option Addr × Nat}, TyO w O t y → TyO w O' t y
 | .mk k nm v «as», y, h => by
  simp only [TyO] at h ⊢
  obtain ⟨h1, h2, h3, h4⟩ := h
  refine ⟨h1, h2, h3, fun hl => ?_⟩
  obtain ⟨a, ha, hb, hall⟩ := h4 hl
  exact ⟨a, ha, hk _ hb, TyOs.mono hk hall⟩
theorem TyOs.mono {w : World} {O O' : Nat → Prop} (hk : ∀ k, O k → O' k) : ∀ {«as» : List Ty} {a : Addr}, TyOs w O «as» a → TyOs w O' «as» a
 | [], _, _ => by simp only [TyOs]
 | t :: r, a, h => by
  simp only [TyOs] at h ⊢
  obtain ⟨⟨y, h1, h2⟩, h3⟩ := h
  exact ⟨⟨y, h1, TyO.mono hk h2⟩, TyOs.mono hk h3⟩
end
def tyR : Rel Ty (Option Addr × Nat) where
 sz := 4
 pos := by decide
 cells := tyc
 ok := TyO
 len := fun _ _ => rfl
 stab := fun hk h => TyO.stab hk h
 mono := fun hk h => TyO.mono hk h
theorem TyOs.list {w : World} {O : Nat → Prop} : ∀ {«as» : List Ty} {a : Addr}, TyOs w O «as» a → ∃ ps : List (Ty × (Option Addr × Nat)), ps.map Prod.fst = «as» ∧ CellsAt w a (cat tyR.c ps) ∧ ∀ p ∈ ps, TyO w O p.1 p.2
 | [], a, _ => ⟨[], rfl, fun j v hj => by simp [cat] at hj, fun p hp => by cases hp⟩
 | t :: r, a, h => by
  simp only [TyOs] at h
  obtain ⟨⟨y, h1, h2⟩, h3⟩ := h
  obtain ⟨ps, h4, h5, h6⟩ := TyOs.list h3
  refine ⟨(t, y) :: ps, by simp [h4], fun j v hj => ?_, fun p hp => ?_⟩
  ·rw [cat] at hj
   by_cases e : j < 4
   ·rw [List.getElem?_append_left (by exact e)] at hj
    exact h1 j v hj
   ·rw [List.getElem?_append_right (by show 4 ≤ j; omega)] at hj
    have := h5 _ v hj
    rw [add_add] at this
    rwa [show 4 + (j - (tyR.c (t, y)).length) = j from by show 4 + (j - 4) = j; omega] at this
  ·rcases List.mem_cons.1 hp with rfl | hp
   ·exact h2
   ·exact h6 p hp
theorem TyO.parts {w : World} {O : Nat → Prop} {k v : Int} {nm : ByteArray} {«as» : List Ty} {y : Option Addr × Nat} (h : TyO w O (.mk k nm v «as») y) : I64 k ∧ I64 v ∧ «as».length ≤ 9223372036854775807 ∧ ∃ ps : List (Ty × (Option Addr × Nat)), ps.map Prod.fst = «as» ∧ Arr tyR w O ps y.1 := by
 simp only [TyO] at h
 obtain ⟨h1, h2, h3, h4⟩ := h
 refine ⟨h1, h2, by omega, ?_⟩
 cases «as» with
 | nil => exact ⟨[], rfl, Arr.nil⟩
 | cons t r =>
  obtain ⟨a, ha, hb, hall⟩ := h4 (by simp)
  obtain ⟨ps, h5, h6, h7⟩ := hall.list
  exact ⟨ps, h5, fun _ => ⟨a, ha, hb, h6⟩, h7⟩
mutual
theorem TyO.of_C {w : World} {B : Nat} : ∀ {t : Ty} {cs : List Value}, TyC w B t cs → ∃ y, cs = tyc t y ∧ TyO w (fun k => k < B) t y
 | .mk k nm v «as», cs, h => by
  simp only [TyC] at h
  obtain ⟨q, cap, rfl, h2, h3, h4, h5⟩ := h
  refine ⟨(q, cap), rfl, ?_⟩
  simp only [TyO]
  refine ⟨h2, h3, h4, fun hl => ?_⟩
  obtain ⟨a, ha, hb, hall⟩ := h5 hl
  exact ⟨a, ha, hb, TyOs.of_C hall⟩
theorem TyOs.of_C {w : World} {B : Nat} : ∀ {«as» : List Ty} {a : Addr}, TyAll w B «as» a → TyOs w (fun k => k < B) «as» a
 | [], _, _ => by simp only [TyOs]
 | t :: r, a, h => by
  simp only [TyAll] at h
  simp only [TyOs]
  obtain ⟨⟨cs, h1, h2⟩, h3⟩ := h
  obtain ⟨y, rfl, h4⟩ := TyO.of_C h2
  exact ⟨⟨y, h1, h4⟩, TyOs.of_C h3⟩
end
/-! ### Reading arguments -/
section
variable {H : Type} {enc : TypeId × Value → H} {P : Program} {w : World} {spare : Nat → Bool} {held : Bool} {α μ : Type} {R : Rel α μ}
end
end Go.Eng

/- Core expressions as they lie in memory. No condition. -/
namespace Go.Co
open Go.Eng Go.RowKit
abbrev Sc := Option Addr × Nat
def ints (l : List Int) : List Value := l.map fun x => .int .i64 x
theorem ints_length (l : List Int) : (ints l).length = l.length := by simp [ints]
theorem ints_get {l : List Int} {i : Nat} {x : Int} (h : l[i]? = some x) : (ints l)[i]? = some (.int .i64 x) := by simp [ints, h]
theorem ints_append (l m : List Int) : ints (l ++ m) = ints l ++ ints m := by simp [ints]
def IntsO (w : World) (O : Nat → Prop) (l : List Int) (q : Option Addr) : Prop := 0 < l.length → ∃ a, q = some a ∧ O a.block ∧ CellsAt w a (ints l)
theorem IntsO.stab {w w' : World} {O : Nat → Prop} {l : List Int} {q : Option Addr} (hk : ∀ k, O k → w'.heap[k]? = w.heap[k]?) (h : IntsO w O l q) : IntsO w' O l q := fun hl => by
 obtain ⟨a, h1, h2, h3⟩ := h hl
 exact ⟨a, h1, h2, cells_stab (hk _ h2) h3⟩
theorem IntsO.mono {w : World} {O O' : Nat → Prop} {l : List Int} {q : Option Addr} (hk : ∀ k, O k → O' k) (h : IntsO w O l q) : IntsO w O' l q := fun hl => by
 obtain ⟨a, h1, h2, h3⟩ := h hl
 exact ⟨a, h1, hk _ h2, h3⟩
theorem IntsO.nil {w : World} {O : Nat → Prop} {q : Option Addr} : IntsO w O [] q := fun h => by simp at h
theorem IntsO.get {w : World} {O : Nat → Prop} {l : List Int} {q : Option Addr} (h : IntsO w O l q) {i : Nat} (hi : i < l.length) : ∃ a u, q = some a ∧ O a.block ∧ l[i]? = some u ∧ w.cell? (a.add (i * 1)) = some (.int .i64 u) := by
 obtain ⟨a, h1, h2, h3⟩ := h (by omega)
 have hu : l[i]? = some l[i] := List.getElem?_eq_getElem hi
 exact ⟨a, l[i], h1, h2, hu, by rw [Nat.mul_one]; exact h3 i _ (ints_get hu)⟩
theorem IntsO.slAt {w : World} {l : List Int} {q : Option Addr} (h : IntsO w (low w) l q) : SlAt w w.heap.size q (ints l) := fun hv => by
 rw [ints_length] at hv
 exact h hv
theorem IntsO.at {w w' : World} {l : List Int} {q : Option Addr} {H : List Eng.Item} {S : List World} (h : IntsO w (low w) l q) (hw : Cls H S w') (hs : w ∈ S) (hno : ∀ k, k < w.heap.size → NotOwned H k) : IntsO w' (low w') l q :=
 IntsO.mono (hw.up hs) (IntsO.stab (hw.same hs hno) h)
theorem IntsO.ext {w w' : World} {l : List Int} {q : Option Addr} (h : IntsO w (low w) l q) (hx : Ext w w') : IntsO w' (low w') l q :=
 IntsO.mono (fun k hk => Nat.lt_of_lt_of_le hk hx.size) (IntsO.stab (fun k hk => hx.block k hk id) h)
def altC (a : Al) (y : Sc) : List Value := [.int .i64 a.tag, .slice y.1 a.binds.length y.2]
def altR_ : Rel Al Sc where
 sz := 2
 pos := by decide
 cells := altC
 ok := fun w O a y => I64 a.tag ∧ (a.binds.length ≤ 140737488355328 ∧ a.binds.length ≤ y.2) ∧ IntsO w O a.binds y.1
 len := fun _ _ => rfl
 stab := fun hk h => ⟨h.1, h.2.1, h.2.2.stab hk⟩
 mono := fun hk h => ⟨h.1, h.2.1, h.2.2.mono hk⟩
structure ExY where
 b : Sc
 k : Sc
 a : Sc
def exC (x : Ex) (y : ExY) : List Value := [.int .i64 x.op, .int .i64 x.n, .slice y.b.1 x.binds.length y.b.2, .slice y.k.1 x.kids.length y.k.2, .slice y.a.1 x.alts.length y.a.2]
structure ExOk (w : World) (O : Nat → Prop) (x : Ex) (y : ExY) : Prop where
 op : I64 x.op
 n : I64 x.n
 bl : x.binds.length ≤ 140737488355328
 kl : x.kids.length ≤ 140737488355328
 al : x.alts.length ≤ 140737488355328
 bc : x.binds.length ≤ y.b.2
 kc : x.kids.length ≤ y.k.2
 ac : x.alts.length ≤ y.a.2
 b : IntsO w O x.binds y.b.1
 k : IntsO w O x.kids y.k.1
 a : ArrP altR_ w O x.alts y.a.1
theorem ExOk.stab {w w' : World} {O : Nat → Prop} {x : Ex} {y : ExY} (hk : ∀ k, O k → w'.heap[k]? = w.heap[k]?) (h : ExOk w O x y) : ExOk w' O x y :=
 ⟨h.op, h.n, h.bl, h.kl, h.al, h.bc, h.kc, h.ac, h.b.stab hk, h.k.stab hk, h.a.stab hk⟩
theorem ExOk.mono {w : World} {O O' : Nat → Prop} {x : Ex} {y : ExY} (hk : ∀ k, O k → O' k) (h : ExOk w O x y) : ExOk w O' x y :=
 ⟨h.op, h.n, h.bl, h.kl, h.al, h.bc, h.kc, h.ac, h.b.mono hk, h.k.mono hk, h.a.mono hk⟩
def exR : Rel Ex ExY where
 sz := 5
 pos := by decide
 cells := exC
 ok := ExOk
 len := fun _ _ => rfl
 stab := ExOk.stab
 mono := ExOk.mono
theorem ExOk.at {w w' : World} {x : Ex} {y : ExY} {H : List Eng.Item} {S : List World} (h : ExOk w (low w) x y) (hw : Cls H S w') (hs : w ∈ S) (hno : ∀ k, k < w.heap.size → NotOwned H k) : ExOk w' (low w') x y :=
 ExOk.mono (hw.up hs) (ExOk.stab (hw.same hs hno) h)
theorem ExOk.ext {w w' : World} {x : Ex} {y : ExY} (h : ExOk w (low w) x y) (hx : Ext w w') : ExOk w' (low w') x y :=
 ExOk.mono (fun k hk => Nat.lt_of_lt_of_le hk hx.size) (ExOk.stab (fun k hk => hx.block k hk id) h)
theorem ExOk.alts {w : World} {O : Nat → Prop} {x : Ex} {y : ExY} (h : ExOk w O x y) : ∃ ps : List (Al × Sc), ps.map Prod.fst = x.alts ∧ Arr altR_ w O ps y.a.1 := h.a
end Go.Co

/- The walks of core's between, flatOnly, coreOnly, alts, with slices.ContainsFunc at alternatives. Conditions: none. -/
namespace Go.Co
open Go.Eng Go.RowKit
def idxA (f : Al → Bool) : List (Al × Sc) → Nat → Int
 | [], _ => -1
 | p :: r, i => if f p.1 then (i : Int) else idxA f r (i + 1)
theorem idxA_drop {f : Al → Bool} {ps : List (Al × Sc)} {i : Nat} {p : Al × Sc} (h : ps[i]? = some p) : idxA f (ps.drop i) i = if f p.1 then (i : Int) else idxA f (ps.drop (i + 1)) (i + 1) := by
 obtain ⟨h1, rfl⟩ := List.getElem?_eq_some_iff.1 h
 rw [List.drop_eq_getElem_cons h1, idxA]
theorem idxA_any (f : Al → Bool) : ∀ (ps : List (Al × Sc)) (i : Nat), decide (0 ≤ idxA f ps i) = ps.any fun p => f p.1
 | [], i => rfl
 | p :: r, i => by
  rw [idxA, List.any_cons]
  split
  ·rename_i h
   rw [h, Bool.true_or]
   simp
  ·rename_i h
   rw [idxA_any f r (i + 1), Bool.eq_false_iff.2 h, Bool.false_or]
theorem all_range {n : Nat} {f : Nat → Bool} (h : ∀ i, i < n → f i = true) : (List.range n).all f = true := by
 rw [List.all_eq_true]
 intro i hi
 exact h i (List.mem_range.1 hi)
theorem not_all_range {n i : Nat} {f : Nat → Bool} (hi : i < n) (h : f i = false) : (List.range n).all f = false := by
 rw [List.all_eq_false]
 exact ⟨i, List.mem_range.2 hi, by simp [h]⟩
end Go.Co
namespace Go.Proofs.YtkpjndhgicbjjaaDoor.co
open Go.RowKit Go.Eng Go.Co
set_option maxRecDepth 100000
theorem between_calls (n lo hi : Int) (w : World) : Calls Tryd.prog 64 [.int .i64 n, .int .i64 lo, .int .i64 hi].toArray w fun e w' => e = .returned (.bool (decide (lo ≤ n) && decide (n ≤ hi))) ∧ Ext w w' := by
 refine enter Tryd.func64 rfl Tryd.ntmps64 rfl (Cls.start w) ?_
 (simp only [argEnv, Nat.zero_add, Nat.reduceAdd])
 apply W.sr
 apply oas; rfl; rfl
 apply OL.nsr
 apply omv; rfl; rfl
 apply omv; rfl; rfl
 apply obn; rfl; rfl; rfl; apply Bin.geq
 apply omv; rfl; rfl
 apply oy; rfl; rfl; rfl; apply Pev.move; rfl; exact yes
 apply oy; rfl; rfl; rfl; apply Pev.move; rfl; exact yes
 apply oy; rfl; rfl; rfl; apply Pev.bin; rfl; exact fun h => h; rfl; exact fun h => h; intro hcond; apply Bin.leq
 apply oop; rfl; apply Pev.pick_and; rfl; exact yes; rfl; exact fun h => h
 apply oas; rfl; rfl
 apply OL.nx
 apply W.ret
 ((with_reducible apply At.fin1); rfl; rfl; intro w' hw')
 exact ⟨by simp, by (exact hw'.fr)⟩
theorem flatOnly_calls (op : Int) (w : World) : Calls Tryd.prog 39 [.int .i64 op].toArray w fun e w' => e = .returned (.bool (decide (op = 14) || decide (op = 15) || decide (op = 16))) ∧ Ext w w' := by
 refine enter Tryd.func39 rfl Tryd.ntmps39 rfl (Cls.start w) ?_
 (simp only [argEnv, Nat.zero_add, Nat.reduceAdd])
 apply W.sr
 apply oas; rfl; rfl
 apply OL.nsr
 apply omv; rfl; rfl
 apply obn; rfl; rfl; rfl; apply Bin.eql
 apply omv; rfl; rfl
 apply ono; rfl; rfl; rfl; apply Pev.move; rfl; exact yes
 apply ono; rfl; rfl; rfl; apply Pev.bin; rfl; exact fun h => h; rfl; exact yes; intro hcond; apply Bin.eql
 apply oop; rfl; apply Pev.pick_or; rfl; exact yes; rfl; exact fun h => h
 apply omv; rfl; rfl
 apply ono; rfl; rfl; rfl; apply Pev.move; rfl; exact yes
 apply ono; rfl; rfl; rfl; apply Pev.bin; rfl; exact fun h => h; rfl; exact yes; intro hcond; apply Bin.eql
 apply oop; rfl; apply Pev.pick_or; rfl; exact yes; rfl; exact fun h => h
 apply oas; rfl; rfl
 apply OL.nx
 apply W.ret
 ((with_reducible apply At.fin1); rfl; rfl; intro w' hw')
 exact ⟨by simp, by (exact hw'.fr)⟩
theorem coreOnly_calls (op : Int) (w : World) : Calls Tryd.prog 38 [.int .i64 op].toArray w fun e w' => e = .returned (.bool (decide (op = 2) || decide (op = 5) || decide (op = 12) || decide (op = 13))) ∧ Ext w w' := by
 refine enter Tryd.func38 rfl Tryd.ntmps38 rfl (Cls.start w) ?_
 (simp only [argEnv, Nat.zero_add, Nat.reduceAdd])
 apply W.sr
 apply oas; rfl; rfl
 apply OL.nsr
 apply omv; rfl; rfl
 apply obn; rfl; rfl; rfl; apply Bin.eql
 apply omv; rfl; rfl
 apply ono; rfl; rfl; rfl; apply Pev.move; rfl; exact yes
 apply ono; rfl; rfl; rfl; apply Pev.bin; rfl; exact fun h => h; rfl; exact yes; intro hcond; apply Bin.eql
 apply oop; rfl; apply Pev.pick_or; rfl; exact yes; rfl; exact fun h => h
 apply omv; rfl; rfl
 apply ono; rfl; rfl; rfl; apply Pev.move; rfl; exact yes
 apply ono; rfl; rfl; rfl; apply Pev.bin; rfl; exact fun h => h; rfl; exact yes; intro hcond; apply Bin.eql
 apply oop; rfl; apply Pev.pick_or; rfl; exact yes; rfl; exact fun h => h
 apply omv; rfl; rfl
 apply ono; rfl; rfl; rfl; apply Pev.move; rfl; exact yes
 apply ono; rfl; rfl; rfl; apply Pev.bin; rfl; exact fun h => h; rfl; exact yes; intro hcond; apply Bin.eql
 apply oop; rfl; apply Pev.pick_or; rfl; exact yes; rfl; exact fun h => h
 apply oas; rfl; rfl
 apply OL.nx
 apply W.ret
 ((with_reducible apply At.fin1); rfl; rfl; intro w' hw')
 exact ⟨by simp, by (exact hw'.fr)⟩
theorem AIndexFunc_calls (q : Option Addr) (cap : Nat) (ps : List (Al × Sc)) (f : FuncId) (first caps : List Value) (p : Al → Bool) (w : World) (hlen : ps.length ≤ 9223372036854775807) (h : Arr altR_ w (low w) ps q)
  (hf : callable Tryd.prog f = true) (hp : ∀ s ∈ ps, ∀ w', Ext w w' → Calls Tryd.prog f (first ++ [Value.agg (altC s.1 s.2).toArray] ++ caps).toArray w' fun e w'' => e = .returned (.bool (p s.1)) ∧ Ext w' w'') :
  Calls Tryd.prog 81 #[.slice q ps.length cap, .func (.func f) first.toArray caps.toArray] w fun e w' => e = .returned (.int .i64 (idxA p ps 0)) ∧ Ext w w' := by
 refine enter Tryd.func81 rfl Tryd.ntmps81 rfl (Cls.start w) ?_
 (simp only [argEnv, Nat.zero_add, Nat.reduceAdd])
 apply W.sr
 apply oas; rfl; rfl
 apply OL.nx
 apply W.seq
 apply W.sr
 apply omv; rfl; rfl
 apply oop; rfl; apply Pev.len_slice; rfl; exact yes; rfl
 apply omv; rfl; rfl
 apply OL.nx
 apply W.block
 refine W.loop (G := Nat) (fun i => i ≤ ps.length ∧ idxA p (ps.drop i) i = idxA p ps 0) (fun i => ps.length - i)
  (fun i => [(8, true, .int .i64 (i : Int)), (7, true, .int .i64 (ps.length : Int)), (0, true, .slice q ps.length cap), (1, true, .func (.func f) first.toArray caps.toArray)])
  (fun i => Cls [] [w]) 0 ⟨by omega, rfl⟩ (by exact Sub.au) (fun w' hw' => hw') ?_
 rintro i ⟨hi, hrest⟩
 apply W.sr
 apply obn; rfl; rfl; rfl; apply Bin.lss
 apply OL.nx
 apply W.seq
 (refine W.cnd (fun hlt => ?_) (fun hlt => ?_)) <;> (try (exfalso; first | omega | exact hlt trivial | contradiction))
 ·obtain ⟨a, u, rfl, hab, hu, hcell, hok⟩ := h.get (show i < ps.length by omega)
  have hab : a.block < w.heap.size := hab
  have hcell : CellsAt w (a.add (i * 2)) [.int .i64 u.1.tag, .slice u.2.1 u.1.binds.length u.2.2] := hcell
  have hpu := fun w3 => hp u (List.mem_of_getElem? hu) w3
  simp only [altC] at hpu
  rw [idxA_drop hu] at hrest
  apply W.sk
  apply W.sb
  apply W.sr
  apply omv; rfl; rfl
  apply oas; rfl; rfl
  apply OL.nsr
  apply omv; rfl; rfl
  apply omv; rfl; rfl
  apply omv; rfl; rfl
  apply oop; rfl; apply Pev.idx; rfl; exact yes; rfl; exact yes; rfl; rfl; intro hcond; omega
  apply oop; rfl; apply Pev.load_keptA; rfl; exact yes; exact .head _; rfl; intro hcond; assumption; rfl; intro hcond; (rw [add_block]; assumption); intro hcond; exact NotOwned.au
  (((first | (with_reducible apply OL.op) | (with_reducible apply QL.op)); (exact Guard.au); rfl; rfl); (apply Pev.callv (first := first) (cap := caps)); rfl; ((first | exact fun _ => rfl | exact fun h => h | (intro h; simp_all; done))); (exact hf); (exact Args.au); (exact (fun _ w2 hw2 => (hpu w2 (hw2.toExt (by exact mau) (fun k hk => by exact NotOwned.au))).mono (fun e w3 h => ⟨h.1, hw2.ext h.2⟩))))
  apply OL.nx
  refine W.cond rfl (fun heq => ?_) (fun heq => ?_)
  ·rw [if_pos heq] at hrest
   apply W.sr
   apply omv; rfl; rfl
   apply oas; rfl; rfl
   apply OL.nx
   refine W.rt ?_
   ((with_reducible apply At.fin1); rfl; rfl; intro w' hw')
   exact ⟨by rw [hrest], by (exact hw'.fr)⟩
  ·rw [if_neg (by simpa using heq)] at hrest
   apply W.skip
   with_reducible apply At.in_normal
   with_reducible apply At.next
   apply W.reg
   apply obn; rfl; rfl; rfl; apply Bin.add_in; omega
   apply omv; rfl; rfl
   apply OL.nil
   exact At.again (i + 1) ⟨by omega, hrest⟩ (by omega) (by exact Sub.au) (fun w' hw' => hw'.thin (by exact Thin.au))
 ·rw [List.drop_eq_nil_of_le (by omega), idxA] at hrest
  refine W.xt ?_
  with_reducible apply At.next
  apply W.sr
  apply oas; rfl; rfl
  apply OL.nx
  apply W.ret
  ((with_reducible apply At.fin1); rfl; rfl; intro w' hw')
  exact ⟨by rw [← hrest], by (exact hw'.fr)⟩
theorem AContainsFunc_calls (q : Option Addr) (cap : Nat) (ps : List (Al × Sc)) (f : FuncId) (first caps : List Value) (p : Al → Bool) (w : World) (hlen : ps.length ≤ 9223372036854775807) (h : Arr altR_ w (low w) ps q)
  (hf : callable Tryd.prog f = true) (hp : ∀ s ∈ ps, ∀ w', Ext w w' → Calls Tryd.prog f (first ++ [Value.agg (altC s.1 s.2).toArray] ++ caps).toArray w' fun e w'' => e = .returned (.bool (p s.1)) ∧ Ext w' w'') :
  Calls Tryd.prog 68 #[.slice q ps.length cap, .func (.func f) first.toArray caps.toArray] w fun e w' => e = .returned (.bool (ps.any fun x => p x.1)) ∧ Ext w w' := by
 refine enter Tryd.func68 rfl Tryd.ntmps68 rfl (Cls.start w) ?_
 (simp only [argEnv, Nat.zero_add, Nat.reduceAdd])
 apply W.sr
 apply oas; rfl; rfl
 apply OL.nsr
 apply omv; rfl; rfl
 apply omv; rfl; rfl
 (((first | (with_reducible apply OL.op) | (with_reducible apply QL.op)); (exact Guard.au); rfl; rfl); (exact Pev.call rfl (by exact Args.au) (fun _ w2 hw2 => (AIndexFunc_calls q cap ps f first caps p w2 hlen (h.at hw2 (by exact mau) (fun k hk => by exact NotOwned.au)) hf (fun s hs w3 h3 => hp s hs w3 ((hw2.toExt (s := w) (by exact mau) (fun k hk => by exact NotOwned.au)).trans h3))).mono (fun e w3 h => ⟨h.1, hw2.ext h.2⟩))))
 apply obn; rfl; rfl; rfl; apply Bin.geq
 apply oas; rfl; rfl
 apply OL.nx
 apply W.ret
 ((with_reducible apply At.fin1); rfl; rfl; intro w' hw')
 exact ⟨by rw [← idxA_any p ps 0], by (exact hw'.fr)⟩
theorem alit_calls (a : Al) (y : Sc) (b : Nat) (tag : Int) (w : World) (hc : w.cell? ⟨b, 0, none⟩ = some (.int .i64 tag)) (hb : b < w.heap.size) :
  Calls Tryd.prog 69 [.agg (altC a y).toArray, .pointer (some ⟨b, 0, none⟩)].toArray w fun e w' => e = .returned (.bool (decide (a.tag = tag))) ∧ Ext w w' := by
 refine enter Tryd.func69 rfl Tryd.ntmps69 rfl (Cls.start w) ?_
 (simp only [argEnv, Nat.zero_add, Nat.reduceAdd])
 simp only [altC]
 apply W.sr
 apply OL.box; rfl; rfl; exact CellsL.agg; (intro bk hbk; simp only [AllLe, and_true] at hbk)
 apply oas; rfl; rfl
 apply OL.nsr
 apply ofa; rfl; rfl; rfl
 apply old; rfl; rfl; exact .head _; rfl; rfl
 apply ofa; rfl; rfl; rfl
 apply oop; rfl; apply Pev.load_kept; rfl; exact yes; exact .head _; rfl; intro hcond; assumption; intro hcond; assumption; intro hcond; exact NotOwned.au
 apply obn; rfl; rfl; rfl; apply Bin.eql
 apply oas; rfl; rfl
 apply OL.nx
 apply W.ret
 ((with_reducible apply At.fin1); rfl; rfl; intro w' hw')
 exact ⟨rfl, by (exact hw'.fr)⟩
theorem alts_calls (x : Ex) (y : ExY) (w : World) (h : ExOk w (low w) x y) :
  Calls Tryd.prog 63 [.agg (exC x y).toArray].toArray w fun e w' => e = .returned (.bool (altsB x)) ∧ Ext w w' := by
 obtain ⟨ps, hps, harr⟩ := h.alts
 have hpl : x.alts.length = ps.length := by rw [← hps, List.length_map]
 have hal := h.al
 have hkl := h.kl
 have hac := h.ac
 refine enter Tryd.func63 rfl Tryd.ntmps63 rfl (Cls.start w) ?_
 (simp only [argEnv, Nat.zero_add, Nat.reduceAdd])
 simp only [exC]
 apply W.sr
 apply OL.box; rfl; rfl; exact CellsL.agg; (intro bk hbk; simp only [AllLe, and_true] at hbk)
 apply oas; rfl; rfl
 apply OL.nx
 apply W.seq
 apply W.sr
 apply ofa; rfl; rfl; rfl
 apply old; rfl; rfl; exact .head _; rfl; rfl
 apply oop; rfl; apply Pev.len_slice; rfl; exact yes; rfl
 apply omv; rfl; rfl
 apply OL.nx
 apply W.block
 rw [hpl]
 refine W.loop (G := Nat) (fun i => i ≤ ps.length ∧ ∀ j, j < i → altOk x j (x.alts.getD j ⟨0, []⟩) = true) (fun i => ps.length - i)
  (fun i => [(1, true, .pointer (some ⟨bk, 0, none⟩)), (7, true, .slice y.a.1 ps.length y.a.2), (8, true, .int .i64 (ps.length : Int)), (9, true, .int .i64 (i : Int))])
  (fun i => Cls [blk bk 43 [.int .i64 x.op, .int .i64 x.n, .slice y.b.1 x.binds.length y.b.2, .slice y.k.1 x.kids.length y.k.2, .slice y.a.1 ps.length y.a.2]] [w]) 0 ⟨by omega, fun j hj => by omega⟩ (by exact Sub.au) (fun w' hw' => by first | exact hw' | (rw [hpl] at hw'; exact hw')) ?_
 rintro i ⟨hi, hall⟩
 apply W.sr
 apply obn; rfl; rfl; rfl; apply Bin.lss
 apply OL.nx
 apply W.seq
 (refine W.cnd (fun hlt => ?_) (fun hlt => ?_)) <;> (try (exfalso; first | omega | exact hlt trivial | contradiction))
 ·have hil : i < ps.length := by omega
  obtain ⟨a, u, hq, hab, hu, hcell, hok⟩ := harr.get hil
  have hab : a.block < w.heap.size := hab
  have hcell : CellsAt w (a.add (i * 2)) [.int .i64 u.1.tag, .slice u.2.1 u.1.binds.length u.2.2] := hcell
  have hu2 : x.alts.getD i ⟨0, []⟩ = u.1 := by
   have : x.alts[i]? = some u.1 := by rw [← hps, List.getElem?_map, hu]; rfl
   simp [List.getD, this]
  have hbl := hok.2.1
  rw [hq]
  apply W.sk
  apply W.sb
  apply W.sr
  apply omv; rfl; rfl
  apply oop; rfl; apply Pev.idx; rfl; exact yes; rfl; exact yes; rfl; rfl; intro hcond; omega
  apply oop; rfl; apply Pev.load_keptA; rfl; exact yes; exact .head _; rfl; intro hcond; assumption; rfl; intro hcond; (rw [add_block]; assumption); intro hcond; exact NotOwned.au
  apply OL.alloc; rfl; rfl; exact CellsL.agg; (intro bk hbk; simp only [AllLe, and_true] at hbk)
  apply oas; rfl; rfl
  apply OL.storeB; rfl; rfl; exact CellsL.agg; rfl; rfl; rfl; exact Swap.au; exact Put.au
  apply OL.nsr
  apply ofa; rfl; rfl; rfl
  apply old; rfl; rfl; exact .tail _ (.head _); rfl; rfl
  apply omv; rfl; rfl
  apply oop; rfl; apply Pev.slice_hi; rfl; exact yes; rfl; exact yes; rfl; rfl; intro hcond; omega
  apply oop; rfl; apply Pev.makeFunc; exact Args.au; exact Args.au
  rename_i b0 hb0
  have hlT : (ps.take i).length = i := by simp; omega
  have hany : (ps.take i).any (fun z => decide (z.1.tag = u.1.tag)) = (x.alts.take i).any (fun b => decide (b.tag = u.1.tag)) := by
   rw [← hps, ← List.map_take, List.any_map]
   rfl
  (((first | (with_reducible apply OL.op) | (with_reducible apply QL.op)); (exact Guard.au); rfl; rfl); (refine Pev.call (v := .bool ((ps.take i).any (fun z => decide (z.1.tag = u.1.tag)))) (vs := [.slice (some a) i y.a.2, .func (.func 69) ([] : List Value).toArray [Value.pointer (some ⟨bk, 0, none⟩)].toArray]) rfl (by exact Args.au) (fun _ w2 hw2 => ?_)))
  ·have hb : (blk bk 79 [.int .i64 u.1.tag, .slice u.2.1 u.1.binds.length u.2.2]).holds w2 := hw2.item (.head _)
   have hlt := hw2.lt _ (.head _) bk rfl
   have hc := AContainsFunc_calls (some a) y.a.2 (ps.take i) 69 [] [.pointer (some ⟨bk, 0, none⟩)] (fun z => decide (z.tag = u.1.tag)) w2 (by omega) ((hq ▸ harr.take i).at hw2 (by exact mau) (fun k hk => by exact NotOwned.au)) rfl (fun s hs w3 h3 => alit_calls s.1 s.2 bk u.1.tag w3 (by rw [cell_heap (w := w2) (h3.block bk hlt id), blk_cell hb]; rfl) (Nat.lt_of_lt_of_le hlt h3.size))
   rw [hlT] at hc
   exact hc.mono (fun e w3 h => ⟨h.1, hw2.ext h.2⟩)
  rw [hany]
  have hbad : altOk x i u.1 = false → altsB x = false := fun hf => by
   unfold altsB altsOk
   rw [not_all_range (i := i) (by omega) (by rw [hu2]; exact hf)]
   rfl
  have hoki : altOk x i u.1 = (!((x.alts.take i).any fun b => decide (b.tag = u.1.tag)) && decide (-1 ≤ u.1.tag) && !(decide (x.op = 7) && decide (u.1.tag = -1) && (decide (i + 1 < x.alts.length) || decide (0 < u.1.binds.length)))
   && !(decide (x.op = 13) && !(decide (i = 0) == decide (u.1.tag = -1))) && !(decide (x.op = 13) && !decide (u.1.binds.length = min (i + 1) 2))) := rfl
  generalize (x.alts.take i).any (fun b => decide (b.tag = u.1.tag)) = again at hoki
  rw [hpl] at hoki
  apply oas; rfl; rfl
  apply OL.nx
  apply W.block
  apply W.sr
  apply omv; rfl; rfl
  apply omv; rfl; rfl
  apply ono; rfl; rfl; rfl; apply Pev.fld; rfl; exact yes; rfl
  apply ono; rfl; rfl; rfl; apply Pev.load_blk; rfl; exact fun h => h; exact .head _; rfl; rfl
  apply ono; rfl; rfl; rfl; apply Pev.bin; rfl; exact fun h => h; rfl; exact yes; intro hcond; apply Bin.lss
  apply oop; rfl; apply Pev.pick_or; rfl; exact yes; rfl; exact fun h => h
  apply oas; rfl; rfl
  apply OL.nx
  refine W.cond rfl (fun hb => ?_) (fun hb => ?_)
  ·apply W.sr
   apply oas; rfl; rfl
   apply OL.nx
   refine W.rt ?_
   ((with_reducible apply At.fin1); rfl; rfl; intro w' hw')
   refine ⟨by rw [hbad (by rw [hoki]; cases again <;> simp at hb ⊢; omega)], by (exact hw'.fr)⟩
  have hag : again = false := by cases again <;> simp at hb ⊢
  subst hag
  simp only [Bool.false_or, decide_eq_false_iff_not, Int.not_lt] at hb
  apply W.sr
  apply ofa; rfl; rfl; rfl
  apply old; rfl; rfl; exact .tail _ (.head _); rfl; rfl
  apply obn; rfl; rfl; rfl; apply Bin.eql
  apply omv; rfl; rfl
  apply oy; rfl; rfl; rfl; apply Pev.fld; rfl; exact yes; rfl
  apply oy; rfl; rfl; rfl; apply Pev.load_blk; rfl; exact fun h => h; exact .head _; rfl; rfl
  apply oy; rfl; rfl; rfl; apply Pev.bin; rfl; exact fun h => h; rfl; exact yes; intro hcond; apply Bin.eql
  apply oop; rfl; apply Pev.pick_and; rfl; exact yes; rfl; exact fun h => h
  apply omv; rfl; rfl
  apply oy; rfl; rfl; rfl; apply Pev.move; rfl; exact yes
  apply oy; rfl; rfl; rfl; apply Pev.fld; rfl; exact yes; rfl
  apply oy; rfl; rfl; rfl; apply Pev.load_blk; rfl; exact fun h => h; exact .tail _ (.head _); rfl; rfl
  apply oy; rfl; rfl; rfl; apply Pev.len_slice; rfl; exact fun h => h; rfl
  apply oy; rfl; rfl; rfl; apply Pev.bin; rfl; exact fun h => h; rfl; exact yes; intro hcond; apply Bin.sub_in; omega
  apply oy; rfl; rfl; rfl; apply Pev.bin; rfl; exact fun h => h; rfl; exact fun h => h; intro hcond; apply Bin.lss
  apply oy; rfl; rfl; rfl; apply Pev.move; rfl; exact fun h => h
  apply OL.op; exact Guard.cno rfl rfl; rfl; rfl; apply Pev.fld; rfl; exact yes; rfl
  apply OL.op; exact Guard.cno rfl rfl; rfl; rfl; apply Pev.load_blk; rfl; exact fun h => h; exact .head _; rfl; rfl
  apply OL.op; exact Guard.cno rfl rfl; rfl; rfl; apply Pev.len_slice; rfl; exact fun h => h; rfl
  apply OL.op; exact Guard.cno rfl rfl; rfl; rfl; apply Pev.bin; rfl; exact fun h => h; rfl; exact yes; intro hcond; apply Bin.gtr
  apply oy; rfl; rfl; rfl; apply Pev.pick_or; rfl; exact fun h => h; rfl; exact fun h => h
  apply oop; rfl; apply Pev.pick_and; rfl; exact yes; rfl; exact fun h => h
  apply oas; rfl; rfl
  apply OL.nx
  refine W.cond rfl (fun hb2 => ?_) (fun hb2 => ?_)
  ·apply W.sr
   apply oas; rfl; rfl
   apply OL.nx
   refine W.rt ?_
   ((with_reducible apply At.fin1); rfl; rfl; intro w' hw')
   refine ⟨by rw [hbad (by rw [hoki]; simp at hb2; simp [hb2]; grind)], by (exact hw'.fr)⟩
  apply W.seq
  apply W.sr
  apply ofa; rfl; rfl; rfl
  apply old; rfl; rfl; exact .tail _ (.head _); rfl; rfl
  apply obn; rfl; rfl; rfl; apply Bin.eql
  apply omv; rfl; rfl
  apply oy; rfl; rfl; rfl; apply Pev.move; rfl; exact yes
  apply oy; rfl; rfl; rfl; apply Pev.bin; rfl; exact fun h => h; rfl; exact yes; intro hcond; apply Bin.eql
  apply oy; rfl; rfl; rfl; apply Pev.fld; rfl; exact yes; rfl
  apply oy; rfl; rfl; rfl; apply Pev.load_blk; rfl; exact fun h => h; exact .head _; rfl; rfl
  apply oy; rfl; rfl; rfl; apply Pev.bin; rfl; exact fun h => h; rfl; exact yes; intro hcond; apply Bin.eql
  apply oy; rfl; rfl; rfl; apply Pev.bin; rfl; exact fun h => h; rfl; exact fun h => h; intro hcond; apply Bin.bool_neq; rfl
  apply oop; rfl; apply Pev.pick_and; rfl; exact yes; rfl; exact fun h => h
  apply oas; rfl; rfl
  apply OL.nx
  refine W.cond rfl (fun hb3 => ?_) (fun hb3 => ?_)
  ·apply W.sk
   refine W.cond rfl (fun _ => ?_) (fun hb4 => by rw [hb3] at hb4; cases hb4)
   apply W.sr
   apply oas; rfl; rfl
   apply OL.nx
   refine W.rt ?_
   ((with_reducible apply At.fin1); rfl; rfl; intro w' hw')
   refine ⟨by rw [hbad (by rw [hoki]; grind)], by (exact hw'.fr)⟩
  apply W.reg
  apply ofa; rfl; rfl; rfl
  apply old; rfl; rfl; exact .tail _ (.head _); rfl; rfl
  apply obn; rfl; rfl; rfl; apply Bin.eql
  apply omv; rfl; rfl
  apply oy; rfl; rfl; rfl; apply Pev.fld; rfl; exact yes; rfl
  apply oy; rfl; rfl; rfl; apply Pev.load_blk; rfl; exact fun h => h; exact .head _; rfl; rfl
  apply oy; rfl; rfl; rfl; apply Pev.len_slice; rfl; exact fun h => h; rfl
  apply oy; rfl; rfl; rfl; apply Pev.move; rfl; exact yes
  apply oy; rfl; rfl; rfl; apply Pev.bin; rfl; exact fun h => h; rfl; exact yes; intro hcond; apply Bin.add_in; omega
  apply oy; rfl; rfl; rfl; apply Pev.min2; rfl; exact fun h => h; rfl; exact yes
  apply oy; rfl; rfl; rfl; apply Pev.bin; rfl; exact fun h => h; rfl; exact fun h => h; intro hcond; apply Bin.neq
  apply oop; rfl; apply Pev.pick_and; rfl; exact yes; rfl; exact fun h => h
  apply oas; rfl; rfl
  apply OL.nx
  refine W.cond rfl (fun hb4 => ?_) (fun hb4 => ?_)
  ·apply W.sr
   apply oas; rfl; rfl
   apply OL.nx
   refine W.rt ?_
   ((with_reducible apply At.fin1); rfl; rfl; intro w' hw')
   refine ⟨by rw [hbad (by rw [hoki]; grind)], by (exact hw'.fr)⟩
  apply W.skip
  with_reducible apply At.in_normal
  with_reducible apply At.in_normal
  with_reducible apply At.next
  apply W.reg
  apply obn; rfl; rfl; rfl; apply Bin.add_in; omega
  apply omv; rfl; rfl
  apply OL.nil
  refine At.again (i + 1) ⟨by omega, fun j hj => ?_⟩ (by omega) (by exact Sub.au) (fun w' hw' => hw'.thin (by exact Thin.au))
  by_cases e : j = i
  ·subst e
   rw [hu2, hoki]
   grind
  ·exact hall j (by omega)
 ·obtain rfl : i = ps.length := by omega
  have hok : altsOk x = true := by
   unfold altsOk
   rw [hpl]
   exact all_range hall
  refine W.xt ?_
  with_reducible apply At.next
  apply W.sr
  apply ofa; rfl; rfl; rfl
  apply old; rfl; rfl; exact .head _; rfl; rfl
  apply oop; rfl; apply Pev.len_slice; rfl; exact yes; rfl
  apply ofa; rfl; rfl; rfl
  apply old; rfl; rfl; exact .head _; rfl; rfl
  apply oop; rfl; apply Pev.len_slice; rfl; exact yes; rfl
  apply obn; rfl; rfl; rfl; apply Bin.add_in; omega
  apply obn; rfl; rfl; rfl; apply Bin.eql
  apply omv; rfl; rfl
  apply oy; rfl; rfl; rfl; apply Pev.fld; rfl; exact yes; rfl
  apply oy; rfl; rfl; rfl; apply Pev.load_blk; rfl; exact fun h => h; exact .head _; rfl; rfl
  apply oy; rfl; rfl; rfl; apply Pev.bin; rfl; exact fun h => h; rfl; exact yes; intro hcond; apply Bin.eql
  apply oy; rfl; rfl; rfl; apply Pev.move; rfl; exact fun h => h
  apply OL.op; exact Guard.cno rfl rfl; rfl; rfl; apply Pev.fld; rfl; exact yes; rfl
  apply OL.op; exact Guard.cno rfl rfl; rfl; rfl; apply Pev.load_blk; rfl; exact fun h => h; exact .head _; rfl; rfl
  apply OL.op; exact Guard.cno rfl rfl; rfl; rfl; apply Pev.len_slice; rfl; exact fun h => h; rfl
  apply OL.op; exact Guard.cno rfl rfl; rfl; rfl; apply Pev.bin; rfl; exact fun h => h; rfl; exact yes; intro hcond; apply Bin.gtr
  apply oy; rfl; rfl; rfl; apply Pev.pick_or; rfl; exact fun h => h; rfl; exact fun h => h
  apply oop; rfl; apply Pev.pick_and; rfl; exact yes; rfl; exact fun h => h
  apply oas; rfl; rfl
  apply OL.nx
  apply W.ret
  ((with_reducible apply At.fin1); rfl; rfl; intro w' hw')
  refine ⟨congrArg (fun b => Ending.returned (Value.bool b)) ?_, by (exact hw'.fr)⟩
  unfold altsB
  rw [hok, hpl]
  grind
end Go.Proofs.YtkpjndhgicbjjaaDoor.co

/- The walks of core's shape and ranges. Conditions: none. (Printed by cob.py.) -/
namespace Go.Proofs.YtkpjndhgicbjjaaDoor.co
open Go.RowKit Go.Eng Go.Co
set_option maxRecDepth 100000
def arityAt (w : World) : Prop := CellsAt w ⟨1, 0, none⟩ ([2, 2, 2, 2, 2, 2, 2, 1, 2, 1, 2, 3].map fun (z : Int) => Value.int .i64 z)
theorem arity_get {w : World} (h : arityAt w) {k : Int} (hk : 0 ≤ k ∧ k ≤ 11) : w.cell? ⟨1, 0 + k.toNat * 1, none⟩ = some (.int .i64 (primN k : Int)) := by
 have hv : (([2, 2, 2, 2, 2, 2, 2, 1, 2, 1, 2, 3] : List Int).map fun (z : Int) => Value.int .i64 z)[0 + k.toNat * 1]? = some (.int .i64 (primN k : Int)) := by
  have : k = 0 ∨ k = 1 ∨ k = 2 ∨ k = 3 ∨ k = 4 ∨ k = 5 ∨ k = 6 ∨ k = 7 ∨ k = 8 ∨ k = 9 ∨ k = 10 ∨ k = 11 := by omega
  rcases this with rfl | rfl | rfl | rfl | rfl | rfl | rfl | rfl | rfl | rfl | rfl | rfl <;> rfl
 have := h (0 + k.toNat * 1) _ hv
 rwa [add_mid, Nat.zero_add] at this
theorem arityAt.at {w w' : World} {H : List Eng.Item} {S : List World} (h : arityAt w) (hg : 1 < w.heap.size) (hw : Cls H S w') (hs : w ∈ S) (hno : ∀ k, k < w.heap.size → NotOwned H k) : arityAt w' :=
 cells_stab (hw.same hs hno _ hg) h
theorem shape_calls (x : Ex) (y : ExY) (w : World) (h : ExOk w (low w) x y) (hg : 1 < w.heap.size) (hs : arityAt w) :
  Calls Tryd.prog 55 [.agg (exC x y).toArray].toArray w fun e w' => e = .returned (.bool (shapeB x)) ∧ Ext w w' := by
 have hal := h.al
 have hkl := h.kl
 have hbl := h.bl
 refine enter Tryd.func55 rfl Tryd.ntmps55 rfl (Cls.start w) ?_
 (simp only [argEnv, Nat.zero_add, Nat.reduceAdd])
 simp only [exC]
 apply W.sr
 apply OL.box; rfl; rfl; exact CellsL.agg; (intro bk hbk; simp only [AllLe, and_true] at hbk)
 apply oas; rfl; rfl
 apply OL.nsr
 apply oas; rfl; rfl
 apply oas; rfl; rfl
 apply oas; rfl; rfl
 apply OL.nx
 apply W.seq
 apply W.sr
 apply ofa; rfl; rfl; rfl
 apply old; rfl; rfl; exact .head _; rfl; rfl
 apply OL.nx
 refine W.joinx (G := Nat × Nat × Bool) (fun g => sh x = some g ∧ ¬ (x.op = 7 ∨ x.op = 13)) (fun g => [(1, true, .pointer (some ⟨bk, 0, none⟩)), (3, true, .int .i64 (g.1 : Int)), (4, true, .int .i64 (g.2.1 : Int)), (5, true, .bool g.2.2)]) (fun _ => Cls [blk bk 43 [.int .i64 x.op, .int .i64 x.n, .slice y.b.1 x.binds.length y.b.2, .slice y.k.1 x.kids.length y.k.2, .slice y.a.1 x.alts.length y.a.2]] [w]) ?_ ?_
 ·skip
  apply W.block
  apply W.seq
  apply W.sr
  apply obn; rfl; rfl; rfl; apply Bin.eql
  apply oas; rfl; rfl
  apply OL.nx
  (refine W.cnd (fun k1 => ?_) (fun k1 => ?_)) <;> (try (exfalso; first | omega | exact k1 trivial | contradiction))
  ·apply W.sk
   (refine W.cnd (fun kb1 => ?_) (fun kb1 => ?_)) <;> (try (exfalso; first | omega | exact kb1 trivial | contradiction))
   apply W.reg
   apply oas; rfl; rfl
   apply OL.nil
   with_reducible apply At.in_normal
   refine At.joinedx (0, 0, true) ⟨?_, by omega⟩ (by exact Sub.au) (fun w' hw' => hw')
   unfold sh
   grind
  apply W.sr
  apply obn; rfl; rfl; rfl; apply Bin.eql
  apply oas; rfl; rfl
  apply OL.nx
  (refine W.cnd (fun k2 => ?_) (fun k2 => ?_)) <;> (try (exfalso; first | omega | exact k2 trivial | contradiction))
  ·apply W.sk
   (refine W.cnd (fun kb2 => ?_) (fun kb2 => ?_)) <;> (try (exfalso; first | omega | exact kb2 trivial | contradiction))
   apply W.reg
   apply oas; rfl; rfl
   apply OL.nil
   with_reducible apply At.in_normal
   refine At.joinedx (0, 0, true) ⟨?_, by omega⟩ (by exact Sub.au) (fun w' hw' => hw')
   unfold sh
   grind
  apply W.reg
  apply obn; rfl; rfl; rfl; apply Bin.eql
  apply oas; rfl; rfl
  apply OL.nx
  (refine W.cnd (fun k3 => ?_) (fun k3 => ?_)) <;> (try (exfalso; first | omega | exact k3 trivial | contradiction))
  ·apply W.reg
   apply oas; rfl; rfl
   apply OL.nil
   with_reducible apply At.in_normal
   refine At.joinedx (0, 0, true) ⟨?_, by omega⟩ (by exact Sub.au) (fun w' hw' => hw')
   unfold sh
   grind
  apply W.sr
  apply obn; rfl; rfl; rfl; apply Bin.eql
  apply oas; rfl; rfl
  apply OL.nx
  (refine W.cnd (fun k4 => ?_) (fun k4 => ?_)) <;> (try (exfalso; first | omega | exact k4 trivial | contradiction))
  ·apply W.regd0; decide +kernel; kernel_rfl; decide +kernel; exact fun w hw => hw.drew
   apply qfa; rfl; rfl; rfl
   apply qld; rfl; rfl; exact .head _; rfl; rfl
   apply qop; rfl; apply Pev.len_slice; rfl; exact yes; rfl
   apply qas; rfl; rfl
   apply qas; rfl; rfl
   apply QL.nil
   with_reducible apply At.in_normal
   refine At.joinedx (1, x.binds.length, false) ⟨?_, by omega⟩ (by exact Sub.au) (fun w' hw' => hw')
   unfold sh
   grind
  apply W.sr
  apply obn; rfl; rfl; rfl; apply Bin.eql
  apply oas; rfl; rfl
  apply OL.nx
  (refine W.cnd (fun k5 => ?_) (fun k5 => ?_)) <;> (try (exfalso; first | omega | exact k5 trivial | contradiction))
  ·apply W.reg
   apply ofa; rfl; rfl; rfl
   apply old; rfl; rfl; exact .head _; rfl; rfl
   apply oop; rfl; apply Pev.len_slice; rfl; exact yes; rfl
   apply oop; rfl; apply Pev.max2; rfl; exact yes; rfl; exact yes
   apply oas; rfl; rfl
   apply OL.nil
   with_reducible apply At.in_normal
   have em : (if (1 : Int) < (x.kids.length : Int) then (x.kids.length : Int) else 1) = ((max 1 x.kids.length : Nat) : Int) := by rw [Nat.max_def]; split <;> split <;> omega
   rw [em]
   refine At.joinedx (max 1 x.kids.length, 0, false) ⟨?_, by omega⟩ (by exact Sub.au) (fun w' hw' => hw')
   unfold sh
   grind
  apply W.sr
  apply obn; rfl; rfl; rfl; apply Bin.eql
  apply oas; rfl; rfl
  apply OL.nx
  (refine W.cnd (fun k6 => ?_) (fun k6 => ?_)) <;> (try (exfalso; first | omega | exact k6 trivial | contradiction))
  ·apply W.reg
   apply oas; rfl; rfl
   apply oas; rfl; rfl
   apply OL.nil
   with_reducible apply At.in_normal
   refine At.joinedx (2, 1, false) ⟨?_, by omega⟩ (by exact Sub.au) (fun w' hw' => hw')
   unfold sh
   grind
  apply W.sr
  apply obn; rfl; rfl; rfl; apply Bin.eql
  apply oas; rfl; rfl
  apply OL.nx
  (refine W.cnd (fun k7 => ?_) (fun k7 => ?_)) <;> (try (exfalso; first | omega | exact k7 trivial | contradiction))
  ·apply W.regd0; decide +kernel; kernel_rfl; decide +kernel; exact fun w hw => hw.drew
   apply qfa; rfl; rfl; rfl
   apply qld; rfl; rfl; exact .head _; rfl; rfl
   apply qop; rfl; apply Pev.len_slice; rfl; exact yes; rfl
   apply qbn; rfl; rfl; rfl; apply Bin.add_in; omega
   apply qfa; rfl; rfl; rfl
   apply qld; rfl; rfl; exact .head _; rfl; rfl
   apply qop; rfl; apply Pev.len_slice; rfl; exact yes; rfl
   apply qop; rfl; apply Pev.max2; rfl; exact yes; rfl; exact yes
   apply qas; rfl; rfl
   apply qas; rfl; rfl
   apply QL.nil
   with_reducible apply At.in_normal
   have em : (if (1 : Int) < (x.binds.length : Int) then (x.binds.length : Int) else 1) = ((max 1 x.binds.length : Nat) : Int) := by rw [Nat.max_def]; split <;> split <;> omega
   rw [em]
   refine At.joinedx (x.binds.length + 1, max 1 x.binds.length, false) ⟨?_, by omega⟩ (by exact Sub.au) (fun w' hw' => hw')
   unfold sh
   grind
  apply W.sr
  apply obn; rfl; rfl; rfl; apply Bin.eql
  apply oas; rfl; rfl
  apply OL.nx
  (refine W.cnd (fun k8 => ?_) (fun k8 => ?_)) <;> (try (exfalso; first | omega | exact k8 trivial | contradiction))
  ·apply W.reg
   apply ofa; rfl; rfl; rfl
   apply old; rfl; rfl; exact .head _; rfl; rfl
   apply oop; rfl; apply Pev.len_slice; rfl; exact yes; rfl
   apply oas; rfl; rfl
   apply oas; rfl; rfl
   apply OL.nil
   with_reducible apply At.in_normal
   refine At.joinedx (x.kids.length, 0, true) ⟨?_, by omega⟩ (by exact Sub.au) (fun w' hw' => hw')
   unfold sh
   grind
  apply W.seq
  apply W.sr
  apply obn; rfl; rfl; rfl; apply Bin.eql
  apply oas; rfl; rfl
  apply OL.nx
  (refine W.cnd (fun k9 => ?_) (fun k9 => ?_)) <;> (try (exfalso; first | omega | exact k9 trivial | contradiction))
  ·apply W.sk
   (refine W.cnd (fun kb9 => ?_) (fun kb9 => ?_)) <;> (try (exfalso; first | omega | exact kb9 trivial | contradiction))
   apply W.sr
   apply oop; rfl; apply Pev.load_blkA; rfl; exact yes; exact .head _; rfl; exact Take.au
   (((first | (with_reducible apply OL.op) | (with_reducible apply QL.op)); (exact Guard.au); rfl; rfl); (exact Pev.call rfl (by exact Args.au) (fun _ w2 hw2 => (alts_calls x y w2 (h.at hw2 (by exact mau) (fun k hk => by exact NotOwned.au))).mono (fun e w3 h => ⟨h.1, hw2.ext h.2⟩))))
   apply omv; rfl; rfl
   apply oy; rfl; rfl; rfl; apply Pev.fld; rfl; exact yes; rfl
   apply oy; rfl; rfl; rfl; apply Pev.load_blk; rfl; exact fun h => h; exact .head _; rfl; rfl
   apply oy; rfl; rfl; rfl; apply Pev.len_slice; rfl; exact fun h => h; rfl
   apply oy; rfl; rfl; rfl; apply Pev.bin; rfl; exact fun h => h; rfl; exact yes; intro hcond; apply Bin.eql
   apply oop; rfl; apply Pev.pick_and; rfl; exact yes; rfl; exact fun h => h
   apply omv; rfl; rfl
   apply oy; rfl; rfl; rfl; apply Pev.fld; rfl; exact yes; rfl
   apply oy; rfl; rfl; rfl; apply Pev.load_blk; rfl; exact fun h => h; exact .head _; rfl; rfl
   apply oy; rfl; rfl; rfl; apply Pev.bin; rfl; exact fun h => h; rfl; exact yes; intro hcond; apply Bin.eql
   apply oop; rfl; apply Pev.pick_and; rfl; exact yes; rfl; exact fun h => h
   apply oas; rfl; rfl
   apply OL.nx
   refine W.rt ?_
   ((with_reducible apply At.fin1); rfl; rfl; intro w' hw')
   refine ⟨congrArg (fun b => Ending.returned (Value.bool b)) ?_, by (exact hw'.fr)⟩
   unfold shapeB
   grind
  apply W.reg
  apply obn; rfl; rfl; rfl; apply Bin.eql
  apply oas; rfl; rfl
  apply OL.nx
  (refine W.cnd (fun k10 => ?_) (fun k10 => ?_)) <;> (try (exfalso; first | omega | exact k10 trivial | contradiction))
  ·apply W.sr
   apply oop; rfl; apply Pev.load_blkA; rfl; exact yes; exact .head _; rfl; exact Take.au
   (((first | (with_reducible apply OL.op) | (with_reducible apply QL.op)); (exact Guard.au); rfl; rfl); (exact Pev.call rfl (by exact Args.au) (fun _ w2 hw2 => (alts_calls x y w2 (h.at hw2 (by exact mau) (fun k hk => by exact NotOwned.au))).mono (fun e w3 h => ⟨h.1, hw2.ext h.2⟩))))
   apply omv; rfl; rfl
   apply oy; rfl; rfl; rfl; apply Pev.fld; rfl; exact yes; rfl
   apply oy; rfl; rfl; rfl; apply Pev.load_blk; rfl; exact fun h => h; exact .head _; rfl; rfl
   apply oy; rfl; rfl; rfl; apply Pev.len_slice; rfl; exact fun h => h; rfl
   apply oy; rfl; rfl; rfl; apply Pev.bin; rfl; exact fun h => h; rfl; exact yes; intro hcond; apply Bin.eql
   apply oop; rfl; apply Pev.pick_and; rfl; exact yes; rfl; exact fun h => h
   apply omv; rfl; rfl
   apply oy; rfl; rfl; rfl; apply Pev.fld; rfl; exact yes; rfl
   apply oy; rfl; rfl; rfl; apply Pev.load_blk; rfl; exact fun h => h; exact .head _; rfl; rfl
   apply oy; rfl; rfl; rfl; apply Pev.bin; rfl; exact fun h => h; rfl; exact yes; intro hcond; apply Bin.eql
   apply oop; rfl; apply Pev.pick_and; rfl; exact yes; rfl; exact fun h => h
   apply oas; rfl; rfl
   apply OL.nx
   refine W.rt ?_
   ((with_reducible apply At.fin1); rfl; rfl; intro w' hw')
   refine ⟨congrArg (fun b => Ending.returned (Value.bool b)) ?_, by (exact hw'.fr)⟩
   unfold shapeB
   grind
  apply W.sr
  apply obn; rfl; rfl; rfl; apply Bin.eql
  apply oas; rfl; rfl
  apply OL.nx
  (refine W.cnd (fun k11 => ?_) (fun k11 => ?_)) <;> (try (exfalso; first | omega | exact k11 trivial | contradiction))
  ·apply W.seq
   apply W.sr
   apply ofa; rfl; rfl; rfl
   apply old; rfl; rfl; exact .head _; rfl; rfl
   (((first | (with_reducible apply OL.op) | (with_reducible apply QL.op)); (exact Guard.au); rfl; rfl); (exact Pev.call rfl (by exact Args.au) (fun _ w2 hw2 => (between_calls x.n 0 11 w2).mono (fun e w3 h => ⟨h.1, hw2.ext h.2⟩))))
   apply oop; rfl; apply Pev.not; rfl; exact yes
   apply OL.nx
   (refine W.cnd (fun hp => ?_) (fun hp => ?_)) <;> (try (exfalso; first | omega | exact hp trivial | contradiction))
   ·apply W.sr
    apply oas; rfl; rfl
    apply OL.nx
    refine W.rt ?_
    ((with_reducible apply At.fin1); rfl; rfl; intro w' hw')
    refine ⟨congrArg (fun b => Ending.returned (Value.bool b)) ?_, by (exact hw'.fr)⟩
    unfold shapeB sh
    grind
   have hpn : 0 ≤ x.n ∧ x.n ≤ 11 := by omega
   have har := arity_get hs hpn
   apply W.sk
   apply W.reg
   apply ofa; rfl; rfl; rfl
   apply old; rfl; rfl; exact .head _; rfl; rfl
   apply oop; rfl; apply Pev.idxArr; rfl; exact yes; rfl; exact yes; rfl; intro hcond; omega; rfl
   apply oop; rfl; apply Pev.load_kept; rfl; exact yes; exact .head _; rfl; intro hcond; assumption; intro hcond; assumption; intro hcond; exact NotOwned.au
   apply oas; rfl; rfl
   apply oas; rfl; rfl
   apply OL.nil
   with_reducible apply At.in_normal
   refine At.joinedx (primN x.n, 0, true) ⟨?_, by omega⟩ (by exact Sub.au) (fun w' hw' => hw')
   unfold sh
   grind
  apply W.sr
  apply obn; rfl; rfl; rfl; apply Bin.eql
  apply oas; rfl; rfl
  apply OL.nx
  (refine W.cnd (fun k12 => ?_) (fun k12 => ?_)) <;> (try (exfalso; first | omega | exact k12 trivial | contradiction))
  ·apply W.regd0; decide +kernel; kernel_rfl; decide +kernel; exact fun w hw => hw.drew
   apply qfa; rfl; rfl; rfl
   apply qld; rfl; rfl; exact .head _; rfl; rfl
   apply qop; rfl; apply Pev.len_slice; rfl; exact yes; rfl
   apply qfa; rfl; rfl; rfl
   apply qld; rfl; rfl; exact .head _; rfl; rfl
   apply qop; rfl; apply Pev.len_slice; rfl; exact yes; rfl
   apply qas; rfl; rfl
   apply qas; rfl; rfl
   apply QL.nil
   with_reducible apply At.in_normal
   refine At.joinedx (x.binds.length, x.binds.length, false) ⟨?_, by omega⟩ (by exact Sub.au) (fun w' hw' => hw')
   unfold sh
   grind
  apply W.seq
  apply W.sr
  apply obn; rfl; rfl; rfl; apply Bin.eql
  apply oas; rfl; rfl
  apply OL.nx
  (refine W.cnd (fun k13 => ?_) (fun k13 => ?_)) <;> (try (exfalso; first | omega | exact k13 trivial | contradiction))
  ·apply W.sk
   (refine W.cnd (fun kb13 => ?_) (fun kb13 => ?_)) <;> (try (exfalso; first | omega | exact kb13 trivial | contradiction))
   apply W.reg
   apply oas; rfl; rfl
   apply oas; rfl; rfl
   apply OL.nil
   with_reducible apply At.in_normal
   refine At.joinedx (1, 0, true) ⟨?_, by omega⟩ (by exact Sub.au) (fun w' hw' => hw')
   unfold sh
   grind
  apply W.reg
  apply obn; rfl; rfl; rfl; apply Bin.eql
  apply oas; rfl; rfl
  apply OL.nx
  (refine W.cnd (fun k14 => ?_) (fun k14 => ?_)) <;> (try (exfalso; first | omega | exact k14 trivial | contradiction))
  ·apply W.reg
   apply oas; rfl; rfl
   apply oas; rfl; rfl
   apply OL.nil
   with_reducible apply At.in_normal
   refine At.joinedx (1, 0, true) ⟨?_, by omega⟩ (by exact Sub.au) (fun w' hw' => hw')
   unfold sh
   grind
  apply W.sr
  apply obn; rfl; rfl; rfl; apply Bin.eql
  apply oas; rfl; rfl
  apply OL.nx
  (refine W.cnd (fun k15 => ?_) (fun k15 => ?_)) <;> (try (exfalso; first | omega | exact k15 trivial | contradiction))
  ·apply W.reg
   apply oas; rfl; rfl
   apply oas; rfl; rfl
   apply OL.nil
   with_reducible apply At.in_normal
   refine At.joinedx (2, 0, true) ⟨?_, by omega⟩ (by exact Sub.au) (fun w' hw' => hw')
   unfold sh
   grind
  apply W.seq
  apply W.sr
  apply obn; rfl; rfl; rfl; apply Bin.eql
  apply oas; rfl; rfl
  apply OL.nx
  (refine W.cnd (fun k16 => ?_) (fun k16 => ?_)) <;> (try (exfalso; first | omega | exact k16 trivial | contradiction))
  ·apply W.sk
   (refine W.cnd (fun kb16 => ?_) (fun kb16 => ?_)) <;> (try (exfalso; first | omega | exact kb16 trivial | contradiction))
   apply W.reg
   apply ofa; rfl; rfl; rfl
   apply old; rfl; rfl; exact .head _; rfl; rfl
   apply oop; rfl; apply Pev.len_slice; rfl; exact yes; rfl
   apply oas; rfl; rfl
   apply oas; rfl; rfl
   apply OL.nil
   with_reducible apply At.in_normal
   refine At.joinedx (x.kids.length, 0, true) ⟨?_, by omega⟩ (by exact Sub.au) (fun w' hw' => hw')
   unfold sh
   grind
  apply W.reg
  apply obn; rfl; rfl; rfl; apply Bin.eql
  apply oas; rfl; rfl
  apply OL.nx
  (refine W.cnd (fun k17 => ?_) (fun k17 => ?_)) <;> (try (exfalso; first | omega | exact k17 trivial | contradiction))
  ·apply W.reg
   apply ofa; rfl; rfl; rfl
   apply old; rfl; rfl; exact .head _; rfl; rfl
   apply oop; rfl; apply Pev.len_slice; rfl; exact yes; rfl
   apply oas; rfl; rfl
   apply oas; rfl; rfl
   apply OL.nil
   with_reducible apply At.in_normal
   refine At.joinedx (x.kids.length, 0, true) ⟨?_, by omega⟩ (by exact Sub.au) (fun w' hw' => hw')
   unfold sh
   grind
  apply W.sr
  apply obn; rfl; rfl; rfl; apply Bin.eql
  apply oas; rfl; rfl
  apply OL.nx
  (refine W.cnd (fun k18 => ?_) (fun k18 => ?_)) <;> (try (exfalso; first | omega | exact k18 trivial | contradiction))
  ·apply W.reg
   apply oas; rfl; rfl
   apply oas; rfl; rfl
   apply OL.nil
   with_reducible apply At.in_normal
   refine At.joinedx (1, 0, true) ⟨?_, by omega⟩ (by exact Sub.au) (fun w' hw' => hw')
   unfold sh
   grind
  apply W.sr
  apply oas; rfl; rfl
  apply OL.nx
  refine W.rt ?_
  ((with_reducible apply At.fin1); rfl; rfl; intro w' hw')
  refine ⟨congrArg (fun b => Ending.returned (Value.bool b)) ?_, by (exact hw'.fr)⟩
  unfold shapeB sh
  grind
 ·rintro ⟨k, b, u⟩ ⟨hsh, hno7⟩
  simp only
  apply W.sr
  apply ofa; rfl; rfl; rfl
  apply old; rfl; rfl; exact .head _; rfl; rfl
  apply oop; rfl; apply Pev.len_slice; rfl; exact yes; rfl
  apply omv; rfl; rfl
  apply obn; rfl; rfl; rfl; apply Bin.eql
  apply omv; rfl; rfl
  apply oy; rfl; rfl; rfl; apply Pev.fld; rfl; exact yes; rfl
  apply oy; rfl; rfl; rfl; apply Pev.load_blk; rfl; exact fun h => h; exact .head _; rfl; rfl
  apply oy; rfl; rfl; rfl; apply Pev.len_slice; rfl; exact fun h => h; rfl
  apply oy; rfl; rfl; rfl; apply Pev.move; rfl; exact yes
  apply oy; rfl; rfl; rfl; apply Pev.bin; rfl; exact fun h => h; rfl; exact fun h => h; intro hcond; apply Bin.eql
  apply oop; rfl; apply Pev.pick_and; rfl; exact yes; rfl; exact fun h => h
  apply omv; rfl; rfl
  apply oy; rfl; rfl; rfl; apply Pev.fld; rfl; exact yes; rfl
  apply oy; rfl; rfl; rfl; apply Pev.load_blk; rfl; exact fun h => h; exact .head _; rfl; rfl
  apply oy; rfl; rfl; rfl; apply Pev.len_slice; rfl; exact fun h => h; rfl
  apply oy; rfl; rfl; rfl; apply Pev.bin; rfl; exact fun h => h; rfl; exact yes; intro hcond; apply Bin.eql
  apply oop; rfl; apply Pev.pick_and; rfl; exact yes; rfl; exact fun h => h
  apply omv; rfl; rfl
  apply oy; rfl; rfl; rfl; apply Pev.move; rfl; exact yes
  apply oy; rfl; rfl; rfl; apply Pev.move; rfl; exact fun h => h
  apply OL.op; exact Guard.cno rfl rfl; rfl; rfl; apply Pev.fld; rfl; exact yes; rfl
  apply OL.op; exact Guard.cno rfl rfl; rfl; rfl; apply Pev.load_blk; rfl; exact fun h => h; exact .head _; rfl; rfl
  apply OL.op; exact Guard.cno rfl rfl; rfl; rfl; apply Pev.bin; rfl; exact fun h => h; rfl; exact yes; intro hcond; apply Bin.eql
  apply oy; rfl; rfl; rfl; apply Pev.pick_or; rfl; exact fun h => h; rfl; exact fun h => h
  apply oop; rfl; apply Pev.pick_and; rfl; exact yes; rfl; exact fun h => h
  apply oas; rfl; rfl
  apply OL.nx
  apply W.ret
  ((with_reducible apply At.fin1); rfl; rfl; intro w' hw')
  refine ⟨congrArg (fun b => Ending.returned (Value.bool b)) ?_, by (exact hw'.fr)⟩
  unfold shapeB
  rw [if_neg hno7, hsh]
  grind
theorem rangesE_bad {x : Ex} (h : rangesOk x = false) : rangesE x = 4 := by unfold rangesE; rw [if_pos h]
theorem max_if (a b : Nat) : (if (a : Int) < (b : Int) then (b : Int) else (a : Int)) = ((max a b : Nat) : Int) := by rw [Nat.max_def]; split <;> split <;> omega
theorem ranges_calls (x : Ex) (y : ExY) (w : World) (h : ExOk w (low w) x y) :
  Calls Tryd.prog 56 [.agg (exC x y).toArray].toArray w fun e w' => e = .returned (.int .i64 (rangesE x)) ∧ Ext w w' := by
 obtain ⟨ps, hps, harr⟩ := h.alts
 have hpl : x.alts.length = ps.length := by rw [← hps, List.length_map]
 have hal := h.al
 have hkl := h.kl
 have hbl := h.bl
 refine enter Tryd.func56 rfl Tryd.ntmps56 rfl (Cls.start w) ?_
 (simp only [argEnv, Nat.zero_add, Nat.reduceAdd])
 simp only [exC]
 apply W.sr
 apply OL.box; rfl; rfl; exact CellsL.agg; (intro bk hbk; simp only [AllLe, and_true] at hbk)
 apply oas; rfl; rfl
 apply OL.nsr
 apply oas; rfl; rfl
 apply OL.nsr
 apply oas; rfl; rfl
 apply OL.nx
 apply W.seq
 apply W.sr
 apply ofa; rfl; rfl; rfl
 apply old; rfl; rfl; exact .head _; rfl; rfl
 apply OL.nx
 revert bk
 intro b0 hb0
 refine W.joinx (G := Unit) (fun _ => True) (fun _ => [(1, true, .pointer (some ⟨b0, 0, none⟩)), (3, true, .int .i64 (highN x.op)), (4, true, .int .i64 (lowN x.op))]) (fun _ => Cls [blk b0 43 [.int .i64 x.op, .int .i64 x.n, .slice y.b.1 x.binds.length y.b.2, .slice y.k.1 x.kids.length y.k.2, .slice y.a.1 x.alts.length y.a.2]] [w]) ?_ ?_
 ·skip
  apply W.block
  apply W.sr
  apply obn; rfl; rfl; rfl; apply Bin.eql
  apply oas; rfl; rfl
  apply OL.nx
  (refine W.cnd (fun r1 => ?_) (fun r1 => ?_)) <;> (try (exfalso; first | omega | exact r1 trivial | contradiction))
  ·apply W.reg
   apply oas; rfl; rfl
   apply oas; rfl; rfl
   apply OL.nil
   with_reducible apply At.in_normal
   exact At.joinedx () trivial (by repeat (first | exact Sub.nil | apply Sub.cons rfl | (refine Sub.cons_eq rfl (congrArg (Value.int .i64) (by unfold highN; grind)) ?_) | (refine Sub.cons_eq rfl (congrArg (Value.int .i64) (by unfold lowN; grind)) ?_))) (fun w' hw' => hw')
  apply W.sr
  apply obn; rfl; rfl; rfl; apply Bin.eql
  apply oas; rfl; rfl
  apply OL.nx
  (refine W.cnd (fun r2 => ?_) (fun r2 => ?_)) <;> (try (exfalso; first | omega | exact r2 trivial | contradiction))
  ·apply W.reg
   apply oas; rfl; rfl
   apply OL.nil
   with_reducible apply At.in_normal
   exact At.joinedx () trivial (by repeat (first | exact Sub.nil | apply Sub.cons rfl | (refine Sub.cons_eq rfl (congrArg (Value.int .i64) (by unfold highN; grind)) ?_) | (refine Sub.cons_eq rfl (congrArg (Value.int .i64) (by unfold lowN; grind)) ?_))) (fun w' hw' => hw')
  apply W.sr
  apply obn; rfl; rfl; rfl; apply Bin.eql
  apply oas; rfl; rfl
  apply OL.nx
  (refine W.cnd (fun r3 => ?_) (fun r3 => ?_)) <;> (try (exfalso; first | omega | exact r3 trivial | contradiction))
  ·apply W.reg
   apply oas; rfl; rfl
   apply oas; rfl; rfl
   apply OL.nil
   with_reducible apply At.in_normal
   exact At.joinedx () trivial (by repeat (first | exact Sub.nil | apply Sub.cons rfl | (refine Sub.cons_eq rfl (congrArg (Value.int .i64) (by unfold highN; grind)) ?_) | (refine Sub.cons_eq rfl (congrArg (Value.int .i64) (by unfold lowN; grind)) ?_))) (fun w' hw' => hw')
  apply W.sr
  apply obn; rfl; rfl; rfl; apply Bin.eql
  apply oas; rfl; rfl
  apply OL.nx
  (refine W.cnd (fun r4 => ?_) (fun r4 => ?_)) <;> (try (exfalso; first | omega | exact r4 trivial | contradiction))
  ·apply W.reg
   apply oas; rfl; rfl
   apply OL.nil
   with_reducible apply At.in_normal
   exact At.joinedx () trivial (by repeat (first | exact Sub.nil | apply Sub.cons rfl | (refine Sub.cons_eq rfl (congrArg (Value.int .i64) (by unfold highN; grind)) ?_) | (refine Sub.cons_eq rfl (congrArg (Value.int .i64) (by unfold lowN; grind)) ?_))) (fun w' hw' => hw')
  apply W.skip
  with_reducible apply At.in_normal
  exact At.joinedx () trivial (by repeat (first | exact Sub.nil | apply Sub.cons rfl | (refine Sub.cons_eq rfl (congrArg (Value.int .i64) (by unfold highN; grind)) ?_) | (refine Sub.cons_eq rfl (congrArg (Value.int .i64) (by unfold lowN; grind)) ?_))) (fun w' hw' => hw')
 rintro - -
 apply W.seq
 apply W.sr
 apply ofa; rfl; rfl; rfl
 apply old; rfl; rfl; exact .head _; rfl; rfl
 apply omv; rfl; rfl
 apply omv; rfl; rfl
 (((first | (with_reducible apply OL.op) | (with_reducible apply QL.op)); (exact Guard.au); rfl; rfl); (exact Pev.call rfl (by exact Args.au) (fun _ w2 hw2 => (between_calls x.n (lowN x.op) (highN x.op) w2).mono (fun e w3 h => ⟨h.1, hw2.ext h.2⟩))))
 apply oop; rfl; apply Pev.not; rfl; exact yes
 apply OL.nx
 (refine W.cnd (fun hn => ?_) (fun hn => ?_)) <;> (try (exfalso; first | omega | exact hn trivial | contradiction))
 ·apply W.sr
  apply oas; rfl; rfl
  apply OL.nx
  refine W.rt ?_
  ((with_reducible apply At.fin1); rfl; rfl; intro w' hw')
  refine ⟨by rw [rangesE_bad]; unfold rangesOk; grind, by (exact hw'.fr)⟩
 apply W.sk
 apply W.sr
 apply ofa; rfl; rfl; rfl
 apply old; rfl; rfl; exact .head _; rfl; rfl
 apply oop; rfl; apply Pev.len_slice; rfl; exact yes; rfl
 apply oas; rfl; rfl
 apply OL.nx
 apply W.seq
 apply W.sr
 apply ofa; rfl; rfl; rfl
 apply old; rfl; rfl; exact .head _; rfl; rfl
 apply oop; rfl; apply Pev.len_slice; rfl; exact yes; rfl
 apply omv; rfl; rfl
 apply OL.nx
 apply W.block
 refine W.loop (G := Nat) (fun i => i ≤ x.binds.length ∧ ∀ (j : Nat) (v : Int), j < i → x.binds[j]? = some v → idB v = true) (fun i => x.binds.length - i)
  (fun i => [(1, true, .pointer (some ⟨b0, 0, none⟩)), (5, true, .int .i64 (x.binds.length : Int)), (33, true, .slice y.b.1 x.binds.length y.b.2), (34, true, .int .i64 (x.binds.length : Int)), (35, true, .int .i64 (i : Int))])
  (fun _ => Cls [blk b0 43 [.int .i64 x.op, .int .i64 x.n, .slice y.b.1 x.binds.length y.b.2, .slice y.k.1 x.kids.length y.k.2, .slice y.a.1 x.alts.length y.a.2]] [w]) 0 ⟨by omega, fun j v hj => by omega⟩ (by exact Sub.au) (fun w' hw' => hw') ?_
 rintro i ⟨hi, hbs⟩
 apply W.sr
 apply obn; rfl; rfl; rfl; apply Bin.lss
 apply OL.nx
 apply W.seq
 (refine W.cnd (fun hlt => ?_) (fun hlt => ?_)) <;> (try (exfalso; first | omega | exact hlt trivial | contradiction))
 ·have hil : i < x.binds.length := by omega
  obtain ⟨a, v, hqa, hab, hv, hcell⟩ := h.b.get hil
  have hab : a.block < w.heap.size := hab
  rw [hqa]
  apply W.sk
  apply W.sb
  apply W.sr
  apply oop; rfl; apply Pev.idx; rfl; exact yes; rfl; exact yes; rfl; rfl; intro hcond; omega
  apply oop; rfl; apply Pev.load_kept; rfl; exact yes; exact .head _; rfl; intro hcond; assumption; intro hcond; (rw [add_block]; assumption); intro hcond; exact NotOwned.au
  apply oas; rfl; rfl
  apply OL.nsr
  apply omv; rfl; rfl
  (((first | (with_reducible apply OL.op) | (with_reducible apply QL.op)); (exact Guard.au); rfl; rfl); (exact Pev.call rfl (by exact Args.au) (fun _ w2 hw2 => (between_calls v 0 1048575 w2).mono (fun e w3 h => ⟨h.1, hw2.ext h.2⟩))))
  apply oop; rfl; apply Pev.not; rfl; exact yes
  apply OL.nx
  (refine W.cnd (fun hv2 => ?_) (fun hv2 => ?_)) <;> (try (exfalso; first | omega | exact hv2 trivial | contradiction))
  ·apply W.sr
   apply oas; rfl; rfl
   apply OL.nx
   refine W.rt ?_
   ((with_reducible apply At.fin1); rfl; rfl; intro w' hw')
   refine ⟨?_, by (exact hw'.fr)⟩
   have hid : idB v = false := by unfold idB; grind
   have : x.binds.all idB = false := List.all_eq_false.2 ⟨v, List.mem_of_getElem? hv, by simp [hid]⟩
   rw [rangesE_bad]
   unfold rangesOk
   simp [this]
  apply W.skip
  with_reducible apply At.in_normal
  with_reducible apply At.next
  apply W.reg
  apply obn; rfl; rfl; rfl; apply Bin.add_in; omega
  apply omv; rfl; rfl
  apply OL.nil
  refine At.again (i + 1) ⟨by omega, fun j u hj hu => ?_⟩ (by omega) (by exact Sub.au) (fun w' hw' => hw')
  by_cases e : j = i
  ·subst e
   rw [hv] at hu
   obtain rfl := Option.some.inj hu
   unfold idB
   grind
  ·exact hbs j u (by omega) hu
 obtain rfl : i = x.binds.length := by omega
 have hball : x.binds.all idB = true := List.all_eq_true.2 fun v hv => by
  obtain ⟨j, hj⟩ := List.getElem?_of_mem hv
  exact hbs j v (List.getElem?_eq_some_iff.1 hj).1 hj
 clear hbs hlt hi
 rw [hpl]
 refine W.xt ?_
 with_reducible apply At.next
 apply W.seq
 apply W.sr
 apply ofa; rfl; rfl; rfl
 apply old; rfl; rfl; exact .head _; rfl; rfl
 apply oop; rfl; apply Pev.len_slice; rfl; exact yes; rfl
 apply omv; rfl; rfl
 apply OL.nx
 apply W.block
 refine W.loop (G := Nat) (fun i => i ≤ ps.length ∧ (∀ (j : Nat) (p : Al × Sc), j < i → ps[j]? = some p → altR x.op p.1 = true) ∧ ((ps.take i).foldl (fun m p => max m p.1.binds.length) x.binds.length) ≤ 140737488355328) (fun i => ps.length - i)
  (fun i => [(1, true, .pointer (some ⟨b0, 0, none⟩)), (5, true, .int .i64 (((ps.take i).foldl (fun m p => max m p.1.binds.length) x.binds.length : Nat) : Int)), (44, true, .slice y.a.1 ps.length y.a.2), (45, true, .int .i64 (ps.length : Int)), (46, true, .int .i64 (i : Int))])
  (fun _ => Cls [blk b0 43 [.int .i64 x.op, .int .i64 x.n, .slice y.b.1 x.binds.length y.b.2, .slice y.k.1 x.kids.length y.k.2, .slice y.a.1 ps.length y.a.2]] [w]) 0 ⟨by omega, fun j v hj => by omega, by simpa using hbl⟩ (by exact Sub.au) (fun w' hw' => hw') ?_
 rintro i ⟨hi, has, hwd⟩
 apply W.sr
 apply obn; rfl; rfl; rfl; apply Bin.lss
 apply OL.nx
 apply W.seq
 (refine W.cnd (fun hlt => ?_) (fun hlt => ?_)) <;> (try (exfalso; first | omega | exact hlt trivial | contradiction))
 ·have hil : i < ps.length := by omega
  obtain ⟨a, u, hq, hab, hu, hcell, hok⟩ := harr.get hil
  have hab : a.block < w.heap.size := hab
  have hcell : CellsAt w (a.add (i * 2)) [.int .i64 u.1.tag, .slice u.2.1 u.1.binds.length u.2.2] := hcell
  obtain ⟨htag, hul, huo⟩ := hok
  have hua : u.1 ∈ x.alts := by rw [← hps]; exact List.mem_map_of_mem (f := Prod.fst) (List.mem_of_getElem? hu)
  have hbad : altR x.op u.1 = false → rangesE x = 4 := fun hf => rangesE_bad (by
   have : x.alts.all (altR x.op) = false := List.all_eq_false.2 ⟨_, hua, by simp [hf]⟩
   unfold rangesOk
   simp [this])
  rw [hq]
  apply W.sk
  apply W.sb
  apply W.sr
  apply oop; rfl; apply Pev.idx; rfl; exact yes; rfl; exact yes; rfl; rfl; intro hcond; omega
  apply oop; rfl; apply Pev.load_keptA; rfl; exact yes; exact .head _; rfl; intro hcond; assumption; rfl; intro hcond; (rw [add_block]; assumption); intro hcond; exact NotOwned.au
  apply OL.alloc; rfl; rfl; exact CellsL.agg; (intro bk hbk; simp only [AllLe, and_true] at hbk)
  apply OL.storeB; rfl; rfl; exact CellsL.agg; rfl; rfl; rfl; exact Swap.au; exact Put.au
  apply OL.nx
  apply W.seq
  apply W.sr
  apply ofa; rfl; rfl; rfl
  apply old; rfl; rfl; exact .head _; rfl; rfl
  apply obn; rfl; rfl; rfl; apply Bin.gtr
  apply omv; rfl; rfl
  apply oy; rfl; rfl; rfl; apply Pev.fld; rfl; exact yes; rfl
  apply oy; rfl; rfl; rfl; apply Pev.load_blk; rfl; exact fun h => h; exact .tail _ (.head _); rfl; rfl
  apply oy; rfl; rfl; rfl; apply Pev.bin; rfl; exact fun h => h; rfl; exact yes; intro hcond; apply Bin.eql
  apply oop; rfl; apply Pev.pick_and; rfl; exact yes; rfl; exact fun h => h
  apply omv; rfl; rfl
  apply ono; rfl; rfl; rfl; apply Pev.fld; rfl; exact yes; rfl
  apply ono; rfl; rfl; rfl; apply Pev.load_blk; rfl; exact fun h => h; exact .head _; rfl; rfl
  apply ono; rfl; rfl; rfl; apply Pev.bin; rfl; exact fun h => h; rfl; exact yes; intro hcond; apply Bin.geq
  apply oop; rfl; apply Pev.pick_or; rfl; exact yes; rfl; exact fun h => h
  apply OL.nx
  refine W.cond rfl (fun hb => ?_) (fun hb => ?_)
  ·apply W.sr
   apply oas; rfl; rfl
   apply OL.nx
   refine W.rt ?_
   ((with_reducible apply At.fin1); rfl; rfl; intro w' hw')
   refine ⟨by rw [hbad (by unfold altR; grind)], by (exact hw'.fr)⟩
  apply W.sk
  apply W.seq
  apply W.sr
  apply ofa; rfl; rfl; rfl
  apply old; rfl; rfl; exact .head _; rfl; rfl
  apply oop; rfl; apply Pev.len_slice; rfl; exact yes; rfl
  apply omv; rfl; rfl
  apply OL.nx
  apply W.block
  refine W.loop (G := Nat) (fun k => k ≤ u.1.binds.length ∧ ∀ (j : Nat) (v : Int), j < k → u.1.binds[j]? = some v → idB v = true) (fun k => u.1.binds.length - k)
   (fun k => [(1, true, .pointer (some ⟨b0, 0, none⟩)), (5, true, .int .i64 (((ps.take i).foldl (fun m p => max m p.1.binds.length) x.binds.length : Nat) : Int)), (9, true, .pointer (some ⟨bk, 0, none⟩)), (44, true, .slice (some a) ps.length y.a.2), (45, true, .int .i64 (ps.length : Int)), (46, true, .int .i64 (i : Int)), (64, true, .slice u.2.1 u.1.binds.length u.2.2), (65, true, .int .i64 (u.1.binds.length : Int)), (66, true, .int .i64 (k : Int))])
   (fun _ => Cls [blk bk 79 [.int .i64 u.1.tag, .slice u.2.1 u.1.binds.length u.2.2], blk b0 43 [.int .i64 x.op, .int .i64 x.n, .slice y.b.1 x.binds.length y.b.2, .slice y.k.1 x.kids.length y.k.2, .slice (some a) ps.length y.a.2]] [w]) 0 ⟨by omega, fun j v hj => by omega⟩ (by exact Sub.au) (fun w' hw' => by first | exact hw' | (rw [hq] at hw'; exact hw')) ?_
  rintro k ⟨hk, hbs⟩
  apply W.sr
  apply obn; rfl; rfl; rfl; apply Bin.lss
  apply OL.nx
  apply W.seq
  (refine W.cnd (fun hlt2 => ?_) (fun hlt2 => ?_)) <;> (try (exfalso; first | omega | exact hlt2 trivial | contradiction))
  ·have hkl2 : k < u.1.binds.length := by omega
   obtain ⟨av, v, hqv, habv, hv, hcv⟩ := huo.get hkl2
   have habv : av.block < w.heap.size := habv
   rw [hqv]
   apply W.sk
   apply W.sb
   apply W.sr
   apply oop; rfl; apply Pev.idx; rfl; exact yes; rfl; exact yes; rfl; rfl; intro hcond; omega
   apply oop; rfl; apply Pev.load_kept; rfl; exact yes; exact .head _; rfl; intro hcond; assumption; intro hcond; (rw [add_block]; assumption); intro hcond; exact NotOwned.au
   apply oas; rfl; rfl
   apply OL.nsr
   apply omv; rfl; rfl
   (((first | (with_reducible apply OL.op) | (with_reducible apply QL.op)); (exact Guard.au); rfl; rfl); (exact Pev.call rfl (by exact Args.au) (fun _ w2 hw2 => (between_calls v 0 1048575 w2).mono (fun e w3 h => ⟨h.1, hw2.ext h.2⟩))))
   apply oop; rfl; apply Pev.not; rfl; exact yes
   apply OL.nx
   (refine W.cnd (fun hv2 => ?_) (fun hv2 => ?_)) <;> (try (exfalso; first | omega | exact hv2 trivial | contradiction))
   ·apply W.sr
    apply oas; rfl; rfl
    apply OL.nx
    refine W.rt ?_
    ((with_reducible apply At.fin1); rfl; rfl; intro w' hw')
    refine ⟨?_, by (exact hw'.fr)⟩
    have hid : idB v = false := by unfold idB; grind
    have : u.1.binds.all idB = false := List.all_eq_false.2 ⟨v, List.mem_of_getElem? hv, by simp [hid]⟩
    rw [hbad (by unfold altR; simp [this])]
   apply W.skip
   with_reducible apply At.in_normal
   with_reducible apply At.next
   apply W.reg
   apply obn; rfl; rfl; rfl; apply Bin.add_in; omega
   apply omv; rfl; rfl
   apply OL.nil
   refine At.again (k + 1) ⟨by omega, fun j z hj hz => ?_⟩ (by omega) (by exact Sub.au) (fun w' hw' => by first | exact hw' | (rw [hqv] at hw'; exact hw') | (rw [← hqv] at hw'; exact hw'))
   by_cases e : j = k
   ·subst e
    rw [hv] at hz
    obtain rfl := Option.some.inj hz
    unfold idB
    grind
   ·exact hbs j z (by omega) hz
  obtain rfl : k = u.1.binds.length := by omega
  have huall : u.1.binds.all idB = true := List.all_eq_true.2 fun v hv => by
   obtain ⟨j, hj⟩ := List.getElem?_of_mem hv
   exact hbs j v (List.getElem?_eq_some_iff.1 hj).1 hj
  have hfold : (ps.take (i + 1)).foldl (fun m p => max m p.1.binds.length) x.binds.length = max ((ps.take i).foldl (fun m p => max m p.1.binds.length) x.binds.length) u.1.binds.length := by
   rw [List.take_add_one, hu]
   simp [List.foldl_append]
  refine W.xt ?_
  with_reducible apply At.next
  apply W.reg
  apply omv; rfl; rfl
  apply ofa; rfl; rfl; rfl
  apply old; rfl; rfl; exact .head _; rfl; rfl
  apply oop; rfl; apply Pev.len_slice; rfl; exact yes; rfl
  apply oop; rfl; apply Pev.max2; rfl; exact yes; rfl; exact yes
  apply oas; rfl; rfl
  apply OL.nil
  with_reducible apply At.in_normal
  with_reducible apply At.next
  apply W.reg
  apply obn; rfl; rfl; rfl; apply Bin.add_in; omega
  apply omv; rfl; rfl
  apply OL.nil
  try rw [max_if]
  refine At.again (i + 1) ⟨by omega, fun j p hj hp => ?_, by rw [hfold]; omega⟩ (by omega) (by rw [hfold]; first | exact Sub.au) (fun w' hw' => hw'.thin (by exact Thin.au))
  by_cases e : j = i
  ·subst e
   rw [hu] at hp
   obtain rfl := Option.some.inj hp
   unfold altR
   grind
  ·exact has j p (by omega) hp
 ·obtain rfl : i = ps.length := by omega
  rw [List.take_length] at hwd ⊢
  have haall : x.alts.all (altR x.op) = true := List.all_eq_true.2 fun v hv => by
   rw [← hps] at hv
   obtain ⟨p, hp, rfl⟩ := List.mem_map.1 hv
   obtain ⟨j, hj⟩ := List.getElem?_of_mem hp
   exact has j p (List.getElem?_eq_some_iff.1 hj).1 hj
  have hrok : rangesOk x = true := by unfold rangesOk; grind
  have hwide : wide x = ps.foldl (fun m p => max m p.1.binds.length) x.binds.length := by
   unfold wide
   rw [← hps, List.foldl_map]
  rw [← hwide] at hwd ⊢
  have hre : rangesE x = if (if x.op = 2 then 6 else 16) < wide x ∨ ((x.op = 6 ∨ x.op = 15) ∧ 16 < x.kids.length) ∨ (x.op = 3 ∧ 7 < x.kids.length) ∨ (x.op = 14 ∧ 6 < x.kids.length) then 2 else 0 := by
   unfold rangesE
   rw [if_neg (by simp [hrok])]
  refine W.xt ?_
  with_reducible apply At.next
  apply W.sr
  apply oas; rfl; rfl
  apply OL.nx
  apply W.seq
  apply W.sr
  apply ofa; rfl; rfl; rfl
  apply old; rfl; rfl; exact .head _; rfl; rfl
  apply obn; rfl; rfl; rfl; apply Bin.eql
  apply OL.nx
  refine W.joinx (G := Unit) (fun _ => True) (fun _ => [(1, true, .pointer (some ⟨b0, 0, none⟩)), (5, true, .int .i64 (wide x : Int)), (12, true, .int .i64 ((if x.op = 2 then 6 else 16 : Nat) : Int))]) (fun _ => Cls [blk b0 43 [.int .i64 x.op, .int .i64 x.n, .slice y.b.1 x.binds.length y.b.2, .slice y.k.1 x.kids.length y.k.2, .slice y.a.1 ps.length y.a.2]] [w]) ?_ ?_
  ·(refine W.cnd (fun h2 => ?_) (fun h2 => ?_)) <;> (try (exfalso; first | omega | exact h2 trivial | contradiction))
   ·apply W.reg
    apply oas; rfl; rfl
    apply OL.nil
    exact At.joinedx () trivial (by simp only [h2, if_true]; exact Sub.au) (fun w' hw' => hw')
   ·apply W.skip
    exact At.joinedx () trivial (by simp only [h2, if_false]; exact Sub.au) (fun w' hw' => hw')
  rintro - -
  apply W.seq
  apply W.sr
  apply omv; rfl; rfl
  apply omv; rfl; rfl
  apply obn; rfl; rfl; rfl; apply Bin.gtr
  apply omv; rfl; rfl
  apply ono; rfl; rfl; rfl; apply Pev.fld; rfl; exact yes; rfl
  apply ono; rfl; rfl; rfl; apply Pev.load_blk; rfl; exact fun h => h; exact .head _; rfl; rfl
  apply ono; rfl; rfl; rfl; apply Pev.bin; rfl; exact fun h => h; rfl; exact yes; intro hcond; apply Bin.eql
  apply ono; rfl; rfl; rfl; apply Pev.move; rfl; exact fun h => h
  apply OL.op; exact Guard.cno rfl rfl; rfl; rfl; apply Pev.fld; rfl; exact yes; rfl
  apply OL.op; exact Guard.cno rfl rfl; rfl; rfl; apply Pev.load_blk; rfl; exact fun h => h; exact .head _; rfl; rfl
  apply OL.op; exact Guard.cno rfl rfl; rfl; rfl; apply Pev.bin; rfl; exact fun h => h; rfl; exact yes; intro hcond; apply Bin.eql
  apply ono; rfl; rfl; rfl; apply Pev.pick_or; rfl; exact fun h => h; rfl; exact fun h => h
  apply ono; rfl; rfl; rfl; apply Pev.move; rfl; exact fun h => h
  apply OL.op; exact Guard.cyes rfl rfl; rfl; rfl; apply Pev.fld; rfl; exact yes; rfl
  apply OL.op; exact Guard.cyes rfl rfl; rfl; rfl; apply Pev.load_blk; rfl; exact fun h => h; exact .head _; rfl; rfl
  apply OL.op; exact Guard.cyes rfl rfl; rfl; rfl; apply Pev.len_slice; rfl; exact fun h => h; rfl
  apply OL.op; exact Guard.cyes rfl rfl; rfl; rfl; apply Pev.bin; rfl; exact fun h => h; rfl; exact yes; intro hcond; apply Bin.gtr
  apply ono; rfl; rfl; rfl; apply Pev.pick_and; rfl; exact fun h => h; rfl; exact fun h => h
  apply oop; rfl; apply Pev.pick_or; rfl; exact yes; rfl; exact fun h => h
  apply omv; rfl; rfl
  apply ono; rfl; rfl; rfl; apply Pev.fld; rfl; exact yes; rfl
  apply ono; rfl; rfl; rfl; apply Pev.load_blk; rfl; exact fun h => h; exact .head _; rfl; rfl
  apply ono; rfl; rfl; rfl; apply Pev.bin; rfl; exact fun h => h; rfl; exact yes; intro hcond; apply Bin.eql
  apply ono; rfl; rfl; rfl; apply Pev.move; rfl; exact fun h => h
  apply OL.op; exact Guard.cyes rfl rfl; rfl; rfl; apply Pev.fld; rfl; exact yes; rfl
  apply OL.op; exact Guard.cyes rfl rfl; rfl; rfl; apply Pev.load_blk; rfl; exact fun h => h; exact .head _; rfl; rfl
  apply OL.op; exact Guard.cyes rfl rfl; rfl; rfl; apply Pev.len_slice; rfl; exact fun h => h; rfl
  apply OL.op; exact Guard.cyes rfl rfl; rfl; rfl; apply Pev.bin; rfl; exact fun h => h; rfl; exact yes; intro hcond; apply Bin.gtr
  apply ono; rfl; rfl; rfl; apply Pev.pick_and; rfl; exact fun h => h; rfl; exact fun h => h
  apply oop; rfl; apply Pev.pick_or; rfl; exact yes; rfl; exact fun h => h
  apply omv; rfl; rfl
  apply ono; rfl; rfl; rfl; apply Pev.fld; rfl; exact yes; rfl
  apply ono; rfl; rfl; rfl; apply Pev.load_blk; rfl; exact fun h => h; exact .head _; rfl; rfl
  apply ono; rfl; rfl; rfl; apply Pev.bin; rfl; exact fun h => h; rfl; exact yes; intro hcond; apply Bin.eql
  apply ono; rfl; rfl; rfl; apply Pev.move; rfl; exact fun h => h
  apply OL.op; exact Guard.cyes rfl rfl; rfl; rfl; apply Pev.fld; rfl; exact yes; rfl
  apply OL.op; exact Guard.cyes rfl rfl; rfl; rfl; apply Pev.load_blk; rfl; exact fun h => h; exact .head _; rfl; rfl
  apply OL.op; exact Guard.cyes rfl rfl; rfl; rfl; apply Pev.len_slice; rfl; exact fun h => h; rfl
  apply OL.op; exact Guard.cyes rfl rfl; rfl; rfl; apply Pev.bin; rfl; exact fun h => h; rfl; exact yes; intro hcond; apply Bin.gtr
  apply ono; rfl; rfl; rfl; apply Pev.pick_and; rfl; exact fun h => h; rfl; exact fun h => h
  apply oop; rfl; apply Pev.pick_or; rfl; exact yes; rfl; exact fun h => h
  apply OL.nx
  refine W.cond rfl (fun hb => ?_) (fun hb => ?_)
  ·apply W.sr
   apply oas; rfl; rfl
   apply OL.nx
   refine W.rt ?_
   ((with_reducible apply At.fin1); rfl; rfl; intro w' hw')
   refine ⟨by rw [hre, if_pos]; grind, by (exact hw'.fr)⟩
  ·apply W.sk
   apply W.sr
   apply oas; rfl; rfl
   apply OL.nx
   apply W.ret
   ((with_reducible apply At.fin1); rfl; rfl; intro w' hw')
   refine ⟨by rw [hre, if_neg]; grind, by (exact hw'.fr)⟩
end Go.Proofs.YtkpjndhgicbjjaaDoor.co

/- The walk of core's nodeError. Conditions: none. -/
namespace Go.Proofs.YtkpjndhgicbjjaaDoor.co
open Go.RowKit Go.Eng Go.Co
set_option maxRecDepth 100000
theorem getx_calls (es : List (Ex × ExY)) (q : Option Addr) (cap b : Nat) (k : Int) (p : Ex × ExY) (w : World) (he : Arr exR w (low w) es q) (hk : 0 ≤ k) (hp : es[k.toNat]? = some p) (hlen : es.length ≤ 4096) (hc : w.cell? ⟨b, 0, none⟩ = some (.slice q es.length cap)) (hb : b < w.heap.size) :
  Calls Tryd.prog 41 [.int .i64 k, .pointer (some ⟨b, 0, none⟩)].toArray w fun e w' => e = .returned (.agg (exC p.1 p.2).toArray) ∧ Ext w w' := by
 have hkl := (List.getElem?_eq_some_iff.1 hp).1
 obtain ⟨a, p', rfl, hab, hp', hcell, hok⟩ := he.get hkl
 rw [hp] at hp'
 obtain rfl := Option.some.inj hp'
 have hab : a.block < w.heap.size := hab
 have hkk : ((k.toNat : Nat) : Int) = k := by omega
 generalize k.toNat = m at *
 subst hkk
 have hcell : CellsAt w (a.add (m * 5)) [.int .i64 p.1.op, .int .i64 p.1.n, .slice p.2.b.1 p.1.binds.length p.2.b.2, .slice p.2.k.1 p.1.kids.length p.2.k.2, .slice p.2.a.1 p.1.alts.length p.2.a.2] := hcell
 refine enter Tryd.func41 rfl Tryd.ntmps41 rfl (Cls.start w) ?_
 (simp only [argEnv, Nat.zero_add, Nat.reduceAdd])
 apply W.sr
 apply OL.alloc; rfl; rfl; exact CellsL.agg; (intro bk hbk; simp only [AllLe, and_true] at hbk)
 apply OL.nsr
 apply oop; rfl; apply Pev.load_kept; rfl; exact yes; exact .head _; rfl; intro hcond; assumption; intro hcond; assumption; intro hcond; exact NotOwned.au
 apply omv; rfl; rfl
 apply oop; rfl; apply Pev.idx; rfl; exact yes; rfl; exact yes; rfl; rfl; intro hcond; omega
 apply oop; rfl; apply Pev.load_keptA; rfl; exact yes; exact .head _; rfl; intro hcond; assumption; rfl; intro hcond; (rw [add_block]; assumption); intro hcond; exact NotOwned.au
 apply OL.storeB; rfl; rfl; exact CellsL.agg; rfl; rfl; rfl; exact Swap.au; exact Put.au
 apply OL.nx
 apply W.ret
 ((with_reducible apply At.finC); rfl; rfl; (exact mau); rfl; rfl; intro w' hw')
 exact ⟨rfl, by (exact hw'.fr)⟩
theorem nodeError_calls (es : List (Ex × ExY)) (q : Option Addr) (cap b : Nat) (x : Ex) (y : ExY) (w : World) (h : ExOk w (low w) x y) (hg : 1 < w.heap.size) (hs : arityAt w)
  (he : Arr exR w (low w) es q) (hlen : es.length ≤ 4096) (hc : w.cell? ⟨b, 0, none⟩ = some (.slice q es.length cap)) (hb : b < w.heap.size) (hkd : ∀ k ∈ x.kids, 0 ≤ k ∧ k < (es.length : Int)) :
  Calls Tryd.prog 40 [.agg (exC x y).toArray, .func (.func 41) #[] #[.pointer (some ⟨b, 0, none⟩)]].toArray w fun e w' => e = .returned (.int .i64 (nodeE (es.map Prod.fst) x)) ∧ Ext w w' := by
 have hal := h.al
 have hkl := h.kl
 have hbl := h.bl
 refine enter Tryd.func40 rfl Tryd.ntmps40 rfl (Cls.start w) ?_
 (simp only [argEnv, Nat.zero_add, Nat.reduceAdd])
 simp only [exC]
 apply W.sr
 apply OL.box; rfl; rfl; exact CellsL.agg; (intro bk hbk; simp only [AllLe, and_true] at hbk)
 apply oas; rfl; rfl
 apply OL.nx
 apply W.seq
 apply W.sr
 apply oop; rfl; apply Pev.load_blkA; rfl; exact yes; exact .head _; rfl; exact Take.au
 (((first | (with_reducible apply OL.op) | (with_reducible apply QL.op)); (exact Guard.au); rfl; rfl); (exact Pev.call rfl (by exact Args.au) (fun _ w2 hw2 => (shape_calls x y w2 (h.at hw2 (by exact mau) (fun k hk => by exact NotOwned.au)) (Nat.lt_of_lt_of_le hg (hw2.kp w (by exact mau)).size) (hs.at hg hw2 (by exact mau) (fun k hk => by exact NotOwned.au))).mono (fun e w3 h => ⟨h.1, hw2.ext h.2⟩))))
 apply oop; rfl; apply Pev.not; rfl; exact yes
 apply OL.nx
 (refine W.cnd (fun hsh => ?_) (fun hsh => ?_)) <;> (try (exfalso; first | omega | exact hsh trivial | contradiction))
 ·apply W.sr
  apply oas; rfl; rfl
  apply OL.nx
  refine W.rt ?_
  ((with_reducible apply At.fin1); rfl; rfl; intro w' hw')
  refine ⟨?_, by (exact hw'.fr)⟩
  unfold nodeE
  rw [if_pos (by simpa using hsh)]
 apply W.sk
 apply W.seq
 apply W.sr
 apply oop; rfl; apply Pev.load_blkA; rfl; exact yes; exact .head _; rfl; exact Take.au
 (((first | (with_reducible apply OL.op) | (with_reducible apply QL.op)); (exact Guard.au); rfl; rfl); (exact Pev.call rfl (by exact Args.au) (fun _ w2 hw2 => (ranges_calls x y w2 (h.at hw2 (by exact mau) (fun k hk => by exact NotOwned.au))).mono (fun e w3 h => ⟨h.1, hw2.ext h.2⟩))))
 apply oas; rfl; rfl
 apply OL.nsr
 apply omv; rfl; rfl
 apply obn; rfl; rfl; rfl; apply Bin.neq
 apply OL.nx
 (refine W.cnd (fun hra => ?_) (fun hra => ?_)) <;> (try (exfalso; first | omega | exact hra trivial | contradiction))
 ·apply W.sr
  apply omv; rfl; rfl
  apply oas; rfl; rfl
  apply OL.nx
  refine W.rt ?_
  ((with_reducible apply At.fin1); rfl; rfl; intro w' hw')
  refine ⟨?_, by (exact hw'.fr)⟩
  unfold nodeE
  rw [if_neg (by simpa using hsh), if_pos hra]
 have hn0 : nodeE (es.map Prod.fst) x = if kidsB (es.map Prod.fst) x = false then 3 else 0 := by
  unfold nodeE
  rw [if_neg (by simpa using hsh), if_neg (by simpa using hra)]
 have hsh1 : shapeB x = true := by simpa using hsh
 have hk5 : x.op = 5 → x.kids.length = x.binds.length + 1 := fun h5 => by
  have := hsh1
  unfold shapeB sh at this
  simp [h5] at this
  exact this.1.1.1
 apply W.sk
 apply W.seq
 apply W.sr
 apply ofa; rfl; rfl; rfl
 apply old; rfl; rfl; exact .head _; rfl; rfl
 apply oop; rfl; apply Pev.len_slice; rfl; exact yes; rfl
 apply omv; rfl; rfl
 apply OL.nx
 apply W.block
 refine W.loop (G := Nat) (fun i => i ≤ x.binds.length ∧ ∀ j, j < i → bindOk (es.map Prod.fst) x j = true) (fun i => x.binds.length - i)
  (fun i => [(1, true, .func (.func 41) #[] #[.pointer (some ⟨b, 0, none⟩)]), (2, true, .pointer (some ⟨bk, 0, none⟩)), (17, true, .int .i64 (x.binds.length : Int)), (18, true, .int .i64 (i : Int))])
  (fun _ => Cls [blk bk 43 [.int .i64 x.op, .int .i64 x.n, .slice y.b.1 x.binds.length y.b.2, .slice y.k.1 x.kids.length y.k.2, .slice y.a.1 x.alts.length y.a.2]] [w]) 0 ⟨by omega, fun j hj => by omega⟩ (by exact Sub.au) (fun w' hw' => hw') ?_
 rintro i ⟨hi, hall⟩
 apply W.sr
 apply obn; rfl; rfl; rfl; apply Bin.lss
 apply OL.nx
 apply W.seq
 (refine W.cnd (fun hlt => ?_) (fun hlt => ?_)) <;> (try (exfalso; first | omega | exact hlt trivial | contradiction))
 ·have hil : i < x.binds.length := by omega
  have hbad : bindOk (es.map Prod.fst) x i = false → nodeE (es.map Prod.fst) x = 3 := fun hf => by
   rw [hn0, if_pos]
   unfold kidsB
   exact not_all_range hil hf
  have hagain : bindOk (es.map Prod.fst) x i = true → ∀ j, j < i + 1 → bindOk (es.map Prod.fst) x j = true := fun hf j hj => by
   by_cases e : j = i
   ·rw [e]; exact hf
   ·exact hall j (by omega)
  by_cases h5 : x.op = 5
  ·have hkl5 := hk5 h5
   obtain ⟨ak, kv, hqk, habk, hkv, hck⟩ := h.k.get (i := i) (by omega)
   have habk : ak.block < w.heap.size := habk
   have hkr := hkd kv (List.mem_of_getElem? hkv)
   obtain ⟨p, hp⟩ : ∃ p, es[kv.toNat]? = some p := ⟨_, List.getElem?_eq_getElem (by omega)⟩
   rw [hqk]
   have hbk : bindOk (es.map Prod.fst) x i = decide (p.1.op = 2) := by
    have e1 : x.kids.getD i 0 = kv := by simp [List.getD, hkv]
    have e2 : (es.map Prod.fst).getD kv.toNat ⟨0, 0, [], [], []⟩ = p.1 := by simp [List.getD, hp]
    unfold bindOk
    rw [e1, e2]
    grind
   have hcall : ∀ (H : List Eng.Item) (w2 : World), (∀ k, k < w.heap.size → NotOwned H k) → Cls H [w] w2 → Calls Tryd.prog 41 [.int .i64 kv, .pointer (some ⟨b, 0, none⟩)].toArray w2 fun e w' => e = .returned (.agg (exC p.1 p.2).toArray) ∧ Cls H [w] w' := fun H w2 hno hw2 =>
    (getx_calls es q cap b kv p w2 (he.at hw2 (.head _) hno) hkr.1 hp hlen (by rw [hw2.cell (.head _) hb (hno _ hb)]; exact hc) (Nat.lt_of_lt_of_le hb (hw2.kp w (.head _)).size)).mono fun e w3 h => ⟨h.1, hw2.ext h.2⟩
   simp only [exC] at hcall
   apply W.sk
   apply W.sb
   apply W.sr
   apply omv; rfl; rfl
   apply oas; rfl; rfl
   apply OL.nx
   apply W.seq
   apply W.regd0; decide +kernel; kernel_rfl; decide +kernel; exact fun w hw => hw.drew
   apply qfa; rfl; rfl; rfl
   apply qld; rfl; rfl; exact .head _; rfl; rfl
   apply qbn; rfl; rfl; rfl; apply Bin.eql
   apply qmv; rfl; rfl
   apply qy; rfl; rfl; rfl; apply Pev.move; rfl; exact yes
   apply qy; rfl; rfl; rfl; apply Pev.fld; rfl; exact yes; rfl
   apply qy; rfl; rfl; rfl; apply Pev.load_blk; rfl; exact fun h => h; exact .head _; rfl; rfl
   apply qy; rfl; rfl; rfl; apply Pev.move; rfl; exact yes
   apply qy; rfl; rfl; rfl; apply Pev.idx; rfl; exact fun h => h; rfl; exact fun h => h; rfl; rfl; intro hcond; omega
   apply qy; rfl; rfl; rfl; apply Pev.load_kept; rfl; exact fun h => h; exact .head _; rfl; intro hcond; assumption; intro hcond; (rw [add_block]; assumption); intro hcond; exact NotOwned.au
   (((first | (with_reducible apply OL.op) | (with_reducible apply QL.op)); (exact Guard.au); rfl; rfl); (apply Pev.callv (first := []) (cap := [.pointer (some ⟨b, 0, none⟩)])); rfl; ((first | exact fun _ => rfl | exact fun h => h | (intro h; simp_all; done))); rfl; (exact Args.au); (exact (fun _ w2 hw2 => hcall _ w2 (fun k hk => by exact NotOwned.au) hw2)))
   apply qy; rfl; rfl; rfl; apply Pev.field; rfl; exact fun h => h; rfl; rfl
   apply qy; rfl; rfl; rfl; apply Pev.bin; rfl; exact fun h => h; rfl; exact yes; intro hcond; apply Bin.neq
   apply qop; rfl; apply Pev.pick_and; rfl; exact yes; rfl; exact fun h => h
   apply qmv; rfl; rfl
   apply qno; rfl; rfl; rfl; apply Pev.fld; rfl; exact yes; rfl
   apply qno; rfl; rfl; rfl; apply Pev.load_blk; rfl; exact fun h => h; exact .head _; rfl; rfl
   apply qno; rfl; rfl; rfl; apply Pev.bin; rfl; exact fun h => h; rfl; exact yes; intro hcond; apply Bin.eql
   apply qno; rfl; rfl; rfl; apply Pev.move; rfl; exact fun h => h
   apply QL.op; exact Guard.cyes rfl rfl; rfl; rfl; apply Pev.move; rfl; exact yes
   apply QL.op; exact Guard.cyes rfl rfl; rfl; rfl; apply Pev.bin; rfl; exact fun h => h; rfl; exact yes; intro hcond; apply Bin.gtr
   apply qno; rfl; rfl; rfl; apply Pev.pick_and; rfl; exact fun h => h; rfl; exact fun h => h
   apply qno; rfl; rfl; rfl; apply Pev.move; rfl; exact fun h => h
   apply QL.op; exact Guard.cyes rfl rfl; rfl; rfl; apply Pev.fld; rfl; exact yes; rfl
   apply QL.op; exact Guard.cyes rfl rfl; rfl; rfl; apply Pev.load_blk; rfl; exact fun h => h; exact .head _; rfl; rfl
   apply QL.op; exact Guard.cyes rfl rfl; rfl; rfl; apply Pev.move; rfl; exact yes
   apply QL.op; exact Guard.cyes rfl rfl; rfl; rfl; apply Pev.bin; rfl; exact fun h => h; rfl; exact yes; intro hcond; apply Bin.sub_in; omega
   apply QL.gateOff; exact Guard.cyes rfl rfl; (simp; omega); rfl
   apply QL.gateOff; exact Guard.cyes rfl rfl; (simp; omega); rfl
   apply QL.op; exact Guard.cyes rfl rfl; rfl; rfl; apply Pev.fld; rfl; exact yes; rfl
   apply QL.op; exact Guard.cyes rfl rfl; rfl; rfl; apply Pev.load_blk; rfl; exact fun h => h; exact .head _; rfl; rfl
   apply QL.op; exact Guard.cyes rfl rfl; rfl; rfl; apply Pev.move; rfl; exact yes
   apply QL.gateOff; exact Guard.cyes rfl rfl; (simp; omega); rfl
   apply QL.gateOff; exact Guard.cyes rfl rfl; (simp; omega); rfl
   apply QL.gateOff; exact Guard.cyes rfl rfl; (simp; omega); rfl
   apply qno; rfl; rfl; rfl; apply Pev.pick_off; rfl; exact fun h => h; (intro hcond; simp; omega); rfl; exact yes
   apply qop; rfl; apply Pev.pick_or; rfl; exact yes; rfl; exact fun h => h
   apply QL.nil
   with_reducible apply At.next
   refine W.cond rfl (fun hb => ?_) (fun hb => ?_)
   ·apply W.sr
    apply oas; rfl; rfl
    apply OL.nx
    refine W.rt ?_
    ((with_reducible apply At.fin1); rfl; rfl; intro w' hw')
    exact ⟨by rw [hbad (by rw [hbk]; grind)], by (exact hw'.fr)⟩
   ·apply W.skip
    with_reducible apply At.in_normal
    with_reducible apply At.next
    apply W.reg
    apply obn; rfl; rfl; rfl; apply Bin.add_in; omega
    apply omv; rfl; rfl
    apply OL.nil
    exact At.again (i + 1) ⟨by omega, hagain (by first | exact hbk | (rw [hbk]; grind))⟩ (by omega) (by exact Sub.au) (fun w' hw' => hw')
  ·by_cases h9 : x.op = 9
   ·obtain ⟨ab, vi, hqb, habb, hvi, hci⟩ := h.b.get hil
    have habb : ab.block < w.heap.size := habb
    have e1 : x.binds.getD i 0 = vi := by simp [List.getD, hvi]
    by_cases hi0 : i = 0
    ·subst hi0
     have hbk : bindOk (es.map Prod.fst) x 0 = true := by unfold bindOk; grind
     apply W.sk
     apply W.sb
     apply W.sr
     apply omv; rfl; rfl
     apply oas; rfl; rfl
     apply OL.nx
     apply W.seq
     apply W.regd0; decide +kernel; kernel_rfl; decide +kernel; exact fun w hw => hw.drew
     apply qfa; rfl; rfl; rfl
     apply qld; rfl; rfl; exact .head _; rfl; rfl
     apply qbn; rfl; rfl; rfl; apply Bin.eql
     apply qmv; rfl; rfl
     apply qy; rfl; rfl; rfl; apply Pev.move; rfl; exact yes
     apply qy; rfl; rfl; rfl; apply Pev.fld; rfl; exact yes; rfl
     apply qy; rfl; rfl; rfl; apply Pev.load_blk; rfl; exact fun h => h; exact .head _; rfl; rfl
     apply qy; rfl; rfl; rfl; apply Pev.move; rfl; exact yes
     apply QL.gateOff; exact Guard.yes rfl rfl; (simp; omega); rfl
     apply QL.gateOff; exact Guard.yes rfl rfl; (simp; omega); rfl
     apply QL.gateOff; exact Guard.yes rfl rfl; (simp; omega); rfl
     apply QL.gateOff; exact Guard.yes rfl rfl; (simp; omega); rfl
     apply QL.gateOff; exact Guard.yes rfl rfl; (simp; omega); rfl
     apply qop; rfl; apply Pev.pick_off; rfl; exact yes; (intro hcond; simp; omega); rfl; exact yes
     apply qmv; rfl; rfl
     apply qno; rfl; rfl; rfl; apply Pev.fld; rfl; exact yes; rfl
     apply qno; rfl; rfl; rfl; apply Pev.load_blk; rfl; exact yes; exact .head _; rfl; rfl
     apply qno; rfl; rfl; rfl; apply Pev.bin; rfl; exact yes; rfl; exact yes; intro hcond; apply Bin.eql
     apply qno; rfl; rfl; rfl; apply Pev.move; rfl; exact yes
     apply qy; rfl; rfl; rfl; apply Pev.move; rfl; exact yes
     apply qy; rfl; rfl; rfl; apply Pev.bin; rfl; exact fun h => h; rfl; exact yes; intro hcond; apply Bin.gtr
     apply qno; rfl; rfl; rfl; apply Pev.pick_and; rfl; exact yes; rfl; exact fun h => h
     apply qno; rfl; rfl; rfl; apply Pev.move; rfl; exact yes
     apply qy; rfl; rfl; rfl; apply Pev.fld; rfl; exact yes; rfl
     apply qy; rfl; rfl; rfl; apply Pev.load_blk; rfl; exact fun h => h; exact .head _; rfl; rfl
     apply qy; rfl; rfl; rfl; apply Pev.move; rfl; exact yes
     apply qy; rfl; rfl; rfl; apply Pev.bin; rfl; exact fun h => h; rfl; exact yes; intro hcond; apply Bin.sub_in; omega
     apply QL.gateOff; exact Guard.yes rfl rfl; (focus (simp; done)); rfl
     apply QL.gateOff; exact Guard.yes rfl rfl; (focus (simp; done)); rfl
     apply qy; rfl; rfl; rfl; apply Pev.fld; rfl; exact yes; rfl
     apply qy; rfl; rfl; rfl; apply Pev.load_blk; rfl; exact fun h => h; exact .head _; rfl; rfl
     apply qy; rfl; rfl; rfl; apply Pev.move; rfl; exact yes
     apply QL.gateOff; exact Guard.yes rfl rfl; (focus (simp; done)); rfl
     apply QL.gateOff; exact Guard.yes rfl rfl; (focus (simp; done)); rfl
     apply QL.gateOff; exact Guard.yes rfl rfl; (focus (simp; done)); rfl
     apply qno; rfl; rfl; rfl; apply Pev.pick_off; rfl; exact yes; (focus (intro hcond; simp; done)); rfl; exact yes
     apply qop; rfl; apply Pev.pick_or; rfl; exact yes; rfl; exact yes
     apply QL.nil
     with_reducible apply At.next
     refine W.cond rfl (fun hb => ?_) (fun hb => ?_)
     ·apply W.sr
      apply oas; rfl; rfl
      apply OL.nx
      refine W.rt ?_
      ((with_reducible apply At.fin1); rfl; rfl; intro w' hw')
      exact ⟨by rw [hbad (by rw [hbk]; grind)], by (exact hw'.fr)⟩
     ·apply W.skip
      with_reducible apply At.in_normal
      with_reducible apply At.next
      apply W.reg
      apply obn; rfl; rfl; rfl; apply Bin.add_in; omega
      apply omv; rfl; rfl
      apply OL.nil
      exact At.again (0 + 1) ⟨by omega, hagain (by first | exact hbk | (rw [hbk]; grind))⟩ (by omega) (by exact Sub.au) (fun w' hw' => hw')
    ·obtain ⟨ab2, vm, hqb2, _, hvm, hcm⟩ := h.b.get (i := i - 1) (by omega)
     rw [hqb] at hqb2
     obtain rfl := Option.some.inj hqb2
     have e2 : x.binds.getD (i - 1) 0 = vm := by simp [List.getD, hvm]
     have hbk : bindOk (es.map Prod.fst) x i = decide (vm < vi) := by
      unfold bindOk
      rw [e1, e2]
      grind
     have hcm : w.cell? (ab.add (((i : Int) - 1).toNat * 1)) = some (.int .i64 vm) := by rw [show ((i : Int) - 1).toNat = i - 1 by omega]; exact hcm
     rw [hqb]
     apply W.sk
     apply W.sb
     apply W.sr
     apply omv; rfl; rfl
     apply oas; rfl; rfl
     apply OL.nx
     apply W.seq
     apply W.regd0; decide +kernel; kernel_rfl; decide +kernel; exact fun w hw => hw.drew
     apply qfa; rfl; rfl; rfl
     apply qld; rfl; rfl; exact .head _; rfl; rfl
     apply qbn; rfl; rfl; rfl; apply Bin.eql
     apply qmv; rfl; rfl
     apply qy; rfl; rfl; rfl; apply Pev.move; rfl; exact yes
     apply qy; rfl; rfl; rfl; apply Pev.fld; rfl; exact yes; rfl
     apply qy; rfl; rfl; rfl; apply Pev.load_blk; rfl; exact fun h => h; exact .head _; rfl; rfl
     apply qy; rfl; rfl; rfl; apply Pev.move; rfl; exact yes
     apply QL.gateOff; exact Guard.yes rfl rfl; (simp; omega); rfl
     apply QL.gateOff; exact Guard.yes rfl rfl; (simp; omega); rfl
     apply QL.gateOff; exact Guard.yes rfl rfl; (simp; omega); rfl
     apply QL.gateOff; exact Guard.yes rfl rfl; (simp; omega); rfl
     apply QL.gateOff; exact Guard.yes rfl rfl; (simp; omega); rfl
     apply qop; rfl; apply Pev.pick_off; rfl; exact yes; (intro hcond; simp; omega); rfl; exact yes
     apply qmv; rfl; rfl
     apply qno; rfl; rfl; rfl; apply Pev.fld; rfl; exact yes; rfl
     apply qno; rfl; rfl; rfl; apply Pev.load_blk; rfl; exact yes; exact .head _; rfl; rfl
     apply qno; rfl; rfl; rfl; apply Pev.bin; rfl; exact yes; rfl; exact yes; intro hcond; apply Bin.eql
     apply qno; rfl; rfl; rfl; apply Pev.move; rfl; exact yes
     apply qy; rfl; rfl; rfl; apply Pev.move; rfl; exact yes
     apply qy; rfl; rfl; rfl; apply Pev.bin; rfl; exact fun h => h; rfl; exact yes; intro hcond; apply Bin.gtr
     apply qno; rfl; rfl; rfl; apply Pev.pick_and; rfl; exact yes; rfl; exact fun h => h
     apply qno; rfl; rfl; rfl; apply Pev.move; rfl; exact yes
     apply qy; rfl; rfl; rfl; apply Pev.fld; rfl; exact yes; rfl
     apply qy; rfl; rfl; rfl; apply Pev.load_blk; rfl; exact fun h => h; exact .head _; rfl; rfl
     apply qy; rfl; rfl; rfl; apply Pev.move; rfl; exact yes
     apply qy; rfl; rfl; rfl; apply Pev.bin; rfl; exact fun h => h; rfl; exact yes; intro hcond; apply Bin.sub_in; omega
     apply qy; rfl; rfl; rfl; apply Pev.idxI; rfl; exact fun h => h; rfl; exact fun h => h; rfl; intro hcond; omega
     apply qy; rfl; rfl; rfl; apply Pev.load_kept; rfl; exact fun h => h; exact .head _; rfl; intro hcond; assumption; intro hcond; (rw [add_block]; assumption); intro hcond; exact NotOwned.au
     apply qy; rfl; rfl; rfl; apply Pev.fld; rfl; exact yes; rfl
     apply qy; rfl; rfl; rfl; apply Pev.load_blk; rfl; exact fun h => h; exact .head _; rfl; rfl
     apply qy; rfl; rfl; rfl; apply Pev.move; rfl; exact yes
     apply qy; rfl; rfl; rfl; apply Pev.idx; rfl; exact fun h => h; rfl; exact fun h => h; rfl; rfl; intro hcond; omega
     apply qy; rfl; rfl; rfl; apply Pev.load_kept; rfl; exact fun h => h; exact .head _; rfl; intro hcond; assumption; intro hcond; (rw [add_block]; assumption); intro hcond; exact NotOwned.au
     apply qy; rfl; rfl; rfl; apply Pev.bin; rfl; exact fun h => h; rfl; exact fun h => h; intro hcond; apply Bin.geq
     apply qno; rfl; rfl; rfl; apply Pev.pick_and; rfl; exact yes; rfl; exact fun h => h
     apply qop; rfl; apply Pev.pick_or; rfl; exact yes; rfl; exact yes
     apply QL.nil
     with_reducible apply At.next
     refine W.cond rfl (fun hb => ?_) (fun hb => ?_)
     ·apply W.sr
      apply oas; rfl; rfl
      apply OL.nx
      refine W.rt ?_
      ((with_reducible apply At.fin1); rfl; rfl; intro w' hw')
      exact ⟨by rw [hbad (by rw [hbk]; grind)], by (exact hw'.fr)⟩
     ·apply W.skip
      with_reducible apply At.in_normal
      with_reducible apply At.next
      apply W.reg
      apply obn; rfl; rfl; rfl; apply Bin.add_in; omega
      apply omv; rfl; rfl
      apply OL.nil
      exact At.again (i + 1) ⟨by omega, hagain (by first | exact hbk | (rw [hbk]; grind))⟩ (by omega) (by exact Sub.au) (fun w' hw' => hw')
   ·have hbk : bindOk (es.map Prod.fst) x i = true := by unfold bindOk; grind
    apply W.sk
    apply W.sb
    apply W.sr
    apply omv; rfl; rfl
    apply oas; rfl; rfl
    apply OL.nx
    apply W.seq
    apply W.regd0; decide +kernel; kernel_rfl; decide +kernel; exact fun w hw => hw.drew
    apply qfa; rfl; rfl; rfl
    apply qld; rfl; rfl; exact .head _; rfl; rfl
    apply qbn; rfl; rfl; rfl; apply Bin.eql
    apply qmv; rfl; rfl
    apply qy; rfl; rfl; rfl; apply Pev.move; rfl; exact yes
    apply qy; rfl; rfl; rfl; apply Pev.fld; rfl; exact yes; rfl
    apply qy; rfl; rfl; rfl; apply Pev.load_blk; rfl; exact fun h => h; exact .head _; rfl; rfl
    apply qy; rfl; rfl; rfl; apply Pev.move; rfl; exact yes
    apply QL.gateOff; exact Guard.yes rfl rfl; (simp; omega); rfl
    apply QL.gateOff; exact Guard.yes rfl rfl; (simp; omega); rfl
    apply QL.gateOff; exact Guard.yes rfl rfl; (simp; omega); rfl
    apply QL.gateOff; exact Guard.yes rfl rfl; (simp; omega); rfl
    apply QL.gateOff; exact Guard.yes rfl rfl; (simp; omega); rfl
    apply qop; rfl; apply Pev.pick_off; rfl; exact yes; (intro hcond; simp; omega); rfl; exact yes
    apply qmv; rfl; rfl
    apply qno; rfl; rfl; rfl; apply Pev.fld; rfl; exact yes; rfl
    apply qno; rfl; rfl; rfl; apply Pev.load_blk; rfl; exact yes; exact .head _; rfl; rfl
    apply qno; rfl; rfl; rfl; apply Pev.bin; rfl; exact yes; rfl; exact yes; intro hcond; apply Bin.eql
    apply qno; rfl; rfl; rfl; apply Pev.move; rfl; exact yes
    apply qy; rfl; rfl; rfl; apply Pev.move; rfl; exact yes
    apply qy; rfl; rfl; rfl; apply Pev.bin; rfl; exact fun h => h; rfl; exact yes; intro hcond; apply Bin.gtr
    apply qno; rfl; rfl; rfl; apply Pev.pick_and; rfl; exact yes; rfl; exact fun h => h
    apply qno; rfl; rfl; rfl; apply Pev.move; rfl; exact yes
    apply qy; rfl; rfl; rfl; apply Pev.fld; rfl; exact yes; rfl
    apply qy; rfl; rfl; rfl; apply Pev.load_blk; rfl; exact fun h => h; exact .head _; rfl; rfl
    apply qy; rfl; rfl; rfl; apply Pev.move; rfl; exact yes
    apply qy; rfl; rfl; rfl; apply Pev.bin; rfl; exact fun h => h; rfl; exact yes; intro hcond; apply Bin.sub_in; omega
    apply QL.gateOff; exact Guard.yes rfl rfl; (simp; omega); rfl
    apply QL.gateOff; exact Guard.yes rfl rfl; (simp; omega); rfl
    apply qy; rfl; rfl; rfl; apply Pev.fld; rfl; exact yes; rfl
    apply qy; rfl; rfl; rfl; apply Pev.load_blk; rfl; exact fun h => h; exact .head _; rfl; rfl
    apply qy; rfl; rfl; rfl; apply Pev.move; rfl; exact yes
    apply QL.gateOff; exact Guard.yes rfl rfl; (simp; omega); rfl
    apply QL.gateOff; exact Guard.yes rfl rfl; (simp; omega); rfl
    apply QL.gateOff; exact Guard.yes rfl rfl; (simp; omega); rfl
    apply qno; rfl; rfl; rfl; apply Pev.pick_off; rfl; exact yes; (intro hcond; simp; omega); rfl; exact yes
    apply qop; rfl; apply Pev.pick_or; rfl; exact yes; rfl; exact yes
    apply QL.nil
    with_reducible apply At.next
    refine W.cond rfl (fun hb => ?_) (fun hb => ?_)
    ·apply W.sr
     apply oas; rfl; rfl
     apply OL.nx
     refine W.rt ?_
     ((with_reducible apply At.fin1); rfl; rfl; intro w' hw')
     exact ⟨by rw [hbad (by rw [hbk]; grind)], by (exact hw'.fr)⟩
    ·apply W.skip
     with_reducible apply At.in_normal
     with_reducible apply At.next
     apply W.reg
     apply obn; rfl; rfl; rfl; apply Bin.add_in; omega
     apply omv; rfl; rfl
     apply OL.nil
     exact At.again (i + 1) ⟨by omega, hagain (by first | exact hbk | (rw [hbk]; grind))⟩ (by omega) (by exact Sub.au) (fun w' hw' => hw')
 ·obtain rfl : i = x.binds.length := by omega
  have hkb : kidsB (es.map Prod.fst) x = true := all_range hall
  refine W.xt ?_
  with_reducible apply At.next
  apply W.sr
  apply oas; rfl; rfl
  apply OL.nx
  apply W.ret
  ((with_reducible apply At.fin1); rfl; rfl; intro w' hw')
  exact ⟨by rw [hn0, if_neg (by simp [hkb])], by (exact hw'.fr)⟩
end Go.Proofs.YtkpjndhgicbjjaaDoor.co

/- Nodes of four cells (two strings, two pointers), each in a block of its own: an item for a table of them; loads, stores of the pointers, new ones, comparisons of pointers. General. No condition. -/
namespace Go.Eng
open Go.RowKit
structure Nd where
 key : ByteArray
 val : ByteArray
 nx : Option Nat
 pr : Option Nat
abbrev NdT := Nat → Option Nd
def ptrO : Option Nat → Value | none => .pointer none | some k => .pointer (some ⟨k, 0, none⟩)
def ndc (x : Nd) : List Value := [.string x.key, .string x.val, ptrO x.nx, ptrO x.pr]
def nds (t : TypeId) (f : NdT) : Item :=
 ⟨fun k => (f k).isSome = true, fun w => ∀ k x, f k = some x → w.heap[k]? = some (.cells (ndc x).toArray t (0, 0)), fun w w' hk h k x hx => (hk k (by simp [hx])).trans (h k x hx)⟩
theorem NotOwned.nds {H : List Item} {t : TypeId} {f : NdT} {k : Nat} (h : f k = none) (r : NotOwned H k) : NotOwned (Eng.nds t f :: H) k := NotOwned.any (fun hm => by
 have hm' : (f k).isSome = true := hm
 rw [h] at hm'; cases hm') r
section
variable {P : Program} {n : Nm} {l : Env} {H : List Item} {S : List World} {C : World → Prop} {c : Bool} {d : Option Nat} {ty : TypeId} {pos : String} {af : Array Edge} {g : Option (Nat × Bool)}
variable {ops : Array Oper} {rest : List Oper} {Q : Exit → Act → World → Prop} {t : TypeId} {x y z : Operand} {cx cy cz : Bool}
theorem row_le {w : World} {base m cap size : Nat} {O : Nat → Prop} {q : Option Addr} {e : TypeId} {xs : List Value} (h : (row base O q m cap e size xs).holds w) : m ≤ cap := by
 rcases h.2.2 with ⟨h3, h4⟩ | ⟨g, cap', cur, h3, hb, hg, h4, h5⟩
 ·omega
 ·simp only [Value.slice.injEq] at h3
  obtain ⟨_, _, rfl⟩ := h3
  exact h4
theorem Thin.row {base m cap size : Nat} {O : Nat → Prop} {q : Option Addr} {e : TypeId} {xs : List Value} {H' : List Item} (hb : AllLe S base) (h : Thin S H H') : Thin S (Eng.row base O q m cap e size xs :: H) H' :=
 Thin.any (fun k hk => by
  have := hb.mem
  have hk' : base ≤ k := hk.1
  clear hk hb h
  induction S with
  | nil => trivial
  | cons s S ih => exact ⟨Nat.le_trans (this s (.head _)) hk', ih fun s hs => this s (.tail _ hs)⟩) h
end
end Go.Eng

/- Rows: a full block is one; one row appended to another; a part of one; results of which the first stands in a block. General. No condition. -/
namespace Go.Eng
open Go.RowKit
section
variable {P : Program} {n : Nm} {l : Env} {H : List Item} {S : List World} {C : World → Prop} {c : Bool} {d : Option Nat} {ty : TypeId} {pos : String} {af : Array Edge} {g : Option (Nat × Bool)}
variable {ops : Array Oper} {rest : List Oper} {Q : Exit → Act → World → Prop}
variable {t : TypeId} {x y z : Operand} {cx cy cz : Bool}
theorem Cls.blk_row {b base m sz : Nat} {e : TypeId} {cs : List Value} {w : World} (h : Cls (blk b e cs :: H) S w) (hb : base ≤ b) (hl : cs.length = m * sz) (hm : m ≤ maxLen) : Cls (row base (fun k => k = b) (some ⟨b, 0, none⟩) m m e sz cs :: H) S w := by
 have hd := List.pairwise_cons.1 h.dj
 have h0 : (blk b e cs).holds w := h.holds _ (.head _)
 refine ⟨fun i hi => ?_, fun i hi => ?_, .cons (fun j hj k hk => hd.1 j hj k hk.2) hd.2, fun s hs => (h.kp s hs).mono fun k _ ⟨j, hj, hjk⟩ => ?_⟩
 ·cases hi with
  | head => exact ⟨fun a ha => by cases ha; rfl, hl, .inr ⟨b, m, cs.toArray, rfl, hb, h0, Nat.le_refl _, hm, by simpa using hl, List.take_of_length_le (by simp [hl])⟩⟩
  | tail _ hi => exact h.holds _ (.tail _ hi)
 ·cases hi with
  | head => exact fun k hk => h.lt _ (.head _) k hk.2
  | tail _ hi => exact h.lt _ (.tail _ hi)
 ·cases hj with
  | head =>
   have hjk' : k = b := hjk
   exact ⟨_, .head _, by rw [hjk']; exact hb, hjk'⟩
  | tail _ hj => exact ⟨_, .tail _ hj, hjk⟩
theorem At.cls {e : Exit} {C' : World → Prop} (hc : ∀ w, C w → C' w) (h : At n Q e l C') : At n Q e l C := ⟨fun a w s c => h.run a w s (hc w c)⟩
end
end Go.Eng

/- Append of a slice that reads, of any length, to a grown row. General. No condition. -/
namespace Go.Eng
open Go.RowKit
section
variable {P : Program} {n : Nm} {l : Env} {H : List Item} {S : List World} {C : World → Prop} {ty : TypeId} {pos : String} {af : Array Edge}
variable {ops : Array Oper} {rest : List Oper} {Q : Exit → Act → World → Prop} {t : TypeId} {x y : Operand}
theorem run_append_src_nil2 {w : World} {ty e : TypeId} {i : TypeInfo} {q : Option Addr} {m cap cap2 : Nat} (ht : P.underlying t = some (.slice e)) (hi : P.info? e = some i) (hc : m ≤ cap) :
  (Builtin.append_ #[t, t] ty #[.slice q m cap, .slice none 0 cap2]).run P w = .ok (.slice q m cap) w := by
 cases q <;> simp [Builtin.append_, run_underlying ht, sizeOf, typeInfo, hi, Builtin.lenOf, hc, Builtin.firstCells, loadCells, loadCellsFrom, storeCells]
theorem OL.appendK {F : Item → List Item} {e : TypeId} {dd sz bb p m cap cap2 m2 base : Nat} {O : Nat → Prop} {q q2 : Option Addr} {xs news : List Value}
  (hx : evl l x = some (true, .slice q m cap)) (hy : evl l y = some (true, .slice q2 m2 cap2)) (hn : Nat.ble (dd + 1) n.n = true)
  (hu : rowElem P t = some (e, sz, bb)) (hp' : Hole p H (row base O q m cap e sz xs) F) (hsl : ∀ w, Cls H S w → SlAt w w.heap.size q2 news) (hl : news.length = m2 * sz) (h1 : oneL news = true)
  (hs : ∃ s ∈ S, base ≤ s.heap.size) (hlim : (m + m2) ≤ 9223372036854775807 ∧ (m + m2) * bb ≤ 140737488355328)
  (k : ∀ (O' : Nat → Prop) (q' : Option Addr) (cap' : Nat), OL P n ops Q rest ((dd, true, .slice q' (m + m2) cap') :: l) (Cls (F (row base O' q' (m + m2) cap' e sz (xs ++ news))) S)) :
  OL P n ops Q (⟨some dd, .call { callee := .builtin .append, args := #[x, y], argTypes := #[t, t] }, ty, pos, af, none⟩ :: rest) l (Cls H S) := by
 have hp := hp'.eq.1
 have hF := hp'.eq.2
 refine OL.newT (α := (Nat → Prop) × Option Addr × Nat) (C' := fun r w => Cls (H.set p (row base r.1 r.2.1 (m + m2) r.2.2 e sz (xs ++ news))) S w) rfl rfl hn (fun r => .slice r.2.1 (m + m2) r.2.2) (fun a w hs' hc => ?_) (fun r => by rw [← hF]; exact k r.1 r.2.1 r.2.2)
 obtain ⟨i, z, g1, g2, g3, g4, g5, g6, g7⟩ := rowElem_spec hu
 obtain ⟨s, hsm, hsb⟩ := hs
 have hbw : base ≤ w.heap.size := Nat.le_trans hsb (hc.kp s hsm).size
 have hi := hc.item (List.mem_of_getElem? hp)
 cases q2 with
 | none =>
  have hm2 : news = [] := by
   cases news with
   | nil => rfl
   | cons v r =>
    obtain ⟨a, ha, _⟩ := hsl w hc (by simp)
    cases ha
  subst hm2
  have hm0 : m2 = 0 := by
   rcases Nat.eq_zero_or_pos m2 with h0 | h0
   ·exact h0
   ·have := Nat.mul_pos h0 g7
    simp at hl
    omega
  subst hm0
  refine ⟨(O, q, cap), w, ?_, ?_⟩
  ·simp only [execOp, resolve, invoke, builtin, Sem.run_bind, Sem.run_pure, Result.andThen_ok, List.map_toArray, List.map_cons, List.map_nil, hs'.eval hx rfl, hs'.eval hy rfl, run_append_src_nil2 (P := P) (cap2 := cap2) (w := w) (ty := ty) (q := q) g1 g2 (row_le hi)]
   rfl
  ·simp only [List.append_nil, Nat.add_zero]
   rwa [set_same hp]
 | some ad =>
  have hnews : ∀ j u, news[j]? = some u → w.cell? (ad.add j) = some u := fun j u hj => by
   obtain ⟨a, ha, _, hca⟩ := hsl w hc (by have := (List.getElem?_eq_some_iff.1 hj).1; omega)
   obtain rfl := Option.some.inj ha
   exact hca j u hj
  obtain ⟨v', w', hr, h2, h3, h4, h5⟩ := run_append_own_at (P := P) (w := w) base t ty e i z sz bb g1 g2 g3 g4 g5 g6 g7 _ m xs hi.2 ad m2 cap2 news hl hnews (fun u hu => oneL_mem h1 u hu) hlim.1 hlim.2 hbw
  have hown : ∀ k, some k = (Value.slice q m cap).ownBlock → base ≤ k ∧ O k := fun k hk => by
   cases q with
   | none => simp [Value.ownBlock] at hk
   | some a =>
    simp only [Value.ownBlock, Option.some.injEq] at hk
    subst hk
    exact ⟨(World.ownsRow.lt hi.2 _ rfl).1, hi.1 _ rfl⟩
  rcases h2.2 with ⟨rfl, h0⟩ | ⟨g', cap', cur, rfl, hb', hg', hrest⟩
  ·refine ⟨(O, none, 0), w', ?_, ?_⟩
   ·simp only [execOp, resolve, invoke, builtin, Sem.run_bind, Sem.run_pure, Result.andThen_ok, List.map_toArray, List.map_cons, List.map_nil, hs'.eval hx rfl, hs'.eval hy rfl, hr, h0]
   ·rw [h0] at h2 ⊢
    refine hc.turn p hp (j := row base O none 0 0 e sz (xs ++ news)) ⟨h3.os, h3.tape, h3.output, h3.size, fun k hk hO => h3.block k hk (fun e => hO (hown k e))⟩ ⟨fun a ha => (by cases ha), h2⟩ (fun k hk => ⟨.inl hk, Nat.lt_of_lt_of_le (hc.lt _ (List.mem_of_getElem? hp) k hk) h3.size⟩) (fun k hk => hk)
  ·refine ⟨(fun k => O k ∨ k = g', some ⟨g', 0, none⟩, cap'), w', ?_, ?_⟩
   ·simp only [execOp, resolve, invoke, builtin, Sem.run_bind, Sem.run_pure, Result.andThen_ok, List.map_toArray, List.map_cons, List.map_nil, hs'.eval hx rfl, hs'.eval hy rfl, hr]
   ·refine hc.turn p hp (j := row base (fun k => O k ∨ k = g') (some ⟨g', 0, none⟩) (m + m2) cap' e sz (xs ++ news)) ⟨h3.os, h3.tape, h3.output, h3.size, fun k hk hO => h3.block k hk (fun e => hO (hown k e))⟩ ?_ ?_ ?_
    ·exact ⟨fun a ha => by cases ha; exact .inr rfl, h2⟩
    ·intro k hk
     have hlt : g' < w'.heap.size := (Array.getElem?_eq_some_iff.1 hg').1
     rcases hk.2 with h | h
     ·exact ⟨.inl ⟨hk.1, h⟩, Nat.lt_of_lt_of_le (hc.lt _ (List.mem_of_getElem? hp) k ⟨hk.1, h⟩) h3.size⟩
     ·subst h
      refine ⟨?_, hlt⟩
      rcases h5 with h5 | h5
      ·exact .inl (hown k (by rw [← h5]; rfl))
      ·simp only [Value.ownBlock, Option.some.injEq] at h5
       exact .inr (by omega)
    ·exact fun k hk => ⟨hk.1, .inl hk.2⟩
end
end Go.Eng

/- The walks of core's Binders and Bound. Conditions: none. -/
namespace Go.Co
open Go.Eng Go.RowKit
def bindersT (op : Int) (binds : List Int) (alts : List Al) : List Int := (if op = 2 ∨ op = 4 ∨ op = 5 then binds else []) ++ alts.flatMap Al.binds
structure NodeO (w : World) (O : Nat → Prop) (b : Nat) (op n : Int) (binds : List Int) (kl : Nat) (alts : List Al) (y : ExY) : Prop where
 own : O b
 cells : CellsAt w ⟨b, 0, none⟩ [.int .i64 op, .int .i64 n, .slice y.b.1 binds.length y.b.2, .slice y.k.1 kl y.k.2, .slice y.a.1 alts.length y.a.2]
 bl : binds.length ≤ 16
 al : alts.length ≤ 4096
 ab : ∀ a ∈ alts, a.binds.length ≤ 16
 b : IntsO w O binds y.b.1
 a : ArrP altR_ w O alts y.a.1
theorem NodeO.stab {w w' : World} {O : Nat → Prop} {b : Nat} {op n : Int} {binds : List Int} {kl : Nat} {alts : List Al} {y : ExY} (hk : ∀ k, O k → w'.heap[k]? = w.heap[k]?) (h : NodeO w O b op n binds kl alts y) : NodeO w' O b op n binds kl alts y :=
 ⟨h.own, cells_stab (hk _ h.own) h.cells, h.bl, h.al, h.ab, h.b.stab hk, h.a.stab hk⟩
theorem NodeO.mono {w : World} {O O' : Nat → Prop} {b : Nat} {op n : Int} {binds : List Int} {kl : Nat} {alts : List Al} {y : ExY} (hk : ∀ k, O k → O' k) (h : NodeO w O b op n binds kl alts y) : NodeO w O' b op n binds kl alts y :=
 ⟨hk _ h.own, h.cells, h.bl, h.al, h.ab, h.b.mono hk, h.a.mono hk⟩
theorem NodeO.at {w w' : World} {b : Nat} {op n : Int} {binds : List Int} {kl : Nat} {alts : List Al} {y : ExY} {H : List Eng.Item} {S : List World} (h : NodeO w (low w) b op n binds kl alts y) (hw : Cls H S w') (hs : w ∈ S) (hno : ∀ k, k < w.heap.size → NotOwned H k) : NodeO w' (low w') b op n binds kl alts y :=
 NodeO.mono (hw.up hs) (NodeO.stab (hw.same hs hno) h)
theorem ints_oneL (l : List Int) : oneL (ints l) = true := by
 induction l with
 | nil => rfl
 | cons x r ih => simp only [ints, List.map_cons, oneL] at ih ⊢; rw [ih]; rfl
theorem rowInts {H : List Eng.Item} {S : List World} {w w' : World} {B m cap : Nat} {O : Nat → Prop} {q : Option Addr} {e : TypeId} {l : List Int} (h : Cls H S w') (hr : row B O q m cap e 1 (ints l) ∈ H) (hB : w.heap.size ≤ B) : IntsO w' (fresh w w') l q := fun hl => by
 have h1 := h.item hr
 obtain ⟨a, h3, _, h5⟩ := SlAt.of_row h1 (by rw [ints_length]; exact hl)
 have h6 := h1.1 a h3
 have hb : B ≤ a.block := by
  rcases h1.2.2 with ⟨h7, _⟩ | ⟨g, cap', cur, h7, hb, _⟩
  ·simp only [Value.slice.injEq] at h7
   rw [h7.1] at h3; cases h3
  ·simp only [Value.slice.injEq] at h7
   rw [h7.1] at h3
   obtain rfl := Option.some.inj h3
   exact hb
 exact ⟨a, h3, ⟨Nat.le_trans hB hb, h.lt _ hr _ ⟨hb, h6⟩⟩, h5⟩
theorem flat_len {l : List Al} (h : ∀ a ∈ l, a.binds.length ≤ 16) : (l.flatMap Al.binds).length ≤ l.length * 16 := by
 induction l with
 | nil => simp
 | cons x r ih =>
  have h1 := h x (.head _)
  have h2 := ih fun a ha => h a (.tail _ ha)
  simp only [List.flatMap_cons, List.length_append, List.length_cons]
  omega
end Go.Co
namespace Go.Proofs.YtkpjndhgicbjjaaDoor.co
open Go.RowKit Go.Eng Go.Co
set_option maxRecDepth 100000
structure GR where
 O : Nat → Prop
 q : Option Addr
 c : Nat
theorem Binders_calls (b : Nat) (op n : Int) (binds : List Int) (kl : Nat) (alts : List Al) (y : ExY) (w : World) (h : NodeO w (low w) b op n binds kl alts y) :
  Calls Tryd.prog 57 [.pointer (some ⟨b, 0, none⟩)].toArray w fun e w' => ∃ q c, e = .returned (.slice q (bindersT op binds alts).length c) ∧ Ext w w' ∧ IntsO w' (fresh w w') (bindersT op binds alts) q ∧ (bindersT op binds alts).length ≤ c := by
 obtain ⟨ps, hps, harr⟩ := h.a
 have hpl : alts.length = ps.length := by rw [← hps, List.length_map]
 have hbl := h.bl
 have hal := h.al
 have hab := h.ab
 have hbw : b < w.heap.size := h.own
 have hcells := h.cells
 have hcellI : ∀ {j : Nat} {v : Value}, ([.int .i64 op, .int .i64 n, .slice y.b.1 binds.length y.b.2, .slice y.k.1 kl y.k.2, .slice y.a.1 alts.length y.a.2] : List Value)[j]? = some v → w.cell? ⟨b, 0 + j, none⟩ = some v := fun {j v} hj => by
  have := hcells j v hj
  rwa [add_mid] at this
 have h0 := hcellI (j := 0) rfl
 have h2 := hcellI (j := 2) rfl
 have h4 := hcellI (j := 4) rfl
 refine enter Tryd.func57 rfl Tryd.ntmps57 rfl (Cls.start w) ?_
 (simp only [argEnv, Nat.zero_add, Nat.reduceAdd])
 apply W.sr
 apply oas; rfl; rfl
 apply OL.nsr
 apply oas; rfl; rfl
 apply OL.nx
 apply W.seq
 apply W.sr
 apply omv; rfl; rfl
 apply oop; rfl; apply Pev.nil_ptr; rfl; exact yes
 apply ofa; rfl; rfl; rfl
 apply oop; rfl; apply Pev.load_kept; rfl; exact yes; exact .head _; rfl; intro hcond; assumption; intro hcond; assumption; intro hcond; exact NotOwned.au
 apply obn; rfl; rfl; rfl; apply Bin.eql
 apply omv; rfl; rfl
 apply ono; rfl; rfl; rfl; apply Pev.move; rfl; exact yes
 apply ono; rfl; rfl; rfl; apply Pev.nil_ptr; rfl; exact fun h => h
 apply ono; rfl; rfl; rfl; apply Pev.fld; rfl; exact fun h => h; rfl
 apply ono; rfl; rfl; rfl; apply Pev.load_kept; rfl; exact fun h => h; exact .head _; rfl; intro hcond; assumption; intro hcond; assumption; intro hcond; exact NotOwned.au
 apply ono; rfl; rfl; rfl; apply Pev.bin; rfl; exact fun h => h; rfl; exact yes; intro hcond; apply Bin.eql
 apply oop; rfl; apply Pev.pick_or; rfl; exact yes; rfl; exact fun h => h
 apply omv; rfl; rfl
 apply ono; rfl; rfl; rfl; apply Pev.move; rfl; exact yes
 apply ono; rfl; rfl; rfl; apply Pev.nil_ptr; rfl; exact fun h => h
 apply ono; rfl; rfl; rfl; apply Pev.fld; rfl; exact fun h => h; rfl
 apply ono; rfl; rfl; rfl; apply Pev.load_kept; rfl; exact fun h => h; exact .head _; rfl; intro hcond; assumption; intro hcond; assumption; intro hcond; exact NotOwned.au
 apply ono; rfl; rfl; rfl; apply Pev.bin; rfl; exact fun h => h; rfl; exact yes; intro hcond; apply Bin.eql
 apply oop; rfl; apply Pev.pick_or; rfl; exact yes; rfl; exact fun h => h
 apply OL.nx
 refine W.cls (fun w' hw' => hw'.row_nil w.heap.size 3 1) ?_
 refine W.joinx (G := GR) (fun _ => True) (fun g => [(0, true, .pointer (some ⟨b, 0, none⟩)), (3, true, .slice g.q (if op = 2 ∨ op = 4 ∨ op = 5 then binds else []).length g.c)]) (fun g => Cls [row w.heap.size g.O g.q (if op = 2 ∨ op = 4 ∨ op = 5 then binds else []).length g.c 3 1 (ints (if op = 2 ∨ op = 4 ∨ op = 5 then binds else []))] [w]) ?_ ?_
 ·refine W.cond rfl (fun hb => ?_) (fun hb => ?_)
  ·have hop : op = 2 ∨ op = 4 ∨ op = 5 := by grind
   rw [if_pos hop]
   apply W.reg
   apply omv; rfl; rfl
   apply omv; rfl; rfl
   apply oop; rfl; apply Pev.nil_ptr; rfl; exact yes
   apply ofa; rfl; rfl; rfl
   apply oop; rfl; apply Pev.load_kept; rfl; exact yes; exact .head _; rfl; intro hcond; assumption; intro hcond; assumption; intro hcond; exact NotOwned.au
   (apply OL.appendK (news := ints binds)); rfl; rfl; rfl; rfl; (exact Hole.au); (exact fun w2 hw2 => (h.b.at hw2 (.head _) (fun k hk => by exact NotOwned.au)).slAt); (rw [ints_length, Nat.mul_one]); (exact ints_oneL _); (exact ⟨w, .head _, Nat.le_refl _⟩); (omega); (intro O1 q1 c1)
   simp only [Nat.zero_add, List.nil_append]
   apply oas; rfl; rfl
   apply OL.nil
   exact At.joinedx ⟨O1, q1, c1⟩ trivial (by exact Sub.au) (fun w' hw' => hw')
  ·have hop : ¬ (op = 2 ∨ op = 4 ∨ op = 5) := by grind
   rw [if_neg hop]
   apply W.skip
   exact At.joinedx ⟨_, none, 0⟩ trivial (by exact Sub.au) (fun w' hw' => hw')
 rintro ⟨O0, q0, c0⟩ -
 simp only
 have hL0l : (if op = 2 ∨ op = 4 ∨ op = 5 then binds else []).length ≤ 16 := by split <;> simp [hbl]
 unfold bindersT
 generalize (if op = 2 ∨ op = 4 ∨ op = 5 then binds else []) = L0 at *
 have habp : ∀ p ∈ ps, p.1.binds.length ≤ 16 := fun p hp => hab p.1 (by rw [← hps]; exact List.mem_map_of_mem hp)
 have hfl : ∀ i, ((ps.take i).flatMap fun p => p.1.binds).length ≤ 65536 := fun i => by
  have h1 := flat_len (l := alts.take i) fun a ha => hab a (List.mem_of_mem_take ha)
  have h3 : (alts.take i).flatMap Al.binds = (ps.take i).flatMap fun p => p.1.binds := by
   rw [← hps, ← List.map_take, List.flatMap_map]
  rw [h3] at h1
  simp only [List.length_take] at h1
  omega
 have hall : alts.flatMap Al.binds = ps.flatMap fun p => p.1.binds := by rw [← hps, List.flatMap_map]
 rw [hall]
 simp only [hpl] at *
 apply W.seq
 apply W.sr
 apply omv; rfl; rfl
 apply oop; rfl; apply Pev.nil_ptr; rfl; exact yes
 apply ofa; rfl; rfl; rfl
 apply oop; rfl; apply Pev.load_kept; rfl; exact yes; exact .head _; rfl; intro hcond; assumption; intro hcond; assumption; intro hcond; exact NotOwned.au
 apply oop; rfl; apply Pev.len_slice; rfl; exact yes; rfl
 apply omv; rfl; rfl
 apply OL.nx
 apply W.block
 refine W.loop (G := Nat × GR) (fun g => g.1 ≤ ps.length) (fun g => ps.length - g.1)
  (fun g => [(3, true, .slice g.2.q (L0 ++ (ps.take g.1).flatMap fun p => p.1.binds).length g.2.c), (34, true, .slice y.a.1 ps.length y.a.2), (35, true, .int .i64 (ps.length : Int)), (36, true, .int .i64 (g.1 : Int))])
  (fun g => Cls [row w.heap.size g.2.O g.2.q (L0 ++ (ps.take g.1).flatMap fun p => p.1.binds).length g.2.c 3 1 (ints (L0 ++ (ps.take g.1).flatMap fun p => p.1.binds))] [w]) (0, ⟨O0, q0, c0⟩) (by simp) (by simp only [List.take_zero, List.flatMap_nil, List.append_nil]; exact Sub.au) (fun w' hw' => by simpa using hw') ?_
 rintro ⟨i, ⟨O1, q1, c1⟩⟩ hi
 simp only at hi ⊢
 apply W.sr
 apply obn; rfl; rfl; rfl; apply Bin.lss
 apply OL.nx
 apply W.seq
 (refine W.cnd (fun hlt => ?_) (fun hlt => ?_)) <;> (try (exfalso; first | omega | exact hlt trivial | contradiction))
 ·have hil : i < ps.length := by omega
  obtain ⟨a, u, hq, hab1, hu, hcell, hok⟩ := harr.get hil
  have hab1 : a.block < w.heap.size := hab1
  have hcell : CellsAt w (a.add (i * 2)) [.int .i64 u.1.tag, .slice u.2.1 u.1.binds.length u.2.2] := hcell
  have hub := habp u (List.mem_of_getElem? hu)
  have hi1 := hfl i
  have hsnoc : (L0 ++ (ps.take (i + 1)).flatMap fun p => p.1.binds) = (L0 ++ (ps.take i).flatMap fun p => p.1.binds) ++ u.1.binds := by
   rw [List.take_add_one, hu]
   simp
  have hll : (L0 ++ (ps.take i).flatMap fun p => p.1.binds).length ≤ 65552 := by rw [List.length_append]; omega
  rw [hq]
  apply W.sk
  apply W.sb
  apply W.sr
  apply oop; rfl; apply Pev.idx; rfl; exact yes; rfl; exact yes; rfl; rfl; intro hcond; omega
  apply oop; rfl; apply Pev.load_keptA; rfl; exact yes; exact .head _; rfl; intro hcond; assumption; rfl; intro hcond; (rw [add_block]; assumption); intro hcond; exact NotOwned.au
  apply OL.alloc; rfl; rfl; exact CellsL.agg; (intro bk hbk; simp only [AllLe, and_true] at hbk)
  apply OL.storeB; rfl; rfl; exact CellsL.agg; rfl; rfl; rfl; exact Swap.au; exact Put.au
  apply OL.nx
  apply W.reg
  apply omv; rfl; rfl
  apply ofa; rfl; rfl; rfl
  apply old; rfl; rfl; exact .head _; rfl; rfl
  (apply OL.appendK (news := ints u.1.binds)); rfl; rfl; rfl; rfl; (exact Hole.au); (exact fun w2 hw2 => (hok.2.2.at hw2 (.head _) (fun k hk => by exact NotOwned.au)).slAt); (rw [ints_length, Nat.mul_one]); (exact ints_oneL _); (exact ⟨w, .head _, Nat.le_refl _⟩); (omega); (intro O2 q2 c2)
  rw [← ints_append, ← hsnoc, ← List.length_append, ← hsnoc]
  apply oas; rfl; rfl
  apply OL.nil
  with_reducible apply At.in_normal
  with_reducible apply At.next
  apply W.reg
  apply obn; rfl; rfl; rfl; apply Bin.add_in; omega
  apply omv; rfl; rfl
  apply OL.nil
  refine At.again (i + 1, ⟨O2, q2, c2⟩) (by simp only; omega) (by simp only; omega) (by exact Sub.au) (fun w' hw' => hw'.thin (by exact Thin.au))
 ·obtain rfl : i = ps.length := by omega
  rw [List.take_length]
  refine W.xt ?_
  with_reducible apply At.next
  apply W.sr
  apply omv; rfl; rfl
  apply oas; rfl; rfl
  apply OL.nx
  apply W.ret
  ((with_reducible apply At.fin1); rfl; rfl; intro w' hw')
  exact ⟨_, _, rfl, by (exact hw'.fr), rowInts hw' (.head _) (Nat.le_refl _), row_cap (hw'.item (.head _))⟩
theorem Bound_calls (b : Nat) (op n : Int) (binds : List Int) (kl : Nat) (alts : List Al) (y : ExY) (k : Nat) (w : World) (O : Nat → Prop) (hO : ∀ k, O k → k < w.heap.size) (h : NodeO w O b op n binds kl alts y) (hk : k ≤ 4096) :
  Calls Tryd.prog 65 [.pointer (some ⟨b, 0, none⟩), .int .i64 (k : Int)].toArray w fun e w' => ∃ q c, e = .returned (.slice q (bound op binds alts k).length c) ∧ Ext w w' ∧ IntsO w O (bound op binds alts k) q ∧ (bound op binds alts k).length ≤ 16 := by
 obtain ⟨ps, hps, harr⟩ := h.a
 have hpl : alts.length = ps.length := by rw [← hps, List.length_map]
 have hbl := h.bl
 have hal := h.al
 have hab := h.ab
 have hbw : b < w.heap.size := hO _ h.own
 have hcells := h.cells
 have hcellI : ∀ {j : Nat} {v : Value}, ([.int .i64 op, .int .i64 n, .slice y.b.1 binds.length y.b.2, .slice y.k.1 kl y.k.2, .slice y.a.1 alts.length y.a.2] : List Value)[j]? = some v → w.cell? ⟨b, 0 + j, none⟩ = some v := fun {j v} hj => by
  have := hcells j v hj
  rwa [add_mid] at this
 have h0 := hcellI (j := 0) rfl
 have h2 := hcellI (j := 2) rfl
 have h4 := hcellI (j := 4) rfl
 refine enter Tryd.func65 rfl Tryd.ntmps65 rfl (Cls.start w) ?_
 (simp only [argEnv, Nat.zero_add, Nat.reduceAdd])
 apply W.sr
 apply oas; rfl; rfl
 apply OL.nx
 apply W.sb
 apply W.seq
 apply W.sr
 apply omv; rfl; rfl
 apply oop; rfl; apply Pev.nil_ptr; rfl; exact yes
 apply ofa; rfl; rfl; rfl
 apply oop; rfl; apply Pev.load_kept; rfl; exact yes; exact .head _; rfl; intro hcond; assumption; intro hcond; assumption; intro hcond; exact NotOwned.au
 apply obn; rfl; rfl; rfl; apply Bin.eql
 apply oas; rfl; rfl
 apply OL.nx
 refine W.cond rfl (fun hb => ?_) (fun hb => ?_)
 ·apply W.sk
  refine W.cond rfl (fun _ => ?_) (fun hc => by grind)
  apply W.sr
  apply omv; rfl; rfl
  apply oop; rfl; apply Pev.nil_ptr; rfl; exact yes
  apply ofa; rfl; rfl; rfl
  apply oop; rfl; apply Pev.load_kept; rfl; exact yes; exact .head _; rfl; intro hcond; assumption; intro hcond; assumption; intro hcond; exact NotOwned.au
  apply oas; rfl; rfl
  apply OL.nx
  refine W.rt ?_
  ((with_reducible apply At.fin1); rfl; rfl; intro w' hw')
  have e1 : bound op binds alts k = binds := by unfold bound; rw [if_pos]; grind
  exact ⟨y.b.1, y.b.2, by rw [e1], by (exact hw'.fr), by rw [e1]; exact h.b, by rw [e1]; exact hbl⟩
 apply W.sr
 apply omv; rfl; rfl
 apply oop; rfl; apply Pev.nil_ptr; rfl; exact yes
 apply ofa; rfl; rfl; rfl
 apply oop; rfl; apply Pev.load_kept; rfl; exact yes; exact .head _; rfl; intro hcond; assumption; intro hcond; assumption; intro hcond; exact NotOwned.au
 apply obn; rfl; rfl; rfl; apply Bin.eql
 apply oas; rfl; rfl
 apply OL.nx
 refine W.cond rfl (fun hb2 => ?_) (fun hb2 => ?_)
 ·apply W.sk
  refine W.cond rfl (fun _ => ?_) (fun hc => by grind)
  apply W.sr
  apply omv; rfl; rfl
  apply oop; rfl; apply Pev.nil_ptr; rfl; exact yes
  apply ofa; rfl; rfl; rfl
  apply oop; rfl; apply Pev.load_kept; rfl; exact yes; exact .head _; rfl; intro hcond; assumption; intro hcond; assumption; intro hcond; exact NotOwned.au
  apply oas; rfl; rfl
  apply OL.nx
  refine W.rt ?_
  ((with_reducible apply At.fin1); rfl; rfl; intro w' hw')
  have e1 : bound op binds alts k = binds := by unfold bound; rw [if_pos]; grind
  exact ⟨y.b.1, y.b.2, by rw [e1], by (exact hw'.fr), by rw [e1]; exact h.b, by rw [e1]; exact hbl⟩
 apply W.reg
 apply omv; rfl; rfl
 apply oop; rfl; apply Pev.nil_ptr; rfl; exact yes
 apply ofa; rfl; rfl; rfl
 apply oop; rfl; apply Pev.load_kept; rfl; exact yes; exact .head _; rfl; intro hcond; assumption; intro hcond; assumption; intro hcond; exact NotOwned.au
 apply obn; rfl; rfl; rfl; apply Bin.eql
 apply omv; rfl; rfl
 apply oy; rfl; rfl; rfl; apply Pev.move; rfl; exact yes
 apply oy; rfl; rfl; rfl; apply Pev.bin; rfl; exact fun h => h; rfl; exact yes; intro hcond; apply Bin.eql
 apply oop; rfl; apply Pev.pick_and; rfl; exact yes; rfl; exact fun h => h
 apply oas; rfl; rfl
 apply OL.nx
 refine W.cond rfl (fun hb3 => ?_) (fun hb3 => ?_)
 ·apply W.sr
  apply omv; rfl; rfl
  apply oop; rfl; apply Pev.nil_ptr; rfl; exact yes
  apply ofa; rfl; rfl; rfl
  apply oop; rfl; apply Pev.load_kept; rfl; exact yes; exact .head _; rfl; intro hcond; assumption; intro hcond; assumption; intro hcond; exact NotOwned.au
  apply oas; rfl; rfl
  apply OL.nx
  refine W.rt ?_
  ((with_reducible apply At.fin1); rfl; rfl; intro w' hw')
  have e1 : bound op binds alts k = binds := by unfold bound; rw [if_pos]; grind
  exact ⟨y.b.1, y.b.2, by rw [e1], by (exact hw'.fr), by rw [e1]; exact h.b, by rw [e1]; exact hbl⟩
 have hno : ¬ (op = 2 ∨ op = 5 ∨ (op = 4 ∧ k = 1)) := by grind
 apply W.sr
 apply omv; rfl; rfl
 apply oop; rfl; apply Pev.nil_ptr; rfl; exact yes
 apply ofa; rfl; rfl; rfl
 apply oop; rfl; apply Pev.load_kept; rfl; exact yes; exact .head _; rfl; intro hcond; assumption; intro hcond; assumption; intro hcond; exact NotOwned.au
 apply oop; rfl; apply Pev.len_slice; rfl; exact yes; rfl
 apply obn; rfl; rfl; rfl; apply Bin.gtr
 apply omv; rfl; rfl
 apply oy; rfl; rfl; rfl; apply Pev.move; rfl; exact yes
 apply oy; rfl; rfl; rfl; apply Pev.bin; rfl; exact fun h => h; rfl; exact yes; intro hcond; apply Bin.gtr
 apply oop; rfl; apply Pev.pick_and; rfl; exact yes; rfl; exact fun h => h
 apply omv; rfl; rfl
 apply oy; rfl; rfl; rfl; apply Pev.move; rfl; exact yes
 apply oy; rfl; rfl; rfl; apply Pev.move; rfl; exact yes
 apply oy; rfl; rfl; rfl; apply Pev.nil_ptr; rfl; exact fun h => h
 apply oy; rfl; rfl; rfl; apply Pev.fld; rfl; exact fun h => h; rfl
 apply oy; rfl; rfl; rfl; apply Pev.load_kept; rfl; exact fun h => h; exact .head _; rfl; intro hcond; assumption; intro hcond; assumption; intro hcond; exact NotOwned.au
 apply oy; rfl; rfl; rfl; apply Pev.len_slice; rfl; exact fun h => h; rfl
 apply oy; rfl; rfl; rfl; apply Pev.bin; rfl; exact fun h => h; rfl; exact fun h => h; intro hcond; apply Bin.leq
 apply oop; rfl; apply Pev.pick_and; rfl; exact yes; rfl; exact fun h => h
 apply oas; rfl; rfl
 apply OL.nx
 refine W.cond rfl (fun hb4 => ?_) (fun hb4 => ?_)
 ·have hka : 0 < k ∧ k ≤ alts.length := by grind
  obtain ⟨a, u, hq, hab1, hu, hcell, hok⟩ := harr.get (i := k - 1) (by omega)
  have hab1 : a.block < w.heap.size := hO _ hab1
  have hcell : CellsAt w (a.add (((k : Int) - 1).toNat * 2)) [.int .i64 u.1.tag, .slice u.2.1 u.1.binds.length u.2.2] := by rw [show ((k : Int) - 1).toNat = k - 1 by omega]; exact hcell
  have e1 : bound op binds alts k = u.1.binds := by
   unfold bound
   rw [if_neg hno, if_pos ⟨by omega, hka⟩]
   have : alts[k - 1]? = some u.1 := by rw [← hps, List.getElem?_map, hu]; rfl
   simp [List.getD, this]
  rw [hq] at h4
  apply W.sr
  apply omv; rfl; rfl
  apply oop; rfl; apply Pev.nil_ptr; rfl; exact yes
  apply ofa; rfl; rfl; rfl
  apply oop; rfl; apply Pev.load_kept; rfl; exact yes; exact .head _; rfl; intro hcond; assumption; intro hcond; assumption; intro hcond; exact NotOwned.au
  apply omv; rfl; rfl
  apply obn; rfl; rfl; rfl; apply Bin.sub_in; omega
  apply oop; rfl; apply Pev.idxI; rfl; exact yes; rfl; exact yes; rfl; intro hcond; omega
  apply oop; rfl; apply Pev.fldA; rfl; exact yes; rfl
  apply oop; rfl; apply Pev.load_kept; rfl; exact yes; exact .head _; rfl; intro hcond; apply CellsAt.at_ (by assumption) rfl; intro hcond; (simp only [add_block]; assumption); intro hcond; exact NotOwned.au
  apply oas; rfl; rfl
  apply OL.nx
  refine W.rt ?_
  ((with_reducible apply At.fin1); rfl; rfl; intro w' hw')
  exact ⟨u.2.1, u.2.2, by rw [e1], by (exact hw'.fr), by rw [e1]; exact hok.2.2, by rw [e1]; exact hab u.1 (by rw [← hps]; exact List.mem_map_of_mem (List.mem_of_getElem? hu))⟩
 ·have e1 : bound op binds alts k = [] := by
   unfold bound
   rw [if_neg hno, if_neg]
   grind
  apply W.skip
  with_reducible apply At.in_normal
  with_reducible apply At.next
  apply W.sr
  apply oas; rfl; rfl
  apply OL.nx
  apply W.ret
  ((with_reducible apply At.fin1); rfl; rfl; intro w' hw')
  exact ⟨none, 0, by rw [e1]; rfl, by (exact hw'.fr), by rw [e1]; exact IntsO.nil, by rw [e1]; simp⟩
end Go.Proofs.YtkpjndhgicbjjaaDoor.co

/- The walk of core's twice. Conditions: none. -/
namespace Go.Co
open Go.Eng Go.RowKit
def setM (l : List Int) : MI := l.map fun k => (k, .agg #[])
theorem iget_setM (l : List Int) (k : Int) : iget (setM l) k = if k ∈ l then some (.agg #[]) else none := by
 induction l with
 | nil => rfl
 | cons x r ih =>
  show (if x = k then some (Value.agg #[]) else iget (setM r) k) = _
  by_cases h : x = k
  ·simp [h]
  ·rw [if_neg h, ih]
   have : ¬ k = x := fun e => h e.symm
   simp [this]
theorem iput_setM {l : List Int} {k : Int} (h : ¬ k ∈ l) : iput (setM l) k (.agg #[]) = setM (l ++ [k]) := by
 rw [iput_new (by rw [iget_setM, if_neg h])]
 simp [setM]
theorem iput_setM_in {l : List Int} {k : Int} (h : k ∈ l) : iput (setM l) k (.agg #[]) = setM l := by
 induction l with
 | nil => cases h
 | cons x r ih =>
  show (if x = k then (k, Value.agg #[]) :: setM r else (x, .agg #[]) :: iput (setM r) k (.agg #[])) = _
  by_cases e : x = k
  ·rw [if_pos e, e]; rfl
  ·rw [if_neg e, ih (by rcases List.mem_cons.1 h with h | h; exact absurd h.symm e; exact h)]
   rfl
structure Lim (x : Ex) : Prop where
 b : x.binds.length ≤ 16
 a : x.alts.length ≤ 4096
 ab : ∀ a ∈ x.alts, a.binds.length ≤ 16
theorem not_nodup {l m : List Int} {x : Int} (h : x ∈ l) : ¬ (l ++ x :: m).Nodup := fun hn => by
 have := (List.nodup_append.1 hn).2.2 x h x (.head _)
 exact this rfl
theorem nodup_snoc {l : List Int} {x : Int} (h : l.Nodup) (hx : ¬ x ∈ l) : (l ++ [x]).Nodup := by
 refine List.nodup_append.2 ⟨h, by simp, fun a ha b hb => ?_⟩
 obtain rfl := List.mem_singleton.1 hb
 exact fun e => hx (e ▸ ha)
end Go.Co
namespace Go.Eng
open Go.Co
section
variable {P : Program} {n : Nm} {l : Env} {H : List Item} {S : List World} {C : World → Prop} {c : Bool} {d : Option Nat} {ty : TypeId} {pos : String} {af : Array Edge} {g : Option (Nat × Bool)} {t : TypeId} {x y : Operand} {cx cy : Bool}
theorem Pev.slookup2 {k e : TypeId} {b : Nat} {m : List Int} {s : Int} (hx : evl l x = some (cx, .map (some b))) (hcx : c = true → cx = true) (hy : evl l y = some (cy, .int .i64 s)) (hcy : c = true → cy = true) (ht : mapTi P t = some (k, e)) (hz : zeroV P e = some (.agg #[])) (hm : mapI b (setM m) ∈ H) :
  Pev P n l (Cls H S) ⟨d, .lookup t x y true, ty, pos, af, g⟩ c (.tuple #[.agg #[], .bool (decide (s ∈ m))]) := by
 have h1 := Pev.ilookup2 (P := P) (n := n) (C := Cls H S) (d := d) (ty := ty) (pos := pos) (af := af) (g := g) hx hcx hy hcy ht hz (fun w hw => hw.item hm)
 rw [iget_setM] at h1
 by_cases h : s ∈ m
 ·simpa [h] using h1
 ·simpa [h] using h1
end
end Go.Eng
namespace Go.Proofs.YtkpjndhgicbjjaaDoor.co
open Go.RowKit Go.Eng Go.Co
set_option maxRecDepth 100000
theorem twice_calls (es : List (Ex × ExY)) (q qp : Option Addr) (cap cp : Nat) (ps : List Int) (w : World) (he : Arr exR w (low w) es q) (hlen : es.length ≤ 4096) (hp : IntsO w (low w) ps qp) (hpl : ps.length ≤ 4096) (hlim : ∀ p ∈ es, Lim p.1) :
  Calls Tryd.prog 42 [.slice q es.length cap, .slice qp ps.length cp].toArray w fun e w' => ∃ bb, e = .returned (.bool bb) ∧ (bb = true ↔ ¬ (ps ++ (es.map Prod.fst).flatMap bindersX).Nodup) ∧ Ext w w' := by
 refine enter Tryd.func42 rfl Tryd.ntmps42 rfl (Cls.start w) ?_
 (simp only [argEnv, Nat.zero_add, Nat.reduceAdd])
 apply W.sr
 apply oas; rfl; rfl
 apply OL.nsr
 apply OL.imakeMap; rfl; rfl; (intro bk hbk; simp only [AllLe, and_true] at hbk)
 apply oas; rfl; rfl
 apply OL.nx
 apply W.seq
 apply W.sr
 apply omv; rfl; rfl
 apply oop; rfl; apply Pev.len_slice; rfl; exact yes; rfl
 apply omv; rfl; rfl
 apply OL.nx
 apply W.block
 revert bk
 intro bm hbm
 refine W.loop (G := Nat) (fun i => i ≤ ps.length ∧ (ps.take i).Nodup) (fun i => ps.length - i)
  (fun i => [(0, true, .slice q es.length cap), (5, true, .map (some bm)), (18, true, .slice qp ps.length cp), (19, true, .int .i64 (ps.length : Int)), (20, true, .int .i64 (i : Int))])
  (fun i => Cls [mapI bm (setM (ps.take i))] [w]) 0 ⟨by omega, by simp⟩ (by exact Sub.au) (fun w' hw' => hw') ?_
 rintro i ⟨hi, hnd⟩
 apply W.sr
 apply obn; rfl; rfl; rfl; apply Bin.lss
 apply OL.nx
 apply W.seq
 (refine W.cnd (fun hlt => ?_) (fun hlt => ?_)) <;> (try (exfalso; first | omega | exact hlt trivial | contradiction))
 ·have hil : i < ps.length := by omega
  obtain ⟨a, v, hqa, hab, hv, hcell⟩ := hp.get hil
  have hab : a.block < w.heap.size := hab
  have hsplit : ps = ps.take i ++ v :: ps.drop (i + 1) := by
   obtain ⟨h1, rfl⟩ := List.getElem?_eq_some_iff.1 hv
   rw [← List.drop_eq_getElem_cons h1, List.take_append_drop]
  have htake : ps.take (i + 1) = ps.take i ++ [v] := by rw [List.take_add_one, hv]; rfl
  rw [hqa]
  apply W.sk
  apply W.sb
  apply W.sr
  apply oop; rfl; apply Pev.idx; rfl; exact yes; rfl; exact yes; rfl; rfl; intro hcond; omega
  apply oop; rfl; apply Pev.load_kept; rfl; exact yes; exact .head _; rfl; intro hcond; assumption; intro hcond; (rw [add_block]; assumption); intro hcond; exact NotOwned.au
  apply oas; rfl; rfl
  apply OL.nx
  apply W.seq
  apply W.sr
  apply omv; rfl; rfl
  apply omv; rfl; rfl
  apply oop; rfl; apply Pev.slookup2; rfl; exact yes; rfl; exact yes; rfl; rfl; exact .head _
  apply omv; rfl; rfl
  apply oex; rfl; rfl; rfl
  apply oex; rfl; rfl; rfl
  apply OL.alloc; rfl; rfl; exact CellsL.agg; (intro bk hbk; simp only [AllLe, and_true] at hbk)
  apply OL.storeB; rfl; rfl; exact CellsL.agg; rfl; rfl; rfl; exact Swap.au; exact Put.au
  apply oas; rfl; rfl
  apply OL.nsr
  apply omv; rfl; rfl
  apply OL.nx
  (refine W.cnd (fun hin => ?_) (fun hin => ?_)) <;> (try (exfalso; first | omega | exact hin trivial | contradiction))
  ·apply W.sr
   apply oas; rfl; rfl
   apply OL.nx
   refine W.rt ?_
   ((with_reducible apply At.fin1); rfl; rfl; intro w' hw')
   refine ⟨true, rfl, ⟨fun _ => ?_, fun _ => rfl⟩, by (exact hw'.fr)⟩
   rw [hsplit, List.append_assoc]
   exact not_nodup hin
  apply W.sk
  apply W.reg
  apply omv; rfl; rfl
  apply omv; rfl; rfl
  apply oop; rfl; apply Pev.build; rfl; exact CellsL.agg; rfl; exact Fill.au; rfl
  apply OL.iput; rfl; rfl; rfl; rfl; exact Hole.au
  apply OL.nil
  with_reducible apply At.in_normal
  with_reducible apply At.next
  apply W.reg
  apply obn; rfl; rfl; rfl; apply Bin.add_in; omega
  apply omv; rfl; rfl
  apply OL.nil
  rw [iput_setM hin, ← htake]
  skip
  exact At.again (i + 1) ⟨by omega, by rw [htake]; exact nodup_snoc hnd hin⟩ (by omega) (by exact Sub.au) (fun w' hw' => hw'.thin (by exact Thin.au))
 obtain rfl : i = ps.length := by omega
 rw [List.take_length] at hnd ⊢
 refine W.xt ?_
 with_reducible apply At.next
 apply W.seq
 apply W.sr
 apply omv; rfl; rfl
 apply oop; rfl; apply Pev.len_slice; rfl; exact yes; rfl
 apply omv; rfl; rfl
 apply OL.nx
 apply W.block
 refine W.loop (G := Nat) (fun i => i ≤ es.length ∧ (ps ++ ((es.take i).map Prod.fst).flatMap bindersX).Nodup) (fun i => es.length - i)
  (fun i => [(5, true, .map (some bm)), (35, true, .slice q es.length cap), (36, true, .int .i64 (es.length : Int)), (37, true, .int .i64 (i : Int))])
  (fun i => Cls [mapI bm (setM (ps ++ ((es.take i).map Prod.fst).flatMap bindersX))] [w]) 0 ⟨by omega, by simpa using hnd⟩ (by exact Sub.au) (fun w' hw' => by simpa using hw') ?_
 rintro i ⟨hi, hnd⟩
 generalize hs0 : ps ++ ((es.take i).map Prod.fst).flatMap bindersX = s0 at hnd
 apply W.sr
 apply obn; rfl; rfl; rfl; apply Bin.lss
 apply OL.nx
 apply W.seq
 (refine W.cnd (fun hlt => ?_) (fun hlt => ?_)) <;> (try (exfalso; first | omega | exact hlt trivial | contradiction))
 ·have hil : i < es.length := by omega
  obtain ⟨a, p, hqa, hab, hp, hcell, hok⟩ := he.get hil
  have hab : a.block < w.heap.size := hab
  have hcell : CellsAt w (a.add (i * 5)) [.int .i64 p.1.op, .int .i64 p.1.n, .slice p.2.b.1 p.1.binds.length p.2.b.2, .slice p.2.k.1 p.1.kids.length p.2.k.2, .slice p.2.a.1 p.1.alts.length p.2.a.2] := hcell
  have hL := hlim p (List.mem_of_getElem? hp)
  have hbx : bindersX p.1 = bindersT p.1.op p.1.binds p.1.alts := rfl
  have hsnext : ps ++ ((es.take (i + 1)).map Prod.fst).flatMap bindersX = s0 ++ bindersX p.1 := by
   rw [← hs0, List.take_add_one, hp]
   simp
  have hsall : ∃ r, ps ++ (es.map Prod.fst).flatMap bindersX = s0 ++ (bindersX p.1 ++ r) := by
   refine ⟨((es.drop (i + 1)).map Prod.fst).flatMap bindersX, ?_⟩
   rw [← List.append_assoc, ← hsnext, List.append_assoc, ← List.flatMap_append, ← List.map_append, List.take_append_drop]
  rw [hqa]
  apply W.sk
  apply W.sb
  apply W.sr
  apply oop; rfl; apply Pev.idx; rfl; exact yes; rfl; exact yes; rfl; rfl; intro hcond; omega
  apply oop; rfl; apply Pev.load_keptA; rfl; exact yes; exact .head _; rfl; intro hcond; assumption; rfl; intro hcond; (rw [add_block]; assumption); intro hcond; exact NotOwned.au
  apply OL.alloc; rfl; rfl; exact CellsL.agg; (intro bk hbk; simp only [AllLe, and_true] at hbk)
  apply OL.storeB; rfl; rfl; exact CellsL.agg; rfl; rfl; rfl; exact Swap.au; exact Put.au
  apply OL.nsr
  apply ofa; rfl; rfl; rfl
  apply old; rfl; rfl; exact .head _; rfl; rfl
  apply ofa; rfl; rfl; rfl
  apply old; rfl; rfl; exact .head _; rfl; rfl
  apply ofa; rfl; rfl; rfl
  apply old; rfl; rfl; exact .head _; rfl; rfl
  apply oop; rfl; apply Pev.build; rfl; exact CellsL.agg; rfl; exact Fill.au; rfl
  apply OL.box; rfl; rfl; exact CellsL.agg; (intro bk hbk; simp only [AllLe, and_true] at hbk)
  apply oas; rfl; rfl
  apply OL.nsr
  apply omv; rfl; rfl
  rename_i bx hbx1
  refine OL.callE (α := World × Nat × Option Addr × Nat) (fun x => .slice x.2.2.1 (bindersX p.1).length x.2.2.2) (fun x => w.heap.size ≤ x.1.heap.size ∧ bm < x.2.1 ∧ w.heap.size ≤ x.2.1 ∧ IntsO x.1 (fun k => x.2.1 ≤ k ∧ k < x.1.heap.size) (bindersX p.1) x.2.2.1 ∧ (bindersX p.1).length ≤ 9223372036854775807) (fun x => Cls [mapI bm (setM s0)] [x.1, w]) rfl rfl (by exact Args.au) (fun w2 hw2 => ?_) ?_
  ·have hb2 : (blk bk 102 [.int .i64 p.1.op, .int .i64 0, .slice p.2.b.1 p.1.binds.length p.2.b.2, .slice none 0 0, .slice p.2.a.1 p.1.alts.length p.2.a.2]).holds w2 := hw2.item (by exact mau)
   have hlt2 := hw2.lt (mapI bm (setM s0)) (by exact mau) bm rfl
   have hok2 := ExOk.at hok hw2 (.head _) (fun k hk => by exact NotOwned.au)
   have hkw := hw2.kp w (.head _)
   refine (Binders_calls bk p.1.op 0 p.1.binds 0 p.1.alts ⟨p.2.b, (none, 0), p.2.a⟩ w2 ⟨blk_lt hb2, fun j v hj => by rw [add_mid, blk_cell hb2]; simpa using hj, hL.b, hL.a, hL.ab, hok2.b, hok2.a⟩).mono fun e w3 ⟨q3, c3, h1, h2, h3, h4⟩ => ?_
   have hw3 := hw2.ext h2
   refine ⟨(w3, w2.heap.size, q3, c3), h1, ⟨Nat.le_trans hkw.size h2.size, hlt2, hkw.size, h3, ?_⟩, (hw3.thin (by exact Thin.au)).note⟩
   rw [hbx]
   unfold bindersT
   have h5 := flat_len hL.ab
   have h6 := hL.a
   have h7 := hL.b
   have h8 : (if p.1.op = 2 ∨ p.1.op = 4 ∨ p.1.op = 5 then p.1.binds else []).length ≤ p.1.binds.length := by split <;> simp
   rw [List.length_append]
   omega
  rintro ⟨w3, lo, q3, c3⟩ ⟨hsz3, hblo, hwlo, hI3, hbl3⟩
  simp only at hsz3 hblo hwlo hI3 ⊢
  generalize hbi : bindersX p.1 = bs at *
  apply oop; rfl; apply Pev.len_slice; rfl; exact yes; rfl
  apply omv; rfl; rfl
  apply OL.nx
  apply W.block
  refine W.loop (G := Nat) (fun j => j ≤ bs.length ∧ (s0 ++ bs.take j).Nodup) (fun j => bs.length - j)
   (fun j => [(5, true, .map (some bm)), (35, true, .slice (some a) es.length cap), (36, true, .int .i64 (es.length : Int)), (37, true, .int .i64 (i : Int)), (50, true, .slice q3 bs.length c3), (51, true, .int .i64 (bs.length : Int)), (52, true, .int .i64 (j : Int))])
   (fun j => Cls [mapI bm (setM (s0 ++ bs.take j))] [w3, w]) 0 ⟨by omega, by simpa using hnd⟩ (by exact Sub.au) (fun w' hw' => by simpa using hw') ?_
  rintro j ⟨hj, hnd2⟩
  apply W.sr
  apply obn; rfl; rfl; rfl; apply Bin.lss
  apply OL.nx
  apply W.seq
  (refine W.cnd (fun hlt2 => ?_) (fun hlt2 => ?_)) <;> (try (exfalso; first | omega | exact hlt2 trivial | contradiction))
  ·have hjl : j < bs.length := by omega
   obtain ⟨av, v, hqv, habv, hv, hcv⟩ := hI3.get hjl
   obtain ⟨habv1, habv2⟩ := habv
   have hbt : bs.take (j + 1) = bs.take j ++ [v] := by rw [List.take_add_one, hv]; rfl
   rw [hqv]
   apply W.sk
   apply W.sb
   apply W.sr
   apply oop; rfl; apply Pev.idx; rfl; exact yes; rfl; exact yes; rfl; rfl; intro hcond; omega
   apply oop; rfl; apply Pev.load_kept; rfl; exact yes; exact .head _; rfl; intro hcond; assumption; intro hcond; (rw [add_block]; assumption); intro hcond; exact NotOwned.au
   apply oas; rfl; rfl
   apply OL.nx
   apply W.seq
   apply W.sr
   apply omv; rfl; rfl
   apply omv; rfl; rfl
   apply oop; rfl; apply Pev.slookup2; rfl; exact yes; rfl; exact yes; rfl; rfl; exact .head _
   apply omv; rfl; rfl
   apply oex; rfl; rfl; rfl
   apply oex; rfl; rfl; rfl
   apply OL.alloc; rfl; rfl; exact CellsL.agg; (intro bk hbk; simp only [AllLe, and_true] at hbk)
   apply OL.storeB; rfl; rfl; exact CellsL.agg; rfl; rfl; rfl; exact Swap.au; exact Put.au
   apply oas; rfl; rfl
   apply OL.nsr
   apply omv; rfl; rfl
   apply OL.nx
   (refine W.cnd (fun hin => ?_) (fun hin => ?_)) <;> (try (exfalso; first | omega | exact hin trivial | contradiction))
   ·apply W.sr
    apply oas; rfl; rfl
    apply OL.nx
    refine W.rt ?_
    ((with_reducible apply At.fin1); rfl; rfl; intro w' hw')
    refine ⟨true, rfl, ⟨fun _ => ?_, fun _ => rfl⟩, by (exact hw'.fr)⟩
    obtain ⟨r, hr⟩ := hsall
    have hsplit : bs = bs.take j ++ v :: bs.drop (j + 1) := by
     obtain ⟨h1, rfl⟩ := List.getElem?_eq_some_iff.1 hv
     rw [← List.drop_eq_getElem_cons h1, List.take_append_drop]
    rw [hr]
    have e1 : s0 ++ (bs ++ r) = (s0 ++ bs.take j) ++ v :: (bs.drop (j + 1) ++ r) := by
     conv => lhs; rw [hsplit]
     simp [List.append_assoc]
    rw [e1]
    exact not_nodup hin
   apply W.sk
   apply W.reg
   apply omv; rfl; rfl
   apply omv; rfl; rfl
   apply oop; rfl; apply Pev.build; rfl; exact CellsL.agg; rfl; exact Fill.au; rfl
   apply OL.iput; rfl; rfl; rfl; rfl; exact Hole.au
   apply OL.nil
   with_reducible apply At.in_normal
   with_reducible apply At.next
   apply W.reg
   apply obn; rfl; rfl; rfl; apply Bin.add_in; omega
   apply omv; rfl; rfl
   apply OL.nil
   rw [iput_setM hin, List.append_assoc, ← hbt]
   skip
   exact At.again (j + 1) ⟨by omega, by rw [hbt, ← List.append_assoc]; exact nodup_snoc hnd2 hin⟩ (by omega) (by exact Sub.au) (fun w' hw' => hw'.thin (by exact Thin.au))
  ·obtain rfl : j = bs.length := by omega
   rw [List.take_length] at hnd2 ⊢
   rw [← hsnext] at hnd2 ⊢
   refine W.xt ?_
   with_reducible apply At.in_normal
   with_reducible apply At.next
   apply W.reg
   apply obn; rfl; rfl; rfl; apply Bin.add_in; omega
   apply omv; rfl; rfl
   apply OL.nil
   exact At.again (i + 1) ⟨by omega, hnd2⟩ (by omega) (by exact Sub.au) (fun w' hw' => hw'.forget (by simp))
 ·obtain rfl : i = es.length := by omega
  rw [List.take_length] at hs0
  refine W.xt ?_
  with_reducible apply At.next
  apply W.sr
  apply oas; rfl; rfl
  apply OL.nx
  apply W.ret
  ((with_reducible apply At.fin1); rfl; rfl; intro w' hw')
  refine ⟨false, rfl, ⟨fun h => (by cases h), fun h => absurd (show (ps ++ (es.map Prod.fst).flatMap bindersX).Nodup by rw [hs0]; exact hnd) h⟩, by (exact hw'.fr)⟩
end Go.Proofs.YtkpjndhgicbjjaaDoor.co

/- Trees of core expressions in memory; slices.Clone at []int. Conditions: none. -/
namespace Go.Eng
open Go.RowKit
section
variable {n : Nm} {l : Env} {C : World → Prop} {Q : Exit → Act → World → Prop}
theorem At.againE {G : Type} {Φ : G → Prop} {μ : G → Nat} {lg : G → Env} {Cg : G → World → Prop} {g : G} (h : ∀ w, C w → ∃ g', Φ g' ∧ μ g' < μ g ∧ Sub l (lg g') ∧ Cg g' w) : At n (Exit.then (Again n Φ μ lg Cg g) Q) .normal l C :=
 ⟨fun a w s c => by
  obtain ⟨g', h1, h2, h3, h4⟩ := h w c
  exact ⟨g', h1, h2, s.sub h3, h4⟩⟩
end
theorem Cls.mv {A I H : List Item} {S : List World} {w : World} (h : Cls (A ++ (I ++ H)) S w) : Cls (I ++ (A ++ H)) S w := h.perm (by
 rw [← List.append_assoc, ← List.append_assoc]
 exact List.Perm.append_right H List.perm_append_comm)
theorem row_at {w : World} {B m cap sz : Nat} {O : Nat → Prop} {q : Option Addr} {e : TypeId} {xs : List Value} (h1 : (row B O q m cap e sz xs).holds w) (hl : 0 < xs.length) : ∃ a, q = some a ∧ (B ≤ a.block ∧ O a.block) ∧ CellsAt w a xs := by
 obtain ⟨a, h3, _, h5⟩ := SlAt.of_row h1 hl
 refine ⟨a, h3, ⟨?_, h1.1 a h3⟩, h5⟩
 rcases h1.2.2 with ⟨h7, _⟩ | ⟨g, cap', cur, h7, hb, _⟩
 ·simp only [Value.slice.injEq] at h7
  rw [h7.1] at h3; cases h3
 ·simp only [Value.slice.injEq] at h7
  rw [h7.1] at h3
  obtain rfl := Option.some.inj h3
  exact hb
theorem Cls.pile_merge {H : List Item} {S : List World} {w : World} {B : Nat} {O O' : Nat → Prop} {L L' : List Sl} (h : Cls (pile B O L :: pile B O' L' :: H) S w) : Cls (pile B (fun k => O k ∨ O' k) (L' ++ L) :: H) S w := by
 have hr := h.item (i := pile B O L) (by simp)
 have hp := h.item (i := pile B O' L') (by simp)
 have hd := h.dj
 rw [List.pairwise_cons, List.pairwise_cons] at hd
 obtain ⟨hr1, hp1, hH⟩ := hd
 refine ⟨fun i hi => ?_, fun i hi => ?_, ?_, fun s hs => (h.kp s hs).mono fun k _ ⟨i, hi, hk⟩ => ?_⟩
 ·rcases List.mem_cons.1 hi with rfl | hi
  ·intro s hs hl
   rcases List.mem_append.1 hs with hs | hs
   ·obtain ⟨a, h1, h2, h3⟩ := hp s hs hl
    exact ⟨a, h1, ⟨h2.1, .inr h2.2⟩, h3⟩
   ·obtain ⟨a, h1, h2, h3⟩ := hr s hs hl
    exact ⟨a, h1, ⟨h2.1, .inl h2.2⟩, h3⟩
  ·exact h.holds i (by simp [hi])
 ·rcases List.mem_cons.1 hi with rfl | hi
  ·rintro k ⟨h1, h2 | h2⟩
   ·exact h.lt (pile B O L) (by simp) k ⟨h1, h2⟩
   ·exact h.lt (pile B O' L') (by simp) k ⟨h1, h2⟩
  ·exact h.lt i (by simp [hi])
 ·refine List.pairwise_cons.2 ⟨fun j hj k hk hj2 => ?_, hH⟩
  obtain ⟨h1, h2 | h2⟩ := hk
  ·exact hr1 j (by simp [hj]) k ⟨h1, h2⟩ hj2
  ·exact hp1 j hj k ⟨h1, h2⟩ hj2
 ·rcases List.mem_cons.1 hi with rfl | hi
  ·exact ⟨_, .head _, hk.1, .inl hk.2⟩
  ·rcases List.mem_cons.1 hi with rfl | hi
   ·exact ⟨_, .head _, hk.1, .inr hk.2⟩
   ·exact ⟨i, by simp [hi], hk⟩
theorem Cls.pile_new {H : List Item} {S : List World} {w w' : World} {B : Nat} {q : Option Addr} {cap : Nat} {xs : List Value} (h : Cls H S w) (hB : B ≤ w.heap.size) (he : Ext w w') (hx : 0 < xs.length → ∃ a, q = some a ∧ (w.heap.size ≤ a.block ∧ a.block < w'.heap.size) ∧ CellsAt w' a xs) :
  Cls (pile B (fun k => w.heap.size ≤ k ∧ k < w'.heap.size) [⟨q, cap, xs⟩] :: H) S w' :=
 h.add he _ (fun s hs hl => by
  obtain rfl := List.mem_singleton.1 hs
  obtain ⟨a, h1, h2, h3⟩ := hx hl
  exact ⟨a, h1, ⟨Nat.le_trans hB h2.1, h2⟩, h3⟩) (fun k hk => hk.2)
end Go.Eng
namespace Go.Co
open Go.Eng Go.RowKit
mutual
def TrO (w : World) (O : Nat → Prop) : Tr → Nat → Prop
 | .mk op n binds kids alts, b => ∃ y : ExY, NodeO w O b op n binds kids.length alts y ∧ kids.length ≤ 4096 ∧ (0 < kids.length → ∃ a, y.k.1 = some a ∧ O a.block ∧ TrsO w O kids a)
def TrsO (w : World) (O : Nat → Prop) : List Tr → Addr → Prop
 | [], _ => True
 | t :: r, a => (∃ b, w.cell? a = some (.pointer (some ⟨b, 0, none⟩)) ∧ TrO w O t b) ∧ TrsO w O r (a.add 1)
end
mutual
theorem TrO.stab {w w' : World} {O : Nat → Prop} (hk : ∀ k, O k → w'.heap[k]? = w.heap[k]?) : ∀ {t : Tr} {b : Nat}, TrO w O t b → TrO w' O t b
 | .mk op n binds kids alts, b, h => by
  simp only [TrO] at h ⊢
  obtain ⟨y, h1, h2, h3⟩ := h
  refine ⟨y, h1.stab hk, h2, fun hl => ?_⟩
  obtain ⟨a, ha, hb, hall⟩ := h3 hl
  exact ⟨a, ha, hb, TrsO.stab hk hb hall⟩
theorem TrsO.stab {w w' : World} {O : Nat → Prop} (hk : ∀ k, O k → w'.heap[k]? = w.heap[k]?) : ∀ {ts : List Tr} {a : Addr}, O a.block → TrsO w O ts a → TrsO w' O ts a
 | [], _, _, _ => by simp only [TrsO]
 | t :: r, a, hb, h => by
  simp only [TrsO] at h ⊢
  obtain ⟨⟨b, h1, h2⟩, h3⟩ := h
  exact ⟨⟨b, by rw [cell_heap (hk _ hb)]; exact h1, TrO.stab hk h2⟩, TrsO.stab hk (by rw [add_block]; exact hb) h3⟩
end
mutual
theorem TrO.mono {w : World} {O O' : Nat → Prop} (hk : ∀ k, O k → O' k) : ∀ {t : Tr} {b : Nat}, TrO w O t b → TrO w O' t b
 | .mk op n binds kids alts, b, h => by
  simp only [TrO] at h ⊢
  obtain ⟨y, h1, h2, h3⟩ := h
  refine ⟨y, h1.mono hk, h2, fun hl => ?_⟩
  obtain ⟨a, ha, hb, hall⟩ := h3 hl
  exact ⟨a, ha, hk _ hb, TrsO.mono hk hall⟩
theorem TrsO.mono {w : World} {O O' : Nat → Prop} (hk : ∀ k, O k → O' k) : ∀ {ts : List Tr} {a : Addr}, TrsO w O ts a → TrsO w O' ts a
 | [], _, _ => by simp only [TrsO]
 | t :: r, a, h => by
  simp only [TrsO] at h ⊢
  obtain ⟨⟨b, h1, h2⟩, h3⟩ := h
  exact ⟨⟨b, h1, TrO.mono hk h2⟩, TrsO.mono hk h3⟩
end
theorem TrO.at {w w' : World} {t : Tr} {b : Nat} {H : List Eng.Item} {S : List World} (h : TrO w (low w) t b) (hw : Cls H S w') (hs : w ∈ S) (hno : ∀ k, k < w.heap.size → NotOwned H k) : TrO w' (low w') t b :=
 TrO.mono (hw.up hs) (TrO.stab (hw.same hs hno) h)
theorem TrO.ext {w w' : World} {t : Tr} {b : Nat} (h : TrO w (low w) t b) (hx : Ext w w') : TrO w' (low w') t b :=
 TrO.mono (fun k hk => Nat.lt_of_lt_of_le hk hx.size) (TrO.stab (fun k hk => hx.block k hk id) h)
theorem TrsO.get {w : World} {O : Nat → Prop} : ∀ {ts : List Tr} {a : Addr} {i : Nat} {t : Tr}, TrsO w O ts a → ts[i]? = some t → ∃ b, w.cell? (a.add (i * 1)) = some (.pointer (some ⟨b, 0, none⟩)) ∧ TrO w O t b
 | [], _, _, _, _, h => by simp at h
 | u :: r, a, 0, t, h, hi => by
  simp only [TrsO] at h
  simp at hi; subst hi
  obtain ⟨b, h1, h2⟩ := h.1
  exact ⟨b, by rw [Nat.zero_mul, add_zero_]; exact h1, h2⟩
 | u :: r, a, i + 1, t, h, hi => by
  simp only [TrsO] at h
  obtain ⟨b, h1, h2⟩ := TrsO.get (i := i) h.2 (by simpa using hi)
  rw [add_add] at h1
  exact ⟨b, by rwa [show 1 + i * 1 = (i + 1) * 1 by omega] at h1, h2⟩
def ptrs (l : List Nat) : List Value := l.map fun b => .pointer (some ⟨b, 0, none⟩)
theorem TrsO.of {w : World} {O : Nat → Prop} : ∀ {ts : List Tr} {bs : List Nat} {a : Addr}, bs.length = ts.length → CellsAt w a (ptrs bs) → (∀ (i : Nat) t b, ts[i]? = some t → bs[i]? = some b → TrO w O t b) → TrsO w O ts a
 | [], _, _, _, _, _ => by simp only [TrsO]
 | t :: r, [], _, h, _, _ => by simp at h
 | t :: r, b :: bs, a, h, hc, hall => by
  simp only [TrsO]
  refine ⟨⟨b, by have := hc 0 _ (show (ptrs (b :: bs))[0]? = some _ from rfl); rwa [add_zero_] at this, hall 0 t b rfl rfl⟩, TrsO.of (bs := bs) (by simpa using h) (fun j v hj => ?_) (fun i t' b' h1 h2 => hall (i + 1) t' b' (by simpa using h1) (by simpa using h2))⟩
  rw [add_add, Nat.add_comm]
  exact hc (j + 1) v (by simpa [ptrs] using hj)
end Go.Co
namespace Go.Proofs.YtkpjndhgicbjjaaDoor.co
open Go.RowKit Go.Eng Go.Co
set_option maxRecDepth 100000
theorem Clone_calls (q : Option Addr) (cap : Nat) (l : List Int) (w : World) (h : IntsO w (low w) l q) (hl : l.length ≤ 1000000) :
  Calls Tryd.prog 60 [.slice q l.length cap].toArray w fun e w' => ∃ q' c, e = .returned (.slice q' l.length c) ∧ Ext w w' ∧ IntsO w' (fresh w w') l q' ∧ l.length ≤ c := by
 refine enter Tryd.func60 rfl Tryd.ntmps60 rfl (Cls.start w) ?_
 (simp only [argEnv, Nat.zero_add, Nat.reduceAdd])
 cases q with
 | none =>
  have hl0 : l = [] := by
   cases l with
   | nil => rfl
   | cons v r =>
    obtain ⟨a, ha, _⟩ := h (by simp)
    cases ha
  subst hl0
  apply W.sr
  apply oas; rfl; rfl
  apply OL.nx
  apply W.seq
  apply W.sr
  apply omv; rfl; rfl
  apply obn; rfl; rfl; rfl; apply Bin.slice_nil; rfl
  apply OL.nx
  refine W.cond rfl (fun _ => ?_) (fun hb => by simp at hb)
  apply W.sr
  apply oas; rfl; rfl
  apply OL.nx
  refine W.rt ?_
  ((with_reducible apply At.fin1); rfl; rfl; intro w' hw')
  exact ⟨none, 0, rfl, by (exact hw'.fr), IntsO.nil, by simp⟩
 | some a =>
  apply W.sr
  apply oas; rfl; rfl
  apply OL.nx
  apply W.seq
  apply W.sr
  apply omv; rfl; rfl
  apply obn; rfl; rfl; rfl; apply Bin.slice_nil; rfl
  apply OL.nx
  refine W.cond rfl (fun hb => by simp at hb) (fun _ => ?_)
  apply W.sk
  apply W.sr
  apply OL.buildSlice; rfl; rfl; rfl; exact Elems.au; rfl; rfl; (intro bk hbk; simp only [AllLe, and_true] at hbk)
  apply omv; rfl; rfl
  refine OL.cls (fun w' hw' => hw'.blk_row (base := w.heap.size) (m := 0) (sz := 1) (by omega) rfl (by decide)) ?_
  (apply OL.appendK (news := ints l)); rfl; rfl; rfl; rfl; (exact Hole.au); (exact fun w2 hw2 => (h.at hw2 (.head _) (fun k hk => by exact NotOwned.au)).slAt); (rw [ints_length, Nat.mul_one]); (exact ints_oneL _); (exact ⟨w, .head _, Nat.le_refl _⟩); (omega); (intro O1 q1 c1)
  simp only [Nat.zero_add, List.nil_append]
  apply oas; rfl; rfl
  apply OL.nx
  apply W.ret
  ((with_reducible apply At.fin1); rfl; rfl; intro w' hw')
  exact ⟨q1, c1, rfl, by (exact hw'.fr), rowInts hw' (.head _) (Nat.le_refl _), row_cap (hw'.item (.head _))⟩
end Go.Proofs.YtkpjndhgicbjjaaDoor.co

/- The walk of core's Grow. Conditions: none. (Printed by coh.py.) -/
namespace Go.Co
open Go.Eng Go.RowKit
def nds (tb : Nat → Nat) (i n : Nat) : List Value := (List.range n).map fun k => if k < i then .pointer (some ⟨tb k, 0, none⟩) else .pointer none
theorem nds_length (tb : Nat → Nat) (i n : Nat) : (nds tb i n).length = n := by simp [nds]
theorem nds_zero (tb : Nat → Nat) (n : Nat) : List.replicate n (Value.pointer none) = nds tb 0 n := by
 refine List.ext_getElem? fun k => ?_
 by_cases h : k < n
 ·simp [nds, List.getElem?_replicate, h]
 ·simp [nds, List.getElem?_replicate, h]
theorem nds_get {tb : Nat → Nat} {i n k : Nat} (hk : k < i) (hn : k < n) : (nds tb i n)[k]? = some (.pointer (some ⟨tb k, 0, none⟩)) := by simp [nds, hk, hn]
theorem nds_set {tb : Nat → Nat} {i n b : Nat} (hi : i < n) : (nds tb i n).set i (.pointer (some ⟨b, 0, none⟩)) = nds (fun k => if k = i then b else tb k) (i + 1) n := by
 refine List.ext_getElem? fun k => ?_
 rw [List.getElem?_set]
 by_cases h : i = k
 ·subst h
  simp [nds, hi]
 ·rw [if_neg h]
  have h2 : ¬ k = i := fun e => h e.symm
  by_cases hk : k < n
  ·have : (k < i) = (k < i + 1) := by simp; omega
   simp [nds, hk, h2, this]
  ·rw [List.getElem?_eq_none (by rw [nds_length]; omega), List.getElem?_eq_none (by rw [nds_length]; omega)]
def kp (tb : Nat → Nat) (l : List Int) : List Nat := l.map fun k => tb k.toNat
def alSl (a : Al × Sc) : Sl := ⟨a.2.1, a.2.2, ints a.1.binds⟩
end Go.Co
namespace Go.Proofs.YtkpjndhgicbjjaaDoor.co
open Go.RowKit Go.Eng Go.Co
set_option maxRecDepth 100000
structure XG (S : List World) (n B : Nat) where
 O : Nat → Prop
 q : Option Addr
 c : Nat
 hc : n ≤ c
 bt : Nat
 hbt : B ≤ bt
 g1 : Nat
 c1 : Nat
 O1 : Nat → Prop
 b1 : Nat
 hb1 : B ≤ b1
 old : Nat → Value
theorem Grow_callsF (es : List (Ex × ExY)) (q : Option Addr) (cap : Nat) (w : World) (he : Arr exR w (low w) es q) (hlen : es.length ≤ 4096) (h0 : 0 < es.length) (hd : Down (es.map Prod.fst)) (hlim : ∀ p ∈ es, Lim p.1) (hkl : ∀ p ∈ es, p.1.kids.length ≤ 4096) :
  Calls Tryd.prog 44 [.slice q es.length cap].toArray w fun e w' => ∃ b, e = .returned (.pointer (some ⟨b, 0, none⟩)) ∧ Ext w w' ∧ TrO w' (fresh w w') (grow (es.map Prod.fst) (es.length - 1)) b := by
 obtain ⟨e, hee⟩ : ∃ e, es.map Prod.fst = e := ⟨_, rfl⟩
 have hel : e.length = es.length := by rw [← hee, List.length_map]
 rw [hee] at hd ⊢
 have hget : ∀ {i : Nat}, i < es.length → ∃ a p, q = some a ∧ a.block < w.heap.size ∧ es[i]? = some p ∧ e[i]? = some p.1 ∧ CellsAt w (a.add (i * 5)) [.int .i64 p.1.op, .int .i64 p.1.n, .slice p.2.b.1 p.1.binds.length p.2.b.2, .slice p.2.k.1 p.1.kids.length p.2.k.2, .slice p.2.a.1 p.1.alts.length p.2.a.2] ∧ ExOk w (low w) p.1 p.2 := fun {i} hi => by
  obtain ⟨a, p, h1, h2, h3, h4, h5⟩ := he.get hi
  exact ⟨a, p, h1, h2, h3, by rw [← hee, List.getElem?_map, h3]; rfl, h4, h5⟩
 refine enter Tryd.func44 rfl Tryd.ntmps44 rfl (Cls.start w) ?_
 (simp only [argEnv, Nat.zero_add, Nat.reduceAdd])
 apply W.sr
 apply oas; rfl; rfl
 apply OL.nsr
 apply omv; rfl; rfl
 apply oop; rfl; apply Pev.len_slice; rfl; exact yes; rfl
 apply OL.makeSlice; rfl; rfl; rfl; rfl; rfl; rfl; rfl; omega; (intro bk hbk; simp only [AllLe, and_true] at hbk)
 apply oas; rfl; rfl
 apply OL.nx
 apply W.seq
 apply W.sr
 apply omv; rfl; rfl
 apply oop; rfl; apply Pev.len_slice; rfl; exact yes; rfl
 apply omv; rfl; rfl
 apply OL.nx
 apply W.block
 revert bk
 intro bn hbn
 have hz0 : List.replicate es.length (Value.pointer none) = nds (fun _ => 0) 0 es.length := nds_zero _ _
 refine W.exx (X := { x : World // bn < x.heap.size ∧ w.heap.size ≤ x.heap.size }) (C' := fun x => Cls [blk bn 86 (nds (fun _ => 0) 0 es.length)] [x.1, w]) (fun w2 hw2 => by rw [hz0] at hw2; exact ⟨⟨w2, hw2.lt _ (.head _) bn rfl, (hw2.kp w (.head _)).size⟩, hw2.note⟩) ?_
 rintro ⟨w0, hw0a, hw0b⟩
 simp only
 refine W.loop (G := Nat × World × (Nat → Nat)) (fun g => g.1 ≤ es.length ∧ w.heap.size ≤ g.2.1.heap.size ∧ bn < g.2.1.heap.size ∧ ∀ k, k < g.1 → TrO g.2.1 (fun b => b < g.2.1.heap.size ∧ b ≠ bn ∧ w.heap.size ≤ b) (grow e k) (g.2.2 k)) (fun g => es.length - g.1)
  (fun g => [(0, true, .slice q es.length cap), (3, true, .slice (some ⟨bn, 0, none⟩) es.length es.length), (14, true, .slice q es.length cap), (15, true, .int .i64 (es.length : Int)), (16, true, .int .i64 (g.1 : Int))])
  (fun g => Cls [blk bn 86 (nds g.2.2 g.1 es.length)] [g.2.1, w]) (0, w0, fun _ => 0) ⟨by simp, hw0b, hw0a, fun k hk => by simp at hk⟩ (by exact Sub.au) (fun w' hw' => hw') ?_
 rintro ⟨i, wk, tb⟩ ⟨hi, hwk, hbnk, htr⟩
 simp only at hi hwk hbnk htr ⊢
 apply W.sr
 apply obn; rfl; rfl; rfl; apply Bin.lss
 apply OL.nx
 apply W.seq
 (refine W.cnd (fun hlt => ?_) (fun hlt => ?_)) <;> (try (exfalso; first | omega | exact hlt trivial | contradiction))
 ·have hil : i < es.length := by omega
  obtain ⟨a, p, rfl, hab, hp, hpe, hcell, hok⟩ := hget hil
  have hL := hlim p (List.mem_of_getElem? hp)
  have hLb := hL.b
  have hLa := hL.a
  have hkl1 := hkl p (List.mem_of_getElem? hp)
  have hdn := hd i _ hpe
  apply W.sk
  apply W.sb
  apply W.sr
  apply omv; rfl; rfl
  apply oop; rfl; apply Pev.idx; rfl; exact yes; rfl; exact yes; rfl; rfl; intro hcond; omega
  apply oop; rfl; apply Pev.load_keptA; rfl; exact yes; exact .tail _ (.head _); rfl; intro hcond; assumption; rfl; intro hcond; (rw [add_block]; assumption); intro hcond; exact NotOwned.au
  apply OL.alloc; rfl; rfl; exact CellsL.agg; (intro bk hbk; simp only [AllLe, and_true] at hbk)
  apply oas; rfl; rfl
  apply OL.storeB; rfl; rfl; exact CellsL.agg; rfl; rfl; rfl; exact Swap.au; exact Put.au
  apply OL.nx
  apply W.seq
  revert bk
  intro bx hbx
  refine W.cls (fun w' hw' => Cls.flip hw') ?_
  refine W.regany (X := XG [wk, w] p.1.binds.length wk.heap.size) (fun x e => [(6, true, bif e 9 then .pointer (some ⟨x.bt, 0, none⟩) else x.old 6), (29, true, bif e 8 then .pointer (some ⟨x.bt, 0, none⟩) else x.old 29), (28, true, bif e 7 then .agg [.int .i64 p.1.op, .int .i64 p.1.n, .slice x.q p.1.binds.length x.c, .slice none 0 0, .slice none 0 0].toArray else x.old 28), (27, true, bif e 6 then .slice x.q p.1.binds.length x.c else x.old 27), (26, true, bif e 5 then .slice p.2.b.1 p.1.binds.length p.2.b.2 else x.old 26), (25, true, bif e 4 then .pointer (some ⟨bx, 0 + 2, none⟩) else x.old 25), (24, true, bif e 3 then .int .i64 p.1.n else x.old 24), (23, true, bif e 2 then .pointer (some ⟨bx, 0 + 1, none⟩) else x.old 23), (22, true, bif e 1 then .int .i64 p.1.op else x.old 22), (21, true, bif e 0 then .pointer (some ⟨bx, 0 + 0, none⟩) else x.old 21), (0, true, .slice (some a) es.length cap), (3, true, .slice (some ⟨bn, 0, none⟩) es.length es.length), (4, true, .int .i64 (i : Int)), (14, true, .slice (some a) es.length cap), (15, true, .int .i64 (es.length : Int)), (16, true, .int .i64 (i : Int)), (5, true, .pointer (some ⟨bx, 0, none⟩))])
   (fun x e => (blk bn 86 (nds tb i es.length)) :: (blk bx 43 [.int .i64 p.1.op, .int .i64 p.1.n, .slice p.2.b.1 p.1.binds.length p.2.b.2, .slice p.2.k.1 p.1.kids.length p.2.k.2, .slice p.2.a.1 p.1.alts.length p.2.a.2]) :: (bif e 6 then pile wk.heap.size x.O [⟨x.q, x.c, ints p.1.binds⟩] else nothing) :: (bif e 8 then blk x.bt 102 [.int .i64 p.1.op, .int .i64 p.1.n, .slice x.q p.1.binds.length x.c, .slice none 0 0, .slice none 0 0] else nothing) :: [])
   (fun old => ⟨fun _ => False, none, p.1.binds.length, Nat.le_refl _, wk.heap.size, Nat.le_refl _, 0, 0, fun _ => False, wk.heap.size, Nat.le_refl _, old⟩) (by kernel_rfl) (by kernel_rfl) (fun w hw => hw.drew) (fun old => by repeat (first | exact SubO.nil | apply SubO.cons rfl | refine SubO.old rfl ?_)) (fun old w' hw' => hw'.add_nothing.add_nothing) ?_ ?_
  ·intro x e i o ho hei hd hcl
   have hi : i < 10 := (List.getElem?_eq_some_iff.1 ho).1
   obtain rfl | rfl | rfl | rfl | rfl | rfl | rfl | rfl | rfl | rfl : i = 0 ∨ i = 1 ∨ i = 2 ∨ i = 3 ∨ i = 4 ∨ i = 5 ∨ i = 6 ∨ i = 7 ∨ i = 8 ∨ i = 9 := by omega
   ·cases ho
    have v0 : Eng.upd e 0 0 = true := upd_eq
    simp only [hei, cond_true, cond_false]
    apply ofa; rfl; rfl; rfl
    apply OL.nil
    exact At.beside x (by repeat (first | exact Sub.nil | apply Sub.cons rfl | refine Sub.cons_eq rfl (by simp only [v0, cond_true, cond_false]) ?_)) (fun w' hw' => by first | exact hw' | (simp only [v0, cond_true, cond_false]; exact hw'))
   ·cases ho
    have h0 : e 0 = true := hd ⟨0, .data⟩ (by simp) rfl
    have v1 : Eng.upd e 1 1 = true := upd_eq
    have v0 : Eng.upd e 1 0 = true := upd_mono h0
    simp only [hei, h0, cond_true, cond_false]
    apply old; rfl; rfl; exact .tail _ (.head _); rfl; rfl
    apply OL.nil
    exact At.beside x (by repeat (first | exact Sub.nil | apply Sub.cons rfl | refine Sub.cons_eq rfl (by simp only [v1, v0, cond_true, cond_false]) ?_)) (fun w' hw' => by first | exact hw' | (simp only [v1, v0, cond_true, cond_false]; exact hw'))
   ·cases ho
    have v2 : Eng.upd e 2 2 = true := upd_eq
    simp only [hei, cond_true, cond_false]
    apply ofa; rfl; rfl; rfl
    apply OL.nil
    exact At.beside x (by repeat (first | exact Sub.nil | apply Sub.cons rfl | refine Sub.cons_eq rfl (by simp only [v2, cond_true, cond_false]) ?_)) (fun w' hw' => by first | exact hw' | (simp only [v2, cond_true, cond_false]; exact hw'))
   ·cases ho
    have h2 : e 2 = true := hd ⟨2, .data⟩ (by simp) rfl
    have v3 : Eng.upd e 3 3 = true := upd_eq
    have v2 : Eng.upd e 3 2 = true := upd_mono h2
    simp only [hei, h2, cond_true, cond_false]
    apply old; rfl; rfl; exact .tail _ (.head _); rfl; rfl
    apply OL.nil
    exact At.beside x (by repeat (first | exact Sub.nil | apply Sub.cons rfl | refine Sub.cons_eq rfl (by simp only [v3, v2, cond_true, cond_false]) ?_)) (fun w' hw' => by first | exact hw' | (simp only [v3, v2, cond_true, cond_false]; exact hw'))
   ·cases ho
    have v4 : Eng.upd e 4 4 = true := upd_eq
    simp only [hei, cond_true, cond_false]
    apply ofa; rfl; rfl; rfl
    apply OL.nil
    exact At.beside x (by repeat (first | exact Sub.nil | apply Sub.cons rfl | refine Sub.cons_eq rfl (by simp only [v4, cond_true, cond_false]) ?_)) (fun w' hw' => by first | exact hw' | (simp only [v4, cond_true, cond_false]; exact hw'))
   ·cases ho
    have h4 : e 4 = true := hd ⟨4, .data⟩ (by simp) rfl
    have v5 : Eng.upd e 5 5 = true := upd_eq
    have v4 : Eng.upd e 5 4 = true := upd_mono h4
    simp only [hei, h4, cond_true, cond_false]
    apply old; rfl; rfl; exact .tail _ (.head _); rfl; rfl
    apply OL.nil
    exact At.beside x (by repeat (first | exact Sub.nil | apply Sub.cons rfl | refine Sub.cons_eq rfl (by simp only [v5, v4, cond_true, cond_false]) ?_)) (fun w' hw' => by first | exact hw' | (simp only [v5, v4, cond_true, cond_false]; exact hw'))
   ·cases ho
    have h5 : e 5 = true := hd ⟨5, .data⟩ (by simp) rfl
    have h7 : e 7 = false := hcl.not (i := 6) (j := 7) rfl hei (by kernel_rfl)
    have h8 : e 8 = false := hcl.not (i := 7) (j := 8) rfl h7 (by kernel_rfl)
    have v6 : Eng.upd e 6 6 = true := upd_eq
    have v5 : Eng.upd e 6 5 = true := upd_mono h5
    have v7 : Eng.upd e 6 7 = false := h7
    have v8 : Eng.upd e 6 8 = false := h8
    simp only [hei, h5, h7, h8, cond_true, cond_false]
    refine OL.callE (α := (Nat → Prop) × Option Addr × Nat) (fun z => .slice z.2.1 p.1.binds.length z.2.2) (fun z => p.1.binds.length ≤ z.2.2) (fun z => Cls (pile wk.heap.size z.1 [⟨z.2.1, z.2.2, ints p.1.binds⟩] :: blk bn 86 (nds tb i es.length) :: blk bx 43 [.int .i64 p.1.op, .int .i64 p.1.n, .slice p.2.b.1 p.1.binds.length p.2.b.2, .slice p.2.k.1 p.1.kids.length p.2.k.2, .slice p.2.a.1 p.1.alts.length p.2.a.2] :: nothing :: nothing :: []) [wk, w]) rfl rfl (by exact Args.au) (fun w2 hw2 => ?_) ?_
    ·exact (Clone_calls p.2.b.1 p.2.b.2 p.1.binds w2 (hok.b.at hw2 (.tail _ (.head _)) (fun k hk => by exact NotOwned.au)) (by omega)).mono fun e w3 ⟨q', c', h1, h2, h3, h4⟩ => ⟨(_, q', c'), h1, h4, hw2.pile_new (hw2.kp wk (.head _)).size h2 (fun hl => h3 (by rwa [ints_length] at hl))⟩
    rintro ⟨Oc, qc, cc⟩ hcc
    simp only at hcc ⊢
    apply OL.nil
    exact At.beside { x with O := Oc, q := qc, c := cc, hc := hcc } (by repeat (first | exact Sub.nil | apply Sub.cons rfl | refine Sub.cons_eq rfl (by simp only [v6, v5, v7, v8, cond_true, cond_false]) ?_)) (fun w' hw' => by simp only [v6, v5, v7, v8, cond_true, cond_false]; exact Cls.fill (p := 2) (H := _ :: _ :: _ :: _ :: []) (.s (.s .z)) hw')
   ·cases ho
    have h1 : e 1 = true := hd ⟨1, .data⟩ (by simp) rfl
    have h3 : e 3 = true := hd ⟨3, .data⟩ (by simp) rfl
    have h6 : e 6 = true := hd ⟨6, .data⟩ (by simp) rfl
    have v7 : Eng.upd e 7 7 = true := upd_eq
    have v1 : Eng.upd e 7 1 = true := upd_mono h1
    have v3 : Eng.upd e 7 3 = true := upd_mono h3
    have v6 : Eng.upd e 7 6 = true := upd_mono h6
    simp only [hei, h1, h3, h6, cond_true, cond_false]
    apply oop; rfl; apply Pev.build; rfl; exact CellsL.agg; rfl; exact Fill.au; rfl
    apply OL.nil
    exact At.beside x (by repeat (first | exact Sub.nil | apply Sub.cons rfl | refine Sub.cons_eq rfl (by simp only [v7, v1, v3, v6, cond_true, cond_false]) ?_)) (fun w' hw' => by first | exact hw' | (simp only [v7, v1, v3, v6, cond_true, cond_false]; exact hw'))
   ·cases ho
    have h7 : e 7 = true := hd ⟨7, .data⟩ (by simp) rfl
    have h9 : e 9 = false := hcl.not (i := 8) (j := 9) rfl hei (by kernel_rfl)
    have v8 : Eng.upd e 8 8 = true := upd_eq
    have v7 : Eng.upd e 8 7 = true := upd_mono h7
    have v9 : Eng.upd e 8 9 = false := h9
    simp only [hei, h7, h9, cond_true, cond_false]
    apply OL.box; rfl; rfl; exact CellsL.agg; (intro bk hbk; simp only [AllLe, and_true] at hbk)
    apply OL.nil
    exact At.beside { x with bt := bk, hbt := hbk.1 } (by repeat (first | exact Sub.nil | apply Sub.cons rfl | refine Sub.cons_eq rfl (by simp only [v8, v7, v9, cond_true, cond_false]) ?_)) (fun w' hw' => by simp only [v8, v7, v9, cond_true, cond_false]; exact Cls.fill (p := 3) (H := _ :: _ :: _ :: _ :: []) (.s (.s (.s .z))) hw')
   ·cases ho
    have h8 : e 8 = true := hd ⟨8, .data⟩ (by simp) rfl
    have v9 : Eng.upd e 9 9 = true := upd_eq
    have v8 : Eng.upd e 9 8 = true := upd_mono h8
    simp only [hei, h8, cond_true, cond_false]
    apply oas; rfl; rfl
    apply OL.nil
    exact At.beside x (by repeat (first | exact Sub.nil | apply Sub.cons rfl | refine Sub.cons_eq rfl (by simp only [v9, v8, cond_true, cond_false]) ?_)) (fun w' hw' => by first | exact hw' | (simp only [v9, v8, cond_true, cond_false]; exact hw'))
  ·intro x e2 hall
   have hx1 := x.hbt
   have hx2 := x.hc
   simp only [hall 0 (by decide), hall 1 (by decide), hall 2 (by decide), hall 3 (by decide), hall 4 (by decide), hall 5 (by decide), hall 6 (by decide), hall 7 (by decide), hall 8 (by decide), hall 9 (by decide), cond_true]
   generalize x.bt = bt at *
   generalize x.O = Ob at *
   generalize x.c = cb at *
   generalize x.q = qb at *
   clear x
   with_reducible apply At.next
   apply W.seq
   apply W.sr
   apply ofa; rfl; rfl; rfl
   apply old; rfl; rfl; exact .tail _ (.head _); rfl; rfl
   apply oop; rfl; apply Pev.len_slice; rfl; exact yes; rfl
   apply omv; rfl; rfl
   apply OL.nx
   apply W.block
   refine W.loop (G := Nat × GR) (fun g => g.1 ≤ p.1.kids.length) (fun g => p.1.kids.length - g.1)
    (fun g => [(0, true, .slice (some a) es.length cap), (3, true, .slice (some ⟨bn, 0, none⟩) es.length es.length), (4, true, .int .i64 (i : Int)), (5, true, .pointer (some ⟨bx, 0, none⟩)), (6, true, .pointer (some ⟨bt, 0, none⟩)), (14, true, .slice (some a) es.length cap), (15, true, .int .i64 (es.length : Int)), (16, true, .int .i64 (i : Int)), (31, true, .slice p.2.k.1 p.1.kids.length p.2.k.2), (32, true, .int .i64 (p.1.kids.length : Int)), (33, true, .int .i64 (g.1 : Int))])
    (fun g => Cls (blk bn 86 (nds tb i es.length) :: blk bx 43 [.int .i64 p.1.op, .int .i64 p.1.n, .slice p.2.b.1 p.1.binds.length p.2.b.2, .slice p.2.k.1 p.1.kids.length p.2.k.2, .slice p.2.a.1 p.1.alts.length p.2.a.2] :: pile wk.heap.size Ob [⟨qb, cb, ints p.1.binds⟩] :: blk bt 102 [.int .i64 p.1.op, .int .i64 p.1.n, .slice qb p.1.binds.length cb, .slice g.2.q g.1 g.2.c, .slice none 0 0] :: row wk.heap.size g.2.O g.2.q g.1 g.2.c 86 1 (ptrs (kp tb (p.1.kids.take g.1))) :: []) [wk, w]) (0, ⟨fun _ => False, none, 0⟩) (by simp) (by exact Sub.au) (fun w' hw' => Cls.mv (A := [_]) (I := [_, _, _, _]) (H := []) (hw'.row_nil wk.heap.size _ 1)) ?_
   rintro ⟨j, ⟨Ok, qk, ck⟩⟩ hj
   simp only at hj ⊢
   apply W.sr
   apply obn; rfl; rfl; rfl; apply Bin.lss
   apply OL.nx
   apply W.seq
   (refine W.cnd (fun hlt2 => ?_) (fun hlt2 => ?_)) <;> (try (exfalso; first | omega | exact hlt2 trivial | contradiction))
   ·have hjl : j < p.1.kids.length := by omega
    obtain ⟨ak, k, hqk, habk, hk, hck⟩ := hok.k.get hjl
    have habk : ak.block < w.heap.size := habk
    have hkr := hdn k (List.mem_of_getElem? hk)
    obtain ⟨kn, rfl⟩ : ∃ kn : Nat, k = (kn : Int) := ⟨k.toNat, by omega⟩
    have hkn : (nds tb i es.length)[0 + (kn : Int).toNat * 1]? = some (.pointer (some ⟨tb kn, 0, none⟩)) := by
     have h1 := nds_get (tb := tb) (i := i) (n := es.length) (k := kn) (by omega) (by omega)
     simpa using h1
    rw [hqk]
    apply W.sk
    apply W.sb
    apply W.sr
    apply oop; rfl; apply Pev.idx; rfl; exact yes; rfl; exact yes; rfl; rfl; intro hcond; omega
    apply oop; rfl; apply Pev.load_kept; rfl; exact yes; exact .tail _ (.head _); rfl; intro hcond; assumption; intro hcond; (rw [add_block]; assumption); intro hcond; exact NotOwned.au
    apply oas; rfl; rfl
    apply OL.nx
    refine W.regany (X := XG [wk, w] p.1.binds.length wk.heap.size) (fun x e => [(49, true, bif e 12 then .pointer (some ⟨bt, 0 + 3, none⟩) else x.old 49), (48, true, bif e 11 then .pointer (some ⟨bt, 0, none⟩) else x.old 48), (47, true, bif e 10 then .slice (some ⟨x.g1, 0, none⟩) (j + 1) x.c1 else x.old 47), (46, true, bif e 9 then .slice (some ⟨x.b1, 0, none⟩) 1 1 else x.old 46), (45, true, bif e 8 then Value.pointer (some ⟨tb kn, 0, none⟩) else x.old 45), (44, true, bif e 7 then .pointer (some ⟨bn, 0 + (kn : Int).toNat * 1, none⟩) else x.old 44), (43, true, bif e 6 then .int .i64 (kn : Int) else x.old 43), (42, true, bif e 5 then .slice (some ⟨bn, 0, none⟩) es.length es.length else x.old 42), (41, true, bif e 4 then .slice qk j ck else x.old 41), (40, true, bif e 3 then .pointer (some ⟨bt, 0 + 3, none⟩) else x.old 40), (39, true, bif e 2 then .pointer (some ⟨bt, 0, none⟩) else x.old 39), (38, true, bif e 1 then .pointer (some ⟨bt, 0, none⟩) else x.old 38), (37, true, bif e 0 then .pointer (some ⟨bt, 0, none⟩) else x.old 37), (0, true, .slice (some a) es.length cap), (3, true, .slice (some ⟨bn, 0, none⟩) es.length es.length), (4, true, .int .i64 (i : Int)), (14, true, .slice (some a) es.length cap), (15, true, .int .i64 (es.length : Int)), (16, true, .int .i64 (i : Int)), (5, true, .pointer (some ⟨bx, 0, none⟩)), (6, true, .pointer (some ⟨bt, 0, none⟩)), (8, true, .int .i64 (kn : Int)), (31, true, .slice (some ak) p.1.kids.length p.2.k.2), (32, true, .int .i64 (p.1.kids.length : Int)), (33, true, .int .i64 (j : Int))])
     (fun x e => (blk bn 86 (nds tb i es.length)) :: (blk bx 43 [.int .i64 p.1.op, .int .i64 p.1.n, .slice p.2.b.1 p.1.binds.length p.2.b.2, .slice (some ak) p.1.kids.length p.2.k.2, .slice p.2.a.1 p.1.alts.length p.2.a.2]) :: (pile wk.heap.size Ob [⟨qb, cb, ints p.1.binds⟩]) :: (blk bt 102 [.int .i64 p.1.op, .int .i64 p.1.n, .slice qb p.1.binds.length cb, bif e 13 then .slice (some ⟨x.g1, 0, none⟩) (j + 1) x.c1 else .slice qk j ck, .slice none 0 0]) :: (bif e 10 then row wk.heap.size x.O1 (some ⟨x.g1, 0, none⟩) (j + 1) x.c1 86 1 ((ptrs (kp tb (p.1.kids.take j))) ++ [Value.pointer (some ⟨tb kn, 0, none⟩)]) else row wk.heap.size Ok qk j ck 86 1 (ptrs (kp tb (p.1.kids.take j)))) :: (bif e 9 then blk x.b1 86 [Value.pointer (some ⟨tb kn, 0, none⟩)] else nothing) :: [])
     (fun old => ⟨fun _ => False, none, p.1.binds.length, Nat.le_refl _, wk.heap.size, Nat.le_refl _, 0, 0, fun _ => False, wk.heap.size, Nat.le_refl _, old⟩) (by kernel_rfl) (by kernel_rfl) (fun w hw => hw.drew) (fun old => by repeat (first | exact SubO.nil | apply SubO.cons rfl | refine SubO.old rfl ?_)) (fun old w' hw' => hw'.add_nothing) ?_ ?_
    ·intro x e i o ho hei hd hcl
     have hi : i < 14 := (List.getElem?_eq_some_iff.1 ho).1
     obtain rfl | rfl | rfl | rfl | rfl | rfl | rfl | rfl | rfl | rfl | rfl | rfl | rfl | rfl : i = 0 ∨ i = 1 ∨ i = 2 ∨ i = 3 ∨ i = 4 ∨ i = 5 ∨ i = 6 ∨ i = 7 ∨ i = 8 ∨ i = 9 ∨ i = 10 ∨ i = 11 ∨ i = 12 ∨ i = 13 := by omega
     ·cases ho
      have v0 : Eng.upd e 0 0 = true := upd_eq
      simp only [hei, cond_true, cond_false]
      apply omv; rfl; rfl
      apply OL.nil
      exact At.beside x (by repeat (first | exact Sub.nil | apply Sub.cons rfl | refine Sub.cons_eq rfl (by simp only [v0, cond_true, cond_false]) ?_)) (fun w' hw' => by first | exact hw' | (simp only [v0, cond_true, cond_false]; exact hw'))
     ·cases ho
      have v1 : Eng.upd e 1 1 = true := upd_eq
      simp only [hei, cond_true, cond_false]
      apply omv; rfl; rfl
      apply OL.nil
      exact At.beside x (by repeat (first | exact Sub.nil | apply Sub.cons rfl | refine Sub.cons_eq rfl (by simp only [v1, cond_true, cond_false]) ?_)) (fun w' hw' => by first | exact hw' | (simp only [v1, cond_true, cond_false]; exact hw'))
     ·cases ho
      have h1 : e 1 = true := hd ⟨1, .data⟩ (by simp) rfl
      have v2 : Eng.upd e 2 2 = true := upd_eq
      have v1 : Eng.upd e 2 1 = true := upd_mono h1
      simp only [hei, h1, cond_true, cond_false]
      apply oop; rfl; apply Pev.nil_ptr; rfl; exact yes
      apply OL.nil
      exact At.beside x (by repeat (first | exact Sub.nil | apply Sub.cons rfl | refine Sub.cons_eq rfl (by simp only [v2, v1, cond_true, cond_false]) ?_)) (fun w' hw' => by first | exact hw' | (simp only [v2, v1, cond_true, cond_false]; exact hw'))
     ·cases ho
      have h2 : e 2 = true := hd ⟨2, .data⟩ (by simp) rfl
      have v3 : Eng.upd e 3 3 = true := upd_eq
      have v2 : Eng.upd e 3 2 = true := upd_mono h2
      simp only [hei, h2, cond_true, cond_false]
      apply ofa; rfl; rfl; rfl
      apply OL.nil
      exact At.beside x (by repeat (first | exact Sub.nil | apply Sub.cons rfl | refine Sub.cons_eq rfl (by simp only [v3, v2, cond_true, cond_false]) ?_)) (fun w' hw' => by first | exact hw' | (simp only [v3, v2, cond_true, cond_false]; exact hw'))
     ·cases ho
      have h3 : e 3 = true := hd ⟨3, .data⟩ (by simp) rfl
      have h13 : e 13 = false := hcl.not (i := 4) (j := 13) rfl hei (by kernel_rfl)
      have v4 : Eng.upd e 4 4 = true := upd_eq
      have v3 : Eng.upd e 4 3 = true := upd_mono h3
      have v13 : Eng.upd e 4 13 = false := h13
      simp only [hei, h3, h13, cond_true, cond_false]
      apply old; rfl; rfl; apply List.Mem.tail; exact .tail _ (.tail _ (.head _)); rfl; rfl
      apply OL.nil
      exact At.beside x (by repeat (first | exact Sub.nil | apply Sub.cons rfl | refine Sub.cons_eq rfl (by simp only [v4, v3, v13, cond_true, cond_false]) ?_)) (fun w' hw' => by first | exact hw' | (simp only [v4, v3, v13, cond_true, cond_false]; exact hw'))
     ·cases ho
      have v5 : Eng.upd e 5 5 = true := upd_eq
      simp only [hei, cond_true, cond_false]
      apply omv; rfl; rfl
      apply OL.nil
      exact At.beside x (by repeat (first | exact Sub.nil | apply Sub.cons rfl | refine Sub.cons_eq rfl (by simp only [v5, cond_true, cond_false]) ?_)) (fun w' hw' => by first | exact hw' | (simp only [v5, cond_true, cond_false]; exact hw'))
     ·cases ho
      have v6 : Eng.upd e 6 6 = true := upd_eq
      simp only [hei, cond_true, cond_false]
      apply omv; rfl; rfl
      apply OL.nil
      exact At.beside x (by repeat (first | exact Sub.nil | apply Sub.cons rfl | refine Sub.cons_eq rfl (by simp only [v6, cond_true, cond_false]) ?_)) (fun w' hw' => by first | exact hw' | (simp only [v6, cond_true, cond_false]; exact hw'))
     ·cases ho
      have h5 : e 5 = true := hd ⟨5, .data⟩ (by simp) rfl
      have h6 : e 6 = true := hd ⟨6, .data⟩ (by simp) rfl
      have v7 : Eng.upd e 7 7 = true := upd_eq
      have v5 : Eng.upd e 7 5 = true := upd_mono h5
      have v6 : Eng.upd e 7 6 = true := upd_mono h6
      simp only [hei, h5, h6, cond_true, cond_false]
      apply oop; rfl; apply Pev.idxB; rfl; exact yes; rfl; exact yes; rfl; intro hcond; omega; rfl
      apply OL.nil
      exact At.beside x (by repeat (first | exact Sub.nil | apply Sub.cons rfl | refine Sub.cons_eq rfl (by simp only [v7, v5, v6, cond_true, cond_false]) ?_)) (fun w' hw' => by first | exact hw' | (simp only [v7, v5, v6, cond_true, cond_false]; exact hw'))
     ·cases ho
      have h7 : e 7 = true := hd ⟨7, .data⟩ (by simp) rfl
      have v8 : Eng.upd e 8 8 = true := upd_eq
      have v7 : Eng.upd e 8 7 = true := upd_mono h7
      simp only [hei, h7, cond_true, cond_false]
      apply oop; rfl; apply Pev.load_blk; rfl; exact yes; exact .head _; rfl; assumption
      apply OL.nil
      exact At.beside x (by repeat (first | exact Sub.nil | apply Sub.cons rfl | refine Sub.cons_eq rfl (by simp only [v8, v7, cond_true, cond_false]) ?_)) (fun w' hw' => by first | exact hw' | (simp only [v8, v7, cond_true, cond_false]; exact hw'))
     ·cases ho
      have h8 : e 8 = true := hd ⟨8, .data⟩ (by simp) rfl
      have v9 : Eng.upd e 9 9 = true := upd_eq
      have v8 : Eng.upd e 9 8 = true := upd_mono h8
      simp only [hei, h8, cond_true, cond_false]
      apply OL.buildSlice; rfl; rfl; rfl; exact Elems.au; rfl; rfl; (intro bk hbk; simp only [AllLe, and_true] at hbk)
      apply OL.nil
      exact At.beside { x with b1 := bk, hb1 := hbk.1 } (by repeat (first | exact Sub.nil | apply Sub.cons rfl | refine Sub.cons_eq rfl (by simp only [v9, v8, cond_true, cond_false]) ?_)) (fun w' hw' => by simp only [v9, v8, cond_true, cond_false]; exact Cls.fill (p := 5) (H := _ :: _ :: _ :: _ :: _ :: _ :: []) (.s (.s (.s (.s (.s .z))))) hw')
     ·cases ho
      have h4 : e 4 = true := hd ⟨4, .data⟩ (by simp) rfl
      have h9 : e 9 = true := hd ⟨9, .data⟩ (by simp) rfl
      have h13 : e 13 = false := hcl.not (i := 10) (j := 13) rfl hei (by kernel_rfl)
      have v10 : Eng.upd e 10 10 = true := upd_eq
      have v4 : Eng.upd e 10 4 = true := upd_mono h4
      have v9 : Eng.upd e 10 9 = true := upd_mono h9
      have v13 : Eng.upd e 10 13 = false := h13
      simp only [hei, h4, h9, h13, cond_true, cond_false]
      apply OL.append
      rfl
      rfl
      rfl
      rfl
      (repeat (first | apply Hole.z | apply Hole.s))
      (repeat (first | exact List.Mem.head _ | apply List.Mem.tail))
      (repeat (first | apply Take.zero | apply Take.succ))
      rfl
      rfl
      exact ⟨wk, .head _, Nat.le_refl _⟩
      omega
      intro O1 g1 cap1
      apply OL.nil
      exact At.beside { x with g1 := g1, c1 := cap1, O1 := O1 } (by repeat (first | exact Sub.nil | apply Sub.cons rfl | refine Sub.cons_eq rfl (by simp only [v10, v4, v9, v13, cond_true, cond_false]) ?_)) (fun w' hw' => by first | exact hw' | (simp only [v10, v4, v9, v13, cond_true, cond_false]; exact hw'))
     ·cases ho
      have h0 : e 0 = true := hd ⟨0, .data⟩ (by simp) rfl
      have v11 : Eng.upd e 11 11 = true := upd_eq
      have v0 : Eng.upd e 11 0 = true := upd_mono h0
      simp only [hei, h0, cond_true, cond_false]
      apply oop; rfl; apply Pev.nil_ptr; rfl; exact yes
      apply OL.nil
      exact At.beside x (by repeat (first | exact Sub.nil | apply Sub.cons rfl | refine Sub.cons_eq rfl (by simp only [v11, v0, cond_true, cond_false]) ?_)) (fun w' hw' => by first | exact hw' | (simp only [v11, v0, cond_true, cond_false]; exact hw'))
     ·cases ho
      have h11 : e 11 = true := hd ⟨11, .data⟩ (by simp) rfl
      have v12 : Eng.upd e 12 12 = true := upd_eq
      have v11 : Eng.upd e 12 11 = true := upd_mono h11
      simp only [hei, h11, cond_true, cond_false]
      apply ofa; rfl; rfl; rfl
      apply OL.nil
      exact At.beside x (by repeat (first | exact Sub.nil | apply Sub.cons rfl | refine Sub.cons_eq rfl (by simp only [v12, v11, cond_true, cond_false]) ?_)) (fun w' hw' => by first | exact hw' | (simp only [v12, v11, cond_true, cond_false]; exact hw'))
     ·cases ho
      have h10 : e 10 = true := hd ⟨10, .data⟩ (by simp) rfl
      have h12 : e 12 = true := hd ⟨12, .data⟩ (by simp) rfl
      have v13 : Eng.upd e 13 13 = true := upd_eq
      have v10 : Eng.upd e 13 10 = true := upd_mono h10
      have v12 : Eng.upd e 13 12 = true := upd_mono h12
      simp only [hei, h10, h12, cond_true, cond_false]
      apply OL.storeB; rfl; rfl; exact CellsL.one rfl; rfl; rfl; rfl; exact Swap.au; exact Put.au
      apply OL.nil
      exact At.beside x (by repeat (first | exact Sub.nil | apply Sub.cons rfl | refine Sub.cons_eq rfl (by simp only [v13, v10, v12, cond_true, cond_false]) ?_)) (fun w' hw' => by first | exact hw' | (simp only [v13, v10, v12, cond_true, cond_false]; exact hw'))
    ·intro x e2 hall
     have hx1 := x.hb1
     simp only [hall 0 (by decide), hall 1 (by decide), hall 2 (by decide), hall 3 (by decide), hall 4 (by decide), hall 5 (by decide), hall 6 (by decide), hall 7 (by decide), hall 8 (by decide), hall 9 (by decide), hall 10 (by decide), hall 11 (by decide), hall 12 (by decide), hall 13 (by decide), cond_true]
     have hsn : ptrs (kp tb (p.1.kids.take j)) ++ [.pointer (some ⟨tb kn, 0, none⟩)] = ptrs (kp tb (p.1.kids.take (j + 1))) := by
      rw [List.take_add_one, hk]
      simp [ptrs, kp]
     rw [hsn]
     with_reducible apply At.in_normal
     with_reducible apply At.next
     apply W.reg
     apply obn; rfl; rfl; rfl; apply Bin.add_in; omega
     apply omv; rfl; rfl
     apply OL.nil
     exact At.again (j + 1, ⟨x.O1, some ⟨x.g1, 0, none⟩, x.c1⟩) (by simp only; omega) (by simp only; omega) (by exact Sub.au) (fun w' hw' => hw'.thin (.keep (.keep (.keep (.keep (.keep (.blk ⟨hx1, by omega, trivial⟩ Thin.same)))))))
   obtain rfl : j = p.1.kids.length := by omega
   rw [List.take_length]
   obtain ⟨ps, hps, harr⟩ := hok.alts
   have hpl : p.1.alts.length = ps.length := by rw [← hps, List.length_map]
   rw [hpl]
   refine W.xt ?_
   with_reducible apply At.next
   apply W.seq
   apply W.sr
   apply ofa; rfl; rfl; rfl
   apply old; rfl; rfl; exact .tail _ (.head _); rfl; rfl
   apply oop; rfl; apply Pev.len_slice; rfl; exact yes; rfl
   apply omv; rfl; rfl
   apply OL.nx
   apply W.block
   refine W.loop (G := Nat × GR × (Nat → Prop) × List (Al × Sc)) (fun g => g.1 ≤ ps.length ∧ g.2.2.2.map Prod.fst = (ps.take g.1).map Prod.fst ∧ ∀ s ∈ g.2.2.2, s.1.binds.length ≤ s.2.2) (fun g => ps.length - g.1)
    (fun g => [(0, true, .slice (some a) es.length cap), (3, true, .slice (some ⟨bn, 0, none⟩) es.length es.length), (4, true, .int .i64 (i : Int)), (6, true, .pointer (some ⟨bt, 0, none⟩)), (14, true, .slice (some a) es.length cap), (15, true, .int .i64 (es.length : Int)), (16, true, .int .i64 (i : Int)), (52, true, .slice p.2.a.1 ps.length p.2.a.2), (53, true, .int .i64 (ps.length : Int)), (54, true, .int .i64 (g.1 : Int))])
    (fun g => Cls (blk bn 86 (nds tb i es.length) :: pile wk.heap.size Ob [⟨qb, cb, ints p.1.binds⟩] :: blk bt 102 [.int .i64 p.1.op, .int .i64 p.1.n, .slice qb p.1.binds.length cb, .slice qk p.1.kids.length ck, .slice g.2.1.q g.1 g.2.1.c] :: row wk.heap.size Ok qk p.1.kids.length ck 86 1 (ptrs (kp tb p.1.kids)) :: row wk.heap.size g.2.1.O g.2.1.q g.1 g.2.1.c 79 2 (cat altR_.c g.2.2.2) :: pile wk.heap.size g.2.2.1 (g.2.2.2.map alSl) :: []) [wk, w]) (0, ⟨fun _ => False, none, 0⟩, (fun _ => False), []) ⟨by simp, by simp, fun s hs => by cases hs⟩ (by exact Sub.au) (fun w' hw' => ?_) ?_
   ·have h1 := hw'.thin (.keep (.blk (by simp only [AllLe, and_true]; omega) Thin.same))
    exact Cls.mv (A := [_]) (I := [_, _, _, _, _]) (H := []) ((Cls.mv (A := [_]) (I := [_, _, _, _]) (H := []) (h1.row_nil wk.heap.size _ 2)).pile_nil wk.heap.size)
   rintro ⟨j, ⟨Oa, qa, ca⟩, Op, az⟩ ⟨hj2, has, hac⟩
   simp only at hj2 has hac ⊢
   have hasl : az.length = j := by
    have := congrArg List.length has
    simp at this
    omega
   apply W.sr
   apply obn; rfl; rfl; rfl; apply Bin.lss
   apply OL.nx
   apply W.seq
   (refine W.cnd (fun hlt2 => ?_) (fun hlt2 => ?_)) <;> (try (exfalso; first | omega | exact hlt2 trivial | contradiction))
   ·have hjl : j < ps.length := by omega
    obtain ⟨aa, u, hqa, haba, hu, hca, hok2⟩ := harr.get hjl
    have haba : aa.block < w.heap.size := haba
    have hca : CellsAt w (aa.add (j * 2)) [.int .i64 u.1.tag, .slice u.2.1 u.1.binds.length u.2.2] := hca
    have huo := hok2.2.2
    have hul : u.1.binds.length ≤ 16 := hL.ab u.1 (by rw [← hps]; exact List.mem_map_of_mem (List.mem_of_getElem? hu))
    rw [hqa]
    apply W.sk
    apply W.sb
    apply W.sr
    apply oop; rfl; apply Pev.idx; rfl; exact yes; rfl; exact yes; rfl; rfl; intro hcond; omega
    apply oop; rfl; apply Pev.load_keptA; rfl; exact yes; exact .tail _ (.head _); rfl; intro hcond; assumption; rfl; intro hcond; (rw [add_block]; assumption); intro hcond; exact NotOwned.au
    apply OL.alloc; rfl; rfl; exact CellsL.agg; (intro bk hbk; simp only [AllLe, and_true] at hbk)
    apply OL.storeB; rfl; rfl; exact CellsL.agg; rfl; rfl; rfl; exact Swap.au; exact Put.au
    apply OL.nx
    revert bk
    intro ba hba
    refine W.cls (fun w' hw' => Cls.mv (A := [_]) (I := [_, _, _, _, _, _]) (H := []) hw') ?_
    simp only [List.cons_append, List.nil_append]
    refine W.regany (X := XG [wk, w] u.1.binds.length wk.heap.size) (fun x e => [(72, true, bif e 14 then .pointer (some ⟨bt, 0 + 4, none⟩) else x.old 72), (71, true, bif e 13 then .pointer (some ⟨bt, 0, none⟩) else x.old 71), (70, true, bif e 12 then .slice (some ⟨x.g1, 0, none⟩) (j + 1) x.c1 else x.old 70), (69, true, bif e 11 then .slice (some ⟨x.b1, 0, none⟩) 1 1 else x.old 69), (68, true, bif e 10 then .agg [.int .i64 u.1.tag, .slice x.q u.1.binds.length x.c].toArray else x.old 68), (67, true, bif e 9 then .slice x.q u.1.binds.length x.c else x.old 67), (66, true, bif e 8 then .slice u.2.1 u.1.binds.length u.2.2 else x.old 66), (65, true, bif e 7 then .pointer (some ⟨ba, 0 + 1, none⟩) else x.old 65), (64, true, bif e 6 then .int .i64 u.1.tag else x.old 64), (63, true, bif e 5 then .pointer (some ⟨ba, 0 + 0, none⟩) else x.old 63), (62, true, bif e 4 then .slice qa j ca else x.old 62), (61, true, bif e 3 then .pointer (some ⟨bt, 0 + 4, none⟩) else x.old 61), (60, true, bif e 2 then .pointer (some ⟨bt, 0, none⟩) else x.old 60), (59, true, bif e 1 then .pointer (some ⟨bt, 0, none⟩) else x.old 59), (58, true, bif e 0 then .pointer (some ⟨bt, 0, none⟩) else x.old 58), (0, true, .slice (some a) es.length cap), (3, true, .slice (some ⟨bn, 0, none⟩) es.length es.length), (4, true, .int .i64 (i : Int)), (14, true, .slice (some a) es.length cap), (15, true, .int .i64 (es.length : Int)), (16, true, .int .i64 (i : Int)), (6, true, .pointer (some ⟨bt, 0, none⟩)), (10, true, .pointer (some ⟨ba, 0, none⟩)), (52, true, .slice (some aa) ps.length p.2.a.2), (53, true, .int .i64 (ps.length : Int)), (54, true, .int .i64 (j : Int))])
     (fun x e => (blk bn 86 (nds tb i es.length)) :: (pile wk.heap.size Ob [⟨qb, cb, ints p.1.binds⟩]) :: (blk bt 102 [.int .i64 p.1.op, .int .i64 p.1.n, .slice qb p.1.binds.length cb, .slice qk p.1.kids.length ck, bif e 15 then .slice (some ⟨x.g1, 0, none⟩) (j + 1) x.c1 else .slice qa j ca]) :: (row wk.heap.size Ok qk p.1.kids.length ck 86 1 (ptrs (kp tb p.1.kids))) :: (bif e 12 then row wk.heap.size x.O1 (some ⟨x.g1, 0, none⟩) (j + 1) x.c1 79 2 (cat altR_.c az ++ [.int .i64 u.1.tag, .slice x.q u.1.binds.length x.c]) else row wk.heap.size Oa qa j ca 79 2 (cat altR_.c az)) :: (pile wk.heap.size Op (az.map alSl)) :: (blk ba 79 [.int .i64 u.1.tag, .slice u.2.1 u.1.binds.length u.2.2]) :: (bif e 9 then pile wk.heap.size x.O [⟨x.q, x.c, ints u.1.binds⟩] else nothing) :: (bif e 11 then blk x.b1 79 [.int .i64 u.1.tag, .slice x.q u.1.binds.length x.c] else nothing) :: [])
     (fun old => ⟨fun _ => False, none, u.1.binds.length, Nat.le_refl _, wk.heap.size, Nat.le_refl _, 0, 0, fun _ => False, wk.heap.size, Nat.le_refl _, old⟩) (by kernel_rfl) (by kernel_rfl) (fun w hw => hw.drew) (fun old => by repeat (first | exact SubO.nil | apply SubO.cons rfl | refine SubO.old rfl ?_)) (fun old w' hw' => hw'.add_nothing.add_nothing) ?_ ?_
    ·intro x e i o ho hei hd hcl
     have hi : i < 16 := (List.getElem?_eq_some_iff.1 ho).1
     obtain rfl | rfl | rfl | rfl | rfl | rfl | rfl | rfl | rfl | rfl | rfl | rfl | rfl | rfl | rfl | rfl : i = 0 ∨ i = 1 ∨ i = 2 ∨ i = 3 ∨ i = 4 ∨ i = 5 ∨ i = 6 ∨ i = 7 ∨ i = 8 ∨ i = 9 ∨ i = 10 ∨ i = 11 ∨ i = 12 ∨ i = 13 ∨ i = 14 ∨ i = 15 := by omega
     ·cases ho
      have v0 : Eng.upd e 0 0 = true := upd_eq
      simp only [hei, cond_true, cond_false]
      apply omv; rfl; rfl
      apply OL.nil
      exact At.beside x (by repeat (first | exact Sub.nil | apply Sub.cons rfl | refine Sub.cons_eq rfl (by simp only [v0, cond_true, cond_false]) ?_)) (fun w' hw' => by first | exact hw' | (simp only [v0, cond_true, cond_false]; exact hw'))
     ·cases ho
      have v1 : Eng.upd e 1 1 = true := upd_eq
      simp only [hei, cond_true, cond_false]
      apply omv; rfl; rfl
      apply OL.nil
      exact At.beside x (by repeat (first | exact Sub.nil | apply Sub.cons rfl | refine Sub.cons_eq rfl (by simp only [v1, cond_true, cond_false]) ?_)) (fun w' hw' => by first | exact hw' | (simp only [v1, cond_true, cond_false]; exact hw'))
     ·cases ho
      have h1 : e 1 = true := hd ⟨1, .data⟩ (by simp) rfl
      have v2 : Eng.upd e 2 2 = true := upd_eq
      have v1 : Eng.upd e 2 1 = true := upd_mono h1
      simp only [hei, h1, cond_true, cond_false]
      apply oop; rfl; apply Pev.nil_ptr; rfl; exact yes
      apply OL.nil
      exact At.beside x (by repeat (first | exact Sub.nil | apply Sub.cons rfl | refine Sub.cons_eq rfl (by simp only [v2, v1, cond_true, cond_false]) ?_)) (fun w' hw' => by first | exact hw' | (simp only [v2, v1, cond_true, cond_false]; exact hw'))
     ·cases ho
      have h2 : e 2 = true := hd ⟨2, .data⟩ (by simp) rfl
      have v3 : Eng.upd e 3 3 = true := upd_eq
      have v2 : Eng.upd e 3 2 = true := upd_mono h2
      simp only [hei, h2, cond_true, cond_false]
      apply ofa; rfl; rfl; rfl
      apply OL.nil
      exact At.beside x (by repeat (first | exact Sub.nil | apply Sub.cons rfl | refine Sub.cons_eq rfl (by simp only [v3, v2, cond_true, cond_false]) ?_)) (fun w' hw' => by first | exact hw' | (simp only [v3, v2, cond_true, cond_false]; exact hw'))
     ·cases ho
      have h3 : e 3 = true := hd ⟨3, .data⟩ (by simp) rfl
      have h15 : e 15 = false := hcl.not (i := 4) (j := 15) rfl hei (by kernel_rfl)
      have v4 : Eng.upd e 4 4 = true := upd_eq
      have v3 : Eng.upd e 4 3 = true := upd_mono h3
      have v15 : Eng.upd e 4 15 = false := h15
      simp only [hei, h3, h15, cond_true, cond_false]
      apply old; rfl; rfl; exact .tail _ (.tail _ (.head _)); rfl; rfl
      apply OL.nil
      exact At.beside x (by repeat (first | exact Sub.nil | apply Sub.cons rfl | refine Sub.cons_eq rfl (by simp only [v4, v3, v15, cond_true, cond_false]) ?_)) (fun w' hw' => by first | exact hw' | (simp only [v4, v3, v15, cond_true, cond_false]; exact hw'))
     ·cases ho
      have v5 : Eng.upd e 5 5 = true := upd_eq
      simp only [hei, cond_true, cond_false]
      apply ofa; rfl; rfl; rfl
      apply OL.nil
      exact At.beside x (by repeat (first | exact Sub.nil | apply Sub.cons rfl | refine Sub.cons_eq rfl (by simp only [v5, cond_true, cond_false]) ?_)) (fun w' hw' => by first | exact hw' | (simp only [v5, cond_true, cond_false]; exact hw'))
     ·cases ho
      have h5 : e 5 = true := hd ⟨5, .data⟩ (by simp) rfl
      have v6 : Eng.upd e 6 6 = true := upd_eq
      have v5 : Eng.upd e 6 5 = true := upd_mono h5
      simp only [hei, h5, cond_true, cond_false]
      apply old; rfl; rfl; apply List.Mem.tail; apply List.Mem.tail; apply List.Mem.tail; apply List.Mem.tail; exact .tail _ (.tail _ (.head _)); rfl; rfl
      apply OL.nil
      exact At.beside x (by repeat (first | exact Sub.nil | apply Sub.cons rfl | refine Sub.cons_eq rfl (by simp only [v6, v5, cond_true, cond_false]) ?_)) (fun w' hw' => by first | exact hw' | (simp only [v6, v5, cond_true, cond_false]; exact hw'))
     ·cases ho
      have v7 : Eng.upd e 7 7 = true := upd_eq
      simp only [hei, cond_true, cond_false]
      apply ofa; rfl; rfl; rfl
      apply OL.nil
      exact At.beside x (by repeat (first | exact Sub.nil | apply Sub.cons rfl | refine Sub.cons_eq rfl (by simp only [v7, cond_true, cond_false]) ?_)) (fun w' hw' => by first | exact hw' | (simp only [v7, cond_true, cond_false]; exact hw'))
     ·cases ho
      have h7 : e 7 = true := hd ⟨7, .data⟩ (by simp) rfl
      have v8 : Eng.upd e 8 8 = true := upd_eq
      have v7 : Eng.upd e 8 7 = true := upd_mono h7
      simp only [hei, h7, cond_true, cond_false]
      apply old; rfl; rfl; apply List.Mem.tail; apply List.Mem.tail; apply List.Mem.tail; apply List.Mem.tail; exact .tail _ (.tail _ (.head _)); rfl; rfl
      apply OL.nil
      exact At.beside x (by repeat (first | exact Sub.nil | apply Sub.cons rfl | refine Sub.cons_eq rfl (by simp only [v8, v7, cond_true, cond_false]) ?_)) (fun w' hw' => by first | exact hw' | (simp only [v8, v7, cond_true, cond_false]; exact hw'))
     ·cases ho
      have h8 : e 8 = true := hd ⟨8, .data⟩ (by simp) rfl
      have h10 : e 10 = false := hcl.not (i := 9) (j := 10) rfl hei (by kernel_rfl)
      have h11 : e 11 = false := hcl.not (i := 10) (j := 11) rfl h10 (by kernel_rfl)
      have h12 : e 12 = false := hcl.not (i := 9) (j := 12) rfl hei (by kernel_rfl)
      have h15 : e 15 = false := hcl.not (i := 9) (j := 15) rfl hei (by kernel_rfl)
      have v9 : Eng.upd e 9 9 = true := upd_eq
      have v8 : Eng.upd e 9 8 = true := upd_mono h8
      have v10 : Eng.upd e 9 10 = false := h10
      have v11 : Eng.upd e 9 11 = false := h11
      have v12 : Eng.upd e 9 12 = false := h12
      have v15 : Eng.upd e 9 15 = false := h15
      simp only [hei, h8, h10, h11, h12, h15, cond_true, cond_false]
      refine OL.callE (α := (Nat → Prop) × Option Addr × Nat) (fun z => .slice z.2.1 u.1.binds.length z.2.2) (fun z => u.1.binds.length ≤ z.2.2) (fun z => Cls (pile wk.heap.size z.1 [⟨z.2.1, z.2.2, ints u.1.binds⟩] :: blk bn 86 (nds tb i es.length) :: pile wk.heap.size Ob [⟨qb, cb, ints p.1.binds⟩] :: blk bt 102 [.int .i64 p.1.op, .int .i64 p.1.n, .slice qb p.1.binds.length cb, .slice qk p.1.kids.length ck, .slice qa j ca] :: row wk.heap.size Ok qk p.1.kids.length ck 86 1 (ptrs (kp tb p.1.kids)) :: row wk.heap.size Oa qa j ca 79 2 (cat altR_.c az) :: pile wk.heap.size Op (az.map alSl) :: blk ba 79 [.int .i64 u.1.tag, .slice u.2.1 u.1.binds.length u.2.2] :: nothing :: nothing :: []) [wk, w]) rfl rfl (by exact Args.au) (fun w2 hw2 => ?_) ?_
      ·exact (Clone_calls u.2.1 u.2.2 u.1.binds w2 (huo.at hw2 (.tail _ (.head _)) (fun k hk => by exact NotOwned.au)) (by omega)).mono fun e w3 ⟨q', c', h1, h2, h3, h4⟩ => ⟨(_, q', c'), h1, h4, hw2.pile_new (hw2.kp wk (.head _)).size h2 (fun hl => h3 (by rwa [ints_length] at hl))⟩
      rintro ⟨Oc, qc, cc⟩ hcc
      simp only at hcc ⊢
      apply OL.nil
      exact At.beside { x with O := Oc, q := qc, c := cc, hc := hcc } (by repeat (first | exact Sub.nil | apply Sub.cons rfl | refine Sub.cons_eq rfl (by simp only [v9, v8, v10, v11, v12, v15, cond_true, cond_false]) ?_)) (fun w' hw' => by simp only [v9, v8, v10, v11, v12, v15, cond_true, cond_false]; exact Cls.fill (p := 7) (H := _ :: _ :: _ :: _ :: _ :: _ :: _ :: _ :: _ :: []) (.s (.s (.s (.s (.s (.s (.s .z))))))) hw')
     ·cases ho
      have h6 : e 6 = true := hd ⟨6, .data⟩ (by simp) rfl
      have h9 : e 9 = true := hd ⟨9, .data⟩ (by simp) rfl
      have v10 : Eng.upd e 10 10 = true := upd_eq
      have v6 : Eng.upd e 10 6 = true := upd_mono h6
      have v9 : Eng.upd e 10 9 = true := upd_mono h9
      simp only [hei, h6, h9, cond_true, cond_false]
      apply oop; rfl; apply Pev.build; rfl; exact CellsL.agg; rfl; exact Fill.au; rfl
      apply OL.nil
      exact At.beside x (by repeat (first | exact Sub.nil | apply Sub.cons rfl | refine Sub.cons_eq rfl (by simp only [v10, v6, v9, cond_true, cond_false]) ?_)) (fun w' hw' => by first | exact hw' | (simp only [v10, v6, v9, cond_true, cond_false]; exact hw'))
     ·cases ho
      have h10 : e 10 = true := hd ⟨10, .data⟩ (by simp) rfl
      have h12 : e 12 = false := hcl.not (i := 11) (j := 12) rfl hei (by kernel_rfl)
      have v11 : Eng.upd e 11 11 = true := upd_eq
      have v10 : Eng.upd e 11 10 = true := upd_mono h10
      have v12 : Eng.upd e 11 12 = false := h12
      simp only [hei, h10, h12, cond_true, cond_false]
      apply OL.buildSlice; rfl; rfl; rfl; exact Elems.au; rfl; rfl; (intro bk hbk; simp only [AllLe, and_true] at hbk)
      apply OL.nil
      exact At.beside { x with b1 := bk, hb1 := hbk.1 } (by repeat (first | exact Sub.nil | apply Sub.cons rfl | refine Sub.cons_eq rfl (by simp only [v11, v10, v12, cond_true, cond_false]) ?_)) (fun w' hw' => by simp only [v11, v10, v12, cond_true, cond_false]; exact Cls.fill (p := 8) (H := _ :: _ :: _ :: _ :: _ :: _ :: _ :: _ :: _ :: []) (.s (.s (.s (.s (.s (.s (.s (.s .z)))))))) hw')
     ·cases ho
      have h4 : e 4 = true := hd ⟨4, .data⟩ (by simp) rfl
      have h11 : e 11 = true := hd ⟨11, .data⟩ (by simp) rfl
      have h15 : e 15 = false := hcl.not (i := 12) (j := 15) rfl hei (by kernel_rfl)
      have v12 : Eng.upd e 12 12 = true := upd_eq
      have v4 : Eng.upd e 12 4 = true := upd_mono h4
      have v11 : Eng.upd e 12 11 = true := upd_mono h11
      have v15 : Eng.upd e 12 15 = false := h15
      simp only [hei, h4, h11, h15, cond_true, cond_false]
      apply OL.append
      rfl
      rfl
      rfl
      rfl
      (repeat (first | apply Hole.z | apply Hole.s))
      (repeat (first | exact List.Mem.head _ | apply List.Mem.tail))
      (repeat (first | apply Take.zero | apply Take.succ))
      rfl
      rfl
      exact ⟨wk, .head _, Nat.le_refl _⟩
      omega
      intro O1 g1 cap1
      apply OL.nil
      exact At.beside { x with g1 := g1, c1 := cap1, O1 := O1 } (by repeat (first | exact Sub.nil | apply Sub.cons rfl | refine Sub.cons_eq rfl (by simp only [v12, v4, v11, v15, cond_true, cond_false]) ?_)) (fun w' hw' => by first | exact hw' | (simp only [v12, v4, v11, v15, cond_true, cond_false]; exact hw'))
     ·cases ho
      have h0 : e 0 = true := hd ⟨0, .data⟩ (by simp) rfl
      have v13 : Eng.upd e 13 13 = true := upd_eq
      have v0 : Eng.upd e 13 0 = true := upd_mono h0
      simp only [hei, h0, cond_true, cond_false]
      apply oop; rfl; apply Pev.nil_ptr; rfl; exact yes
      apply OL.nil
      exact At.beside x (by repeat (first | exact Sub.nil | apply Sub.cons rfl | refine Sub.cons_eq rfl (by simp only [v13, v0, cond_true, cond_false]) ?_)) (fun w' hw' => by first | exact hw' | (simp only [v13, v0, cond_true, cond_false]; exact hw'))
     ·cases ho
      have h13 : e 13 = true := hd ⟨13, .data⟩ (by simp) rfl
      have v14 : Eng.upd e 14 14 = true := upd_eq
      have v13 : Eng.upd e 14 13 = true := upd_mono h13
      simp only [hei, h13, cond_true, cond_false]
      apply ofa; rfl; rfl; rfl
      apply OL.nil
      exact At.beside x (by repeat (first | exact Sub.nil | apply Sub.cons rfl | refine Sub.cons_eq rfl (by simp only [v14, v13, cond_true, cond_false]) ?_)) (fun w' hw' => by first | exact hw' | (simp only [v14, v13, cond_true, cond_false]; exact hw'))
     ·cases ho
      have h12 : e 12 = true := hd ⟨12, .data⟩ (by simp) rfl
      have h14 : e 14 = true := hd ⟨14, .data⟩ (by simp) rfl
      have v15 : Eng.upd e 15 15 = true := upd_eq
      have v12 : Eng.upd e 15 12 = true := upd_mono h12
      have v14 : Eng.upd e 15 14 = true := upd_mono h14
      simp only [hei, h12, h14, cond_true, cond_false]
      apply OL.storeB; rfl; rfl; exact CellsL.one rfl; rfl; rfl; rfl; exact Swap.au; exact Put.au
      apply OL.nil
      exact At.beside x (by repeat (first | exact Sub.nil | apply Sub.cons rfl | refine Sub.cons_eq rfl (by simp only [v15, v12, v14, cond_true, cond_false]) ?_)) (fun w' hw' => by first | exact hw' | (simp only [v15, v12, v14, cond_true, cond_false]; exact hw'))
    ·intro x e2 hall
     have hx1 := x.hb1
     have hx2 := x.hc
     simp only [hall 0 (by decide), hall 1 (by decide), hall 2 (by decide), hall 3 (by decide), hall 4 (by decide), hall 5 (by decide), hall 6 (by decide), hall 7 (by decide), hall 8 (by decide), hall 9 (by decide), hall 10 (by decide), hall 11 (by decide), hall 12 (by decide), hall 13 (by decide), hall 14 (by decide), hall 15 (by decide), cond_true]
     have hsn : cat altR_.c az ++ [.int .i64 u.1.tag, .slice x.q u.1.binds.length x.c] = cat altR_.c (az ++ [(u.1, (x.q, x.c))]) := by
      rw [cat_append, cat_one]
      rfl
     rw [hsn]
     with_reducible apply At.in_normal
     with_reducible apply At.next
     apply W.reg
     apply obn; rfl; rfl; rfl; apply Bin.add_in; omega
     apply omv; rfl; rfl
     apply OL.nil
     have hax : (az ++ [(u.1, (x.q, x.c))]).map alSl = az.map alSl ++ [⟨x.q, x.c, ints u.1.binds⟩] := by rw [List.map_append]; rfl
     refine At.again (j + 1, ⟨x.O1, some ⟨x.g1, 0, none⟩, x.c1⟩, (fun k => x.O k ∨ Op k), az ++ [(u.1, (x.q, x.c))]) ⟨by simp only; omega, ?_, fun s hs => ?_⟩ (by simp only; omega) (by exact Sub.au) (fun w' hw' => ?_)
     ·simp only
      rw [List.map_append, has, List.take_add_one, hu]
      simp
     ·simp only at hs
      rcases List.mem_append.1 hs with hs | hs
      ·exact hac s hs
      ·obtain rfl := List.mem_singleton.1 hs
       exact hx2
     ·simp only [hax]
      have h1 := hw'.thin (.keep (.keep (.keep (.keep (.keep (.keep (.blk (by simp only [AllLe, and_true]; omega) (.keep (.blk ⟨hx1, by omega, trivial⟩ Thin.nil)))))))))
      exact Cls.mv (A := [_]) (I := [_, _, _, _, _]) (H := []) (Cls.pile_merge (Cls.flip (Cls.mv (A := [_, _, _, _, _, _]) (I := [_]) (H := []) (Cls.mv (A := [_, _, _, _, _, _]) (I := [_]) (H := []) h1))))
   obtain rfl : j = ps.length := by omega
   rw [List.take_length, hps] at has
   rw [← hpl] at *
   refine W.xt ?_
   with_reducible apply At.next
   apply W.reg
   apply omv; rfl; rfl
   apply omv; rfl; rfl
   apply omv; rfl; rfl
   apply oop; rfl; apply Pev.idxB; rfl; exact yes; rfl; exact yes; rfl; intro hcond; omega; rfl
   (apply OL.storeI); rfl; rfl; rfl; rfl; rfl; (exact Swap.au); (rw [nds_length]; omega)
   have hset : (nds tb i es.length).set (0 + (i : Int).toNat * 1) (.pointer (some ⟨bt, 0, none⟩)) = nds (fun k => if k = i then bt else tb k) (i + 1) es.length := by
    rw [show 0 + (i : Int).toNat * 1 = i by simp, nds_set hil]
   rw [hset]
   apply OL.nil
   with_reducible apply At.in_normal
   with_reducible apply At.next
   apply W.reg
   apply obn; rfl; rfl; rfl; apply Bin.add_in; omega
   apply omv; rfl; rfl
   apply OL.nil
   refine At.againE (fun w' hw' => ⟨(i + 1, w', fun k => if k = i then bt else tb k), ⟨by simp only; omega, Nat.le_trans hwk (hw'.kp wk (.head _)).size, Nat.lt_of_lt_of_le hbnk (hw'.kp wk (.head _)).size, ?_⟩, by simp only; omega, (by exact Sub.au), ?_⟩)
   ·intro k hk
    simp only at hk ⊢
    have hsz := (hw'.kp wk (.head _)).size
    have hold : ∀ m, m < i → TrO w' (fun b => b < w'.heap.size ∧ b ≠ bn ∧ w.heap.size ≤ b) (grow e m) (tb m) := fun m hm =>
     TrO.mono (fun b hb => ⟨Nat.lt_of_lt_of_le hb.1 hsz, hb.2⟩) (TrO.stab (fun b hb => (hw'.kp wk (.head _)).block b hb.1 (NotOwned.not (by have h1 := hb.1; have h2 := hb.2.1; exact NotOwned.au))) (htr m hm))
    have hup : ∀ (j : Eng.Item) (b : Nat), j ∈ (blk bn 86 (nds (fun k => if k = i then bt else tb k) (i + 1) es.length) :: pile wk.heap.size Ob [⟨qb, cb, ints p.1.binds⟩] :: blk bt 102 [.int .i64 p.1.op, .int .i64 p.1.n, .slice qb p.1.binds.length cb, .slice qk p.1.kids.length ck, .slice qa p.1.alts.length ca] :: row wk.heap.size Ok qk p.1.kids.length ck 86 1 (ptrs (kp tb p.1.kids)) :: row wk.heap.size Oa qa p.1.alts.length ca 79 2 (cat altR_.c az) :: pile wk.heap.size Op (az.map alSl) :: [] : List Eng.Item) → j.own b → wk.heap.size ≤ b → b < w'.heap.size ∧ b ≠ bn ∧ w.heap.size ≤ b := fun j b hj hb hle => ⟨hw'.lt j hj b hb, by omega, by omega⟩
    by_cases hki : k = i
    ·subst hki
     rw [if_pos rfl, grow_eq hd hpe]
     have hbt := hw'.item (i := blk bt 102 [.int .i64 p.1.op, .int .i64 p.1.n, .slice qb p.1.binds.length cb, .slice qk p.1.kids.length ck, .slice qa p.1.alts.length ca]) (by exact mau)
     have hpb := hw'.item (i := pile wk.heap.size Ob [⟨qb, cb, ints p.1.binds⟩]) (by exact mau)
     have hrk := hw'.item (i := row wk.heap.size Ok qk p.1.kids.length ck 86 1 (ptrs (kp tb p.1.kids))) (by exact mau)
     have hra := hw'.item (i := row wk.heap.size Oa qa p.1.alts.length ca 79 2 (cat altR_.c az)) (by exact mau)
     have hpa := hw'.item (i := pile wk.heap.size Op (az.map alSl)) (by exact mau)
     simp only [TrO]
     refine ⟨⟨(qb, cb), (qk, ck), (qa, ca)⟩, ⟨hup _ bt (.tail _ (.tail _ (.head _))) rfl hx1, fun j v hj => ?_, hLb, hLa, hL.ab, fun hl => ?_, ⟨az, has, fun hl => ?_, fun s hs => ?_⟩⟩, by rw [List.length_map]; exact hkl1, fun hl => ?_⟩
     ·rw [add_mid, blk_cell hbt, Nat.zero_add]
      rw [List.length_map] at hj
      exact hj
     ·obtain ⟨a, h1, h2, h3⟩ := hpb _ (.head _) (by rw [ints_length]; exact hl)
      exact ⟨a, h1, hup (pile wk.heap.size Ob [⟨qb, cb, ints p.1.binds⟩]) _ (.tail _ (.head _)) h2 h2.1, h3⟩
     ·obtain ⟨a, h1, h2, h3⟩ := row_at hra (by rw [cat_length (f := altR_.c) altR_.clen]; exact Nat.mul_pos hl (by decide))
      exact ⟨a, h1, hup (row wk.heap.size Oa qa p.1.alts.length ca 79 2 (cat altR_.c az)) _ (.tail _ (.tail _ (.tail _ (.tail _ (.head _))))) h2 h2.1, h3⟩
     ·have hs1 : s.1 ∈ p.1.alts := by rw [← has]; exact List.mem_map_of_mem hs
      obtain ⟨u, hu, hus⟩ : ∃ u ∈ ps, u.1 = s.1 := by
       rw [← hps] at hs1
       obtain ⟨u, hu, hus⟩ := List.mem_map.1 hs1
       exact ⟨u, hu, hus⟩
      have hou := (harr.el u hu).1
      rw [hus] at hou
      refine ⟨hou, ⟨Nat.le_trans (hL.ab _ hs1) (by decide), hac s hs⟩, fun hl => ?_⟩
      obtain ⟨a, h1, h2, h3⟩ := hpa (alSl s) (List.mem_map_of_mem hs) (by show 0 < (ints s.1.binds).length; rw [ints_length]; exact hl)
      exact ⟨a, h1, hup (pile wk.heap.size Op (az.map alSl)) _ (.tail _ (.tail _ (.tail _ (.tail _ (.tail _ (.head _)))))) h2 h2.1, h3⟩
     ·rw [List.length_map] at hl
      obtain ⟨a, h1, h2, h3⟩ := row_at hrk (by simpa [ptrs, kp] using hl)
      refine ⟨a, h1, hup (row wk.heap.size Ok qk p.1.kids.length ck 86 1 (ptrs (kp tb p.1.kids))) _ (.tail _ (.tail _ (.tail _ (.head _)))) h2 h2.1, TrsO.of (bs := kp tb p.1.kids) (by simp [kp]) h3 (fun m t b h4 h5 => ?_)⟩
      simp only [kp, List.getElem?_map] at h4 h5
      cases hkm : p.1.kids[m]? with
      | none => rw [hkm] at h4; cases h4
      | some kv =>
       simp only [hkm, Option.map_some, Option.some.injEq] at h4 h5
       subst h4 h5
       have hkr := hdn kv (List.mem_of_getElem? hkm)
       exact hold kv.toNat (by omega)
    ·rw [if_neg hki]
     exact hold k (by omega)
   ·simp only
    have hany : ∀ (j : Eng.Item), (∀ k, j.own k → wk.heap.size ≤ k) → ∀ k, j.own k → AllLe [wk, w] k := fun j hj k hk => ⟨hj k hk, Nat.le_trans hwk (hj k hk), trivial⟩
    exact ((hw'.thin (.keep (.any (hany _ fun k hk => hk.1) (.blk ⟨hx1, Nat.le_trans hwk hx1, trivial⟩ (.any (hany _ fun k hk => hk.1) (.any (hany _ fun k hk => hk.1) (.any (hany _ fun k hk => hk.1) Thin.nil))))))).note).forget (fun s hs => by simp at hs ⊢; rcases hs with rfl | rfl <;> simp)
 ·obtain rfl : i = es.length := by omega
  have hlast : (nds tb es.length es.length)[0 + ((es.length : Int) - 1).toNat * 1]? = some (.pointer (some ⟨tb (es.length - 1), 0, none⟩)) := by
   rw [show 0 + ((es.length : Int) - 1).toNat * 1 = es.length - 1 by omega]
   exact nds_get (by omega) (by omega)
  refine W.xt ?_
  with_reducible apply At.next
  apply W.sr
  apply omv; rfl; rfl
  apply omv; rfl; rfl
  apply oop; rfl; apply Pev.len_slice; rfl; exact yes; rfl
  apply obn; rfl; rfl; rfl; apply Bin.sub_in; omega
  apply oop; rfl; apply Pev.idxB; rfl; exact yes; rfl; exact yes; rfl; intro hcond; omega; rfl
  apply oop; rfl; apply Pev.load_blk; rfl; exact yes; exact .head _; rfl; assumption
  apply oas; rfl; rfl
  apply OL.nx
  apply W.ret
  ((with_reducible apply At.fin1); rfl; rfl; intro w' hw')
  have hsz := (hw'.kp wk (.head _)).size
  exact ⟨tb (es.length - 1), rfl, by (exact hw'.fr), TrO.mono (fun b hb => ⟨hb.2.2, Nat.lt_of_lt_of_le hb.1 hsz⟩) (TrO.stab (fun b hb => (hw'.kp wk (.head _)).block b hb.1 (NotOwned.not (by have h1 := hb.1; have h2 := hb.2.1; exact NotOwned.au))) (htr _ (by omega)))⟩
theorem Grow_calls (es : List (Ex × ExY)) (q : Option Addr) (cap : Nat) (w : World) (he : Arr exR w (low w) es q) (hlen : es.length ≤ 4096) (h0 : 0 < es.length) (hd : Down (es.map Prod.fst)) (hlim : ∀ p ∈ es, Lim p.1) (hkl : ∀ p ∈ es, p.1.kids.length ≤ 4096) :
  Calls Tryd.prog 44 [.slice q es.length cap].toArray w fun e w' => ∃ b, e = .returned (.pointer (some ⟨b, 0, none⟩)) ∧ Ext w w' ∧ TrO w' (low w') (grow (es.map Prod.fst) (es.length - 1)) b :=
 (Grow_callsF es q cap w he hlen h0 hd hlim hkl).mono fun e w' ⟨b, h1, h2, h3⟩ => ⟨b, h1, h2, h3.mono fun k hk => hk.2⟩
end Go.Proofs.YtkpjndhgicbjjaaDoor.co

/- The walk of core's free. Conditions: none. -/
namespace Go.Co
open Go.Eng Go.RowKit
def intM (l : List (Int × Int)) : MI := l.map fun p => (p.1, .int .i64 p.2)
def lget : List (Int × Int) → Int → Option Int
 | [], _ => none
 | p :: r, k => if p.1 = k then some p.2 else lget r k
def lput : List (Int × Int) → Int → Int → List (Int × Int)
 | [], k, v => [(k, v)]
 | p :: r, k, v => if p.1 = k then (k, v) :: r else p :: lput r k v
def cf (l : List (Int × Int)) (k : Int) : Int := (lget l k).getD 0
theorem iget_intM (l : List (Int × Int)) (k : Int) : (iget (intM l) k).getD (.int .i64 0) = .int .i64 (cf l k) := by
 induction l with
 | nil => rfl
 | cons p r ih =>
  show (if p.1 = k then some (Value.int .i64 p.2) else iget (intM r) k).getD (.int .i64 0) = _
  unfold cf at ih ⊢
  rw [lget]
  by_cases h : p.1 = k
  ·simp [h]
  ·simp only [h, if_false]
   exact ih
theorem iput_intM (l : List (Int × Int)) (k v : Int) : iput (intM l) k (.int .i64 v) = intM (lput l k v) := by
 induction l with
 | nil => rfl
 | cons p r ih =>
  show (if p.1 = k then (k, Value.int .i64 v) :: intM r else (p.1, .int .i64 p.2) :: iput (intM r) k (.int .i64 v)) = _
  rw [lput]
  by_cases h : p.1 = k
  ·simp [h, intM]
  ·rw [if_neg h, if_neg h, ih]
   rfl
theorem cf_lput (l : List (Int × Int)) (k v j : Int) : cf (lput l k v) j = if k = j then v else cf l j := by
 induction l with
 | nil =>
  simp only [lput, cf, lget]
  split <;> simp
 | cons p r ih =>
  unfold cf at ih ⊢
  rw [lput]
  by_cases h : p.1 = k
  ·rw [if_pos h]
   simp only [lget, h]
   split <;> simp_all
  ·rw [if_neg h]
   simp only [lget]
   by_cases h2 : p.1 = j
   ·rw [if_pos h2, if_pos h2, if_neg (fun e => h (h2.trans e.symm))]
   ·rw [if_neg h2, if_neg h2]
    exact ih
def Cnt (l : List (Int × Int)) (sc : List Int) : Prop := ∀ k, cf l k = (sc.count k : Int)
theorem Cnt.inc {l : List (Int × Int)} {sc : List Int} (h : Cnt l sc) (k : Int) : Cnt (lput l k (cf l k + 1)) (k :: sc) := fun j => by
 rw [cf_lput, List.count_cons]
 by_cases e : k = j
 ·subst e
  rw [if_pos rfl, h k]
  simp
 ·rw [if_neg e, h j]
  simp [e]
theorem Cnt.dec {l : List (Int × Int)} {sc : List Int} {k : Int} (h : Cnt l (k :: sc)) : Cnt (lput l k (cf l k - 1)) sc := fun j => by
 rw [cf_lput]
 by_cases e : k = j
 ·subst e
  rw [if_pos rfl, h k, List.count_cons]
  simp
 ·rw [if_neg e, h j, List.count_cons]
  simp [e]
theorem Cnt.perm {l : List (Int × Int)} {sc sc' : List Int} (h : Cnt l sc) (hp : ∀ k, sc.count k = sc'.count k) : Cnt l sc' := fun k => by rw [h k, hp k]
theorem Cnt.mem {l : List (Int × Int)} {sc : List Int} (h : Cnt l sc) (k : Int) : cf l k = 0 ↔ ¬ k ∈ sc := by
 rw [h k, ← List.count_eq_zero]
 omega
mutual
def tsz : Tr → Nat
 | .mk _ _ _ kids _ => tszs kids + 1
def tszs : List Tr → Nat
 | [] => 0
 | t :: r => tsz t + tszs r
end
theorem tsz_get : ∀ {ts : List Tr} {i : Nat} {t : Tr}, ts[i]? = some t → tsz t ≤ tszs ts
 | [], _, _, h => by simp at h
 | u :: r, 0, t, h => by simp at h; subst h; simp only [tszs]; omega
 | u :: r, i + 1, t, h => by have := tsz_get (ts := r) (i := i) (t := t) (by simpa using h); simp only [tszs]; omega
theorem high_get : ∀ {ts : List Tr} {i : Nat} {t : Tr}, ts[i]? = some t → high t ≤ highs ts
 | [], _, _, h => by simp at h
 | u :: r, 0, t, h => by simp at h; subst h; simp only [highs]; omega
 | u :: r, i + 1, t, h => by have := high_get (ts := r) (i := i) (t := t) (by simpa using h); simp only [highs]; omega
end Go.Co
namespace Go.Eng
open Go.Co
section
variable {P : Program} {n : Nm} {l : Env} {H : List Item} {S : List World} {C : World → Prop} {c : Bool} {d : Option Nat} {ty : TypeId} {pos : String} {af : Array Edge} {g : Option (Nat × Bool)} {t : TypeId} {x y : Operand} {cx cy : Bool}
theorem Pev.clookup {k e : TypeId} {b : Nat} {m : List (Int × Int)} {s : Int} (hx : evl l x = some (cx, .map (some b))) (hcx : c = true → cx = true) (hy : evl l y = some (cy, .int .i64 s)) (hcy : c = true → cy = true) (ht : mapTi P t = some (k, e)) (hz : zeroV P e = some (.int .i64 0)) (hm : mapI b (intM m) ∈ H) :
  Pev P n l (Cls H S) ⟨d, .lookup t x y false, ty, pos, af, g⟩ c (.int .i64 (cf m s)) := by
 have h1 := Pev.ilookup (P := P) (n := n) (C := Cls H S) (d := d) (ty := ty) (pos := pos) (af := af) (g := g) hx hcx hy hcy ht hz (fun w hw => hw.item hm)
 rwa [iget_intM] at h1
end
end Go.Eng
namespace Go.Proofs.YtkpjndhgicbjjaaDoor.co
open Go.RowKit Go.Eng Go.Co
set_option maxRecDepth 100000
structure FG where
 bm : List (Int × Int)
 l : List Int
theorem free_calls (s0 : World) (bb bo : Nat) (hbb : s0.heap.size ≤ bb) (hbo : s0.heap.size ≤ bo) :
  ∀ (m : Nat) (t : Tr) (b : Nat) (sc : List Int) (bm : List (Int × Int)) (l : List Int) (H : List Eng.Item) (S : List World) (w : World), tsz t ≤ m → TrO s0 (low s0) t b → Cnt bm sc → sc.length + 16 * high t ≤ 1000000 → (∀ k, k < s0.heap.size → NotOwned H k) →
   Cls (mapI bb (intM bm) :: mapI bo (setM l) :: H) (s0 :: S) w →
   Calls Tryd.prog 58 [.pointer (some ⟨b, 0, none⟩), .map (some bb), .map (some bo)].toArray w fun e w' => e = .returned (.tuple #[]) ∧ ∃ bm' l', Cnt bm' sc ∧ (∀ n, n ∈ l' ↔ n ∈ l ∨ n ∈ fv t sc) ∧ (l.Nodup → l'.Nodup) ∧ Cls (mapI bb (intM bm') :: mapI bo (setM l') :: H) (s0 :: S) w' := by
 intro m
 induction m with
 | zero =>
  intro t b sc bm l H S w hm
  obtain ⟨op, n, binds, kids, alts⟩ := t
  simp only [tsz] at hm
  omega
 | succ m ih =>
 intro t b sc bm l H S w hm ht hcnt hlen hno hc
 obtain ⟨op, n, binds, kids, alts⟩ := t
 simp only [TrO] at ht
 obtain ⟨y, hnode, hkl, hks⟩ := ht
 have hbs : b < s0.heap.size := hnode.own
 have hcells := hnode.cells
 have hcellI : ∀ {j : Nat} {v : Value}, ([.int .i64 op, .int .i64 n, .slice y.b.1 binds.length y.b.2, .slice y.k.1 kids.length y.k.2, .slice y.a.1 alts.length y.a.2] : List Value)[j]? = some v → s0.cell? ⟨b, 0 + j, none⟩ = some v := fun {j v} hj => by
  have := hcells j v hj
  rwa [add_mid] at this
 have h0 := hcellI (j := 0) rfl
 have h1 := hcellI (j := 1) rfl
 have h3 := hcellI (j := 3) rfl
 refine enter Tryd.func58 rfl Tryd.ntmps58 rfl hc ?_
 (simp only [argEnv, Nat.zero_add, Nat.reduceAdd])
 apply W.seq
 apply W.sr
 apply omv; rfl; rfl
 apply oop; rfl; apply Pev.nil_ptr; rfl; exact yes
 apply ofa; rfl; rfl; rfl
 apply oop; rfl; apply Pev.load_kept; rfl; exact yes; exact .head _; rfl; intro hcond; assumption; intro hcond; assumption; intro hcond; exact NotOwned.au
 apply obn; rfl; rfl; rfl; apply Bin.eql
 apply omv; rfl; rfl
 apply oy; rfl; rfl; rfl; apply Pev.move; rfl; exact yes
 apply oy; rfl; rfl; rfl; apply Pev.move; rfl; exact yes
 apply oy; rfl; rfl; rfl; apply Pev.nil_ptr; rfl; exact fun h => h
 apply oy; rfl; rfl; rfl; apply Pev.fld; rfl; exact fun h => h; rfl
 apply oy; rfl; rfl; rfl; apply Pev.load_kept; rfl; exact fun h => h; exact .head _; rfl; intro hcond; assumption; intro hcond; assumption; intro hcond; exact NotOwned.au
 apply oy; rfl; rfl; rfl; apply Pev.clookup; rfl; exact fun h => h; rfl; exact fun h => h; rfl; rfl; exact .head _
 apply oy; rfl; rfl; rfl; apply Pev.bin; rfl; exact fun h => h; rfl; exact yes; intro hcond; apply Bin.eql
 apply oop; rfl; apply Pev.pick_and; rfl; exact yes; rfl; exact fun h => h
 apply OL.nx
 refine W.joinx (G := List Int) (fun l1 => (∀ k, k ∈ l1 ↔ k ∈ l ∨ k ∈ (if op = 0 ∧ ¬ n ∈ sc then [n] else [])) ∧ (l.Nodup → l1.Nodup)) (fun l1 => [(0, true, .pointer (some ⟨b, 0, none⟩)), (1, true, .map (some bb)), (2, true, .map (some bo))]) (fun l1 => Cls (mapI bb (intM bm) :: mapI bo (setM l1) :: H) (s0 :: S)) ?_ ?_
 ·refine W.cond rfl (fun hb => ?_) (fun hb => ?_)
  ·have hop : op = 0 ∧ ¬ n ∈ sc := ⟨by grind, (hcnt.mem n).1 (by grind)⟩
   apply W.reg
   apply omv; rfl; rfl
   apply omv; rfl; rfl
   apply oop; rfl; apply Pev.nil_ptr; rfl; exact yes
   apply ofa; rfl; rfl; rfl
   apply oop; rfl; apply Pev.load_kept; rfl; exact yes; exact .head _; rfl; intro hcond; assumption; intro hcond; assumption; intro hcond; exact NotOwned.au
   apply oop; rfl; apply Pev.build; rfl; exact CellsL.agg; rfl; exact Fill.au; rfl
   apply OL.iput; rfl; rfl; rfl; rfl; exact Hole.au
   apply OL.nil
   by_cases hin : n ∈ l
   ·rw [iput_setM_in hin]
    skip
    exact At.joinedx l ⟨fun k => by rw [if_pos hop]; simp; exact fun e => e ▸ hin, fun h => h⟩ (by exact Sub.au) (fun w' hw' => hw')
   ·rw [iput_setM hin]
    skip
    exact At.joinedx (l ++ [n]) ⟨fun k => by rw [if_pos hop]; simp, fun h => nodup_snoc h hin⟩ (by exact Sub.au) (fun w' hw' => hw')
  ·have hop : ¬ (op = 0 ∧ ¬ n ∈ sc) := fun ⟨h1, h2⟩ => by
    have h3 := (hcnt.mem n).2 h2
    rw [h1, h3] at hb
    simp at hb
   apply W.skip
   exact At.joinedx l ⟨fun k => by rw [if_neg hop]; simp, fun h => h⟩ (by exact Sub.au) (fun w' hw' => hw')
 rintro l1 ⟨hl1, hn1⟩
 apply W.sr
 apply omv; rfl; rfl
 apply oop; rfl; apply Pev.nil_ptr; rfl; exact yes
 apply ofa; rfl; rfl; rfl
 apply oop; rfl; apply Pev.load_kept; rfl; exact yes; exact .head _; rfl; intro hcond; assumption; intro hcond; assumption; intro hcond; exact NotOwned.au
 apply oop; rfl; apply Pev.len_slice; rfl; exact yes; rfl
 apply omv; rfl; rfl
 apply OL.nx
 apply W.block
 refine W.loop (G := Nat × FG) (fun g => g.1 ≤ kids.length ∧ Cnt g.2.bm sc ∧ (∀ k, k ∈ g.2.l ↔ k ∈ l1 ∨ ∃ m t, m < g.1 ∧ kids[m]? = some t ∧ k ∈ fv t (bound op binds alts m ++ sc)) ∧ (l.Nodup → g.2.l.Nodup)) (fun g => kids.length - g.1)
  (fun g => [(0, true, .pointer (some ⟨b, 0, none⟩)), (1, true, .map (some bb)), (2, true, .map (some bo)), (36, true, .slice y.k.1 kids.length y.k.2), (37, true, .int .i64 (kids.length : Int)), (38, true, .int .i64 (g.1 : Int))])
  (fun g => Cls (mapI bb (intM g.2.bm) :: mapI bo (setM g.2.l) :: H) (s0 :: S)) (0, ⟨bm, l1⟩) ⟨by simp, hcnt, fun k => by simp, hn1⟩ (by exact Sub.au) (fun w' hw' => hw') ?_
 rintro ⟨i, ⟨bm1, l2⟩⟩ ⟨hi, hcnt1, hl2, hn2⟩
 simp only at hi hcnt1 hl2 hn2 ⊢
 apply W.sr
 apply obn; rfl; rfl; rfl; apply Bin.lss
 apply OL.nx
 apply W.seq
 (refine W.cnd (fun hlt => ?_) (fun hlt => ?_)) <;> (try (exfalso; first | omega | exact hlt trivial | contradiction))
 ·have hil : i < kids.length := by omega
  obtain ⟨a, hqa, hab, htrs⟩ := hks (by omega)
  have hab : a.block < s0.heap.size := hab
  have hki : kids[i]? = some kids[i] := List.getElem?_eq_getElem hil
  obtain ⟨b', hcb, hkid⟩ := htrs.get hki
  have hsz := tsz_get hki
  have hhi := high_get hki
  simp only [tsz] at hm
  simp only [high] at hlen
  rw [hqa]
  apply W.sk
  apply W.sb
  apply W.sr
  apply omv; rfl; rfl
  apply oop; rfl; apply Pev.idx; rfl; exact yes; rfl; exact yes; rfl; rfl; intro hcond; omega
  apply oop; rfl; apply Pev.load_kept; rfl; exact yes; exact .head _; rfl; intro hcond; assumption; intro hcond; (rw [add_block]; assumption); intro hcond; exact NotOwned.au
  apply oas; rfl; rfl
  apply oas; rfl; rfl
  apply OL.nsr
  apply omv; rfl; rfl
  apply omv; rfl; rfl
  refine OL.callE (α := Option Addr × Nat) (fun z => .slice z.1 (bound op binds alts i).length z.2) (fun z => IntsO s0 (low s0) (bound op binds alts i) z.1 ∧ (bound op binds alts i).length ≤ 16) (fun z => Cls (mapI bb (intM bm1) :: mapI bo (setM l2) :: H) (s0 :: S)) rfl rfl (by exact Args.au) (fun w2 hw2 => ?_) ?_
  ·have hsame := hw2.same (.head _) (fun k hk => by exact NotOwned.au)
   refine (Bound_calls b op n binds kids.length alts y i w2 (low s0) (fun k hk => Nat.lt_of_lt_of_le hk (hw2.kp s0 (.head _)).size) (hnode.stab hsame) (by omega)).mono fun e w3 ⟨q, c, h4, h5, h6, h7⟩ => ⟨(q, c), h4, ⟨h6.stab (fun k hk => (hsame k hk).symm), h7⟩, hw2.ext h5⟩
  rintro ⟨qb, cb⟩ ⟨hIb, hb16⟩
  simp only at hIb hb16 ⊢
  generalize hbl : bound op binds alts i = bl at *
  apply oas; rfl; rfl
  apply OL.nx
  apply W.seq
  apply W.sr
  apply omv; rfl; rfl
  apply oop; rfl; apply Pev.len_slice; rfl; exact yes; rfl
  apply omv; rfl; rfl
  apply OL.nx
  apply W.block
  refine W.loop (G := Nat × List (Int × Int)) (fun g => g.1 ≤ bl.length ∧ Cnt g.2 (bl.take g.1 ++ sc)) (fun g => bl.length - g.1)
   (fun g => [(0, true, .pointer (some ⟨b, 0, none⟩)), (1, true, .map (some bb)), (2, true, .map (some bo)), (7, true, .pointer (some ⟨b', 0, none⟩)), (8, true, .slice qb bl.length cb), (36, true, .slice (some a) kids.length y.k.2), (37, true, .int .i64 (kids.length : Int)), (38, true, .int .i64 (i : Int)), (46, true, .slice qb bl.length cb), (47, true, .int .i64 (bl.length : Int)), (48, true, .int .i64 (g.1 : Int))])
   (fun g => Cls (mapI bb (intM g.2) :: mapI bo (setM l2) :: H) (s0 :: S)) (0, bm1) ⟨by simp, by simpa using hcnt1⟩ (by exact Sub.au) (fun w' hw' => hw') ?_
  rintro ⟨j, bm2⟩ ⟨hj, hcnt2⟩
  simp only at hj hcnt2 ⊢
  apply W.sr
  apply obn; rfl; rfl; rfl; apply Bin.lss
  apply OL.nx
  apply W.seq
  (refine W.cnd (fun hlt2 => ?_) (fun hlt2 => ?_)) <;> (try (exfalso; first | omega | exact hlt2 trivial | contradiction))
  ·have hjl : j < bl.length := by omega
   obtain ⟨av, v, hqv, habv, hv, hcv⟩ := hIb.get hjl
   have habv : av.block < s0.heap.size := habv
   have hcb2 : 0 ≤ cf bm2 v ∧ cf bm2 v ≤ 2000000 := by
    have h5 : (bl.take j ++ sc).count v ≤ (bl.take j ++ sc).length := List.count_le_length
    rw [List.length_append, List.length_take] at h5
    rw [hcnt2 v]
    omega
   rw [hqv]
   apply W.sk
   apply W.sb
   apply W.sr
   apply oop; rfl; apply Pev.idx; rfl; exact yes; rfl; exact yes; rfl; rfl; intro hcond; omega
   apply oop; rfl; apply Pev.load_kept; rfl; exact yes; exact .head _; rfl; intro hcond; assumption; intro hcond; (rw [add_block]; assumption); intro hcond; exact NotOwned.au
   apply oas; rfl; rfl
   apply OL.nx
   apply W.reg
   apply omv; rfl; rfl
   apply omv; rfl; rfl
   apply oop; rfl; apply Pev.clookup; rfl; exact yes; rfl; exact yes; rfl; rfl; exact .head _
   apply obn; rfl; rfl; rfl; apply Bin.add_in; omega
   apply OL.iput; rfl; rfl; rfl; rfl; exact Hole.au
   apply OL.nil
   with_reducible apply At.in_normal
   with_reducible apply At.next
   apply W.reg
   apply obn; rfl; rfl; rfl; apply Bin.add_in; omega
   apply omv; rfl; rfl
   apply OL.nil
   rw [iput_intM]
   skip
   refine At.again (j + 1, lput bm2 v (cf bm2 v + 1)) ⟨by simp only; omega, (hcnt2.inc v).perm fun k => ?_⟩ (by simp only; omega) (by exact Sub.au) (fun w' hw' => hw')
   simp only [List.take_add_one, hv, Option.toList_some, List.count_append, List.count_cons, List.count_nil]
   omega
  ·obtain rfl : j = bl.length := by omega
   rw [List.take_length] at hcnt2
   refine W.xt ?_
   with_reducible apply At.next
   apply W.sr
   apply omv; rfl; rfl
   apply omv; rfl; rfl
   apply omv; rfl; rfl
   refine OL.callE (α := FG) (fun _ => .tuple #[]) (fun z => Cnt z.bm (bl ++ sc) ∧ (∀ k, k ∈ z.l ↔ k ∈ l2 ∨ k ∈ fv kids[i] (bl ++ sc)) ∧ (l2.Nodup → z.l.Nodup)) (fun z => Cls (mapI bb (intM z.bm) :: mapI bo (setM z.l) :: H) (s0 :: S)) rfl rfl (by exact Args.au) (fun w2 hw2 => ?_) ?_
   ·refine (ih kids[i] b' (bl ++ sc) bm2 l2 H S w2 (by omega) hkid hcnt2 (by rw [List.length_append]; omega) hno hw2).mono fun e w3 ⟨h4, bm', l', h5, h6, h7, h8⟩ => ⟨⟨bm', l'⟩, h4, ⟨h5, h6, h7⟩, h8⟩
   rintro ⟨bm3, l3⟩ ⟨hcnt3, hl3, hn3⟩
   simp only at hcnt3 hl3 hn3 ⊢
   apply OL.nsr
   apply omv; rfl; rfl
   apply oop; rfl; apply Pev.len_slice; rfl; exact yes; rfl
   apply omv; rfl; rfl
   apply OL.nx
   apply W.block
   refine W.loop (G := Nat × List (Int × Int)) (fun g => g.1 ≤ bl.length ∧ Cnt g.2 (bl.drop g.1 ++ sc)) (fun g => bl.length - g.1)
    (fun g => [(0, true, .pointer (some ⟨b, 0, none⟩)), (1, true, .map (some bb)), (2, true, .map (some bo)), (36, true, .slice (some a) kids.length y.k.2), (37, true, .int .i64 (kids.length : Int)), (38, true, .int .i64 (i : Int)), (61, true, .slice qb bl.length cb), (62, true, .int .i64 (bl.length : Int)), (63, true, .int .i64 (g.1 : Int))])
    (fun g => Cls (mapI bb (intM g.2) :: mapI bo (setM l3) :: H) (s0 :: S)) (0, bm3) ⟨by simp, by simpa using hcnt3⟩ (by exact Sub.au) (fun w' hw' => hw') ?_
   rintro ⟨j, bm4⟩ ⟨hj2, hcnt4⟩
   simp only at hj2 hcnt4 ⊢
   apply W.sr
   apply obn; rfl; rfl; rfl; apply Bin.lss
   apply OL.nx
   apply W.seq
   (refine W.cnd (fun hlt3 => ?_) (fun hlt3 => ?_)) <;> (try (exfalso; first | omega | exact hlt3 trivial | contradiction))
   ·have hjl : j < bl.length := by omega
    obtain ⟨av, v, hqv, habv, hv, hcv⟩ := hIb.get hjl
    have habv : av.block < s0.heap.size := habv
    have hdrop : bl.drop j = v :: bl.drop (j + 1) := by
     obtain ⟨h5, rfl⟩ := List.getElem?_eq_some_iff.1 hv
     rw [List.drop_eq_getElem_cons h5]
    have hcb2 : 0 ≤ cf bm4 v ∧ cf bm4 v ≤ 2000000 := by
     have h5 : (bl.drop j ++ sc).count v ≤ (bl.drop j ++ sc).length := List.count_le_length
     rw [List.length_append, List.length_drop] at h5
     rw [hcnt4 v]
     omega
    rw [hdrop] at hcnt4
    rw [hqv]
    apply W.sk
    apply W.sb
    apply W.sr
    apply oop; rfl; apply Pev.idx; rfl; exact yes; rfl; exact yes; rfl; rfl; intro hcond; omega
    apply oop; rfl; apply Pev.load_kept; rfl; exact yes; exact .head _; rfl; intro hcond; assumption; intro hcond; (rw [add_block]; assumption); intro hcond; exact NotOwned.au
    apply oas; rfl; rfl
    apply OL.nx
    apply W.reg
    apply omv; rfl; rfl
    apply omv; rfl; rfl
    apply oop; rfl; apply Pev.clookup; rfl; exact yes; rfl; exact yes; rfl; rfl; exact .head _
    apply obn; rfl; rfl; rfl; apply Bin.sub_in; omega
    apply OL.iput; rfl; rfl; rfl; rfl; exact Hole.au
    apply OL.nil
    with_reducible apply At.in_normal
    with_reducible apply At.next
    apply W.reg
    apply obn; rfl; rfl; rfl; apply Bin.add_in; omega
    apply omv; rfl; rfl
    apply OL.nil
    rw [iput_intM]
    skip
    exact At.again (j + 1, lput bm4 v (cf bm4 v - 1)) ⟨by simp only; omega, hcnt4.dec⟩ (by simp only; omega) (by exact Sub.au) (fun w' hw' => hw')
   ·obtain rfl : j = bl.length := by omega
    rw [List.drop_length, List.nil_append] at hcnt4
    refine W.xt ?_
    with_reducible apply At.in_normal
    with_reducible apply At.next
    apply W.reg
    apply obn; rfl; rfl; rfl; apply Bin.add_in; omega
    apply omv; rfl; rfl
    apply OL.nil
    refine At.again (i + 1, ⟨bm4, l3⟩) ⟨by simp only; omega, hcnt4, fun k => ?_, fun h => hn3 (hn2 h)⟩ (by simp only; omega) (by exact Sub.au) (fun w' hw' => hw')
    simp only
    rw [hl3, hl2]
    constructor
    ·rintro ((h | ⟨m', t, h4, h5, h6⟩) | h)
     ·exact .inl h
     ·exact .inr ⟨m', t, by omega, h5, h6⟩
     ·exact .inr ⟨i, kids[i], by omega, hki, by rw [hbl]; exact h⟩
    ·rintro (h | ⟨m', t, h4, h5, h6⟩)
     ·exact .inl (.inl h)
     ·by_cases e : m' = i
      ·subst e
       rw [hki] at h5
       obtain rfl := Option.some.inj h5
       rw [hbl] at h6
       exact .inr h6
      ·exact .inl (.inr ⟨m', t, by omega, h5, h6⟩)
 ·obtain rfl : i = kids.length := by omega
  refine W.xt ?_
  apply At.end_
  apply At.fin0
  rfl
  intro w' hw'
  refine ⟨rfl, bm1, l2, hcnt1, fun k => ?_, hn2, hw'⟩
  rw [hl2, hl1, fv, List.mem_append, mem_fvs, or_assoc]
  constructor
  ·rintro (h | h | ⟨m', t, h4, h5, h6⟩)
   ·exact .inl h
   ·exact .inr (.inl h)
   ·exact .inr (.inr ⟨m', t, h5, by rw [Nat.zero_add]; exact h6⟩)
  ·rintro (h | h | ⟨m', t, h5, h6⟩)
   ·exact .inl h
   ·exact .inr (.inl h)
   ·exact .inr (.inr ⟨m', t, (List.getElem?_eq_some_iff.1 h5).1, h5, by rw [Nat.zero_add] at h6; exact h6⟩)
end Go.Proofs.YtkpjndhgicbjjaaDoor.co

/- A grown row that a function of the library writes over in place (a sort, a compaction). General. No condition. -/
namespace Go.Eng
open Go.RowKit Go.Sort
theorem putCells_take {α : Type} [Inhabited α] (enc : α → Value) (d : Array α) (c : Array Value) (h : d.size ≤ c.size) : (putCells enc 0 d c).toList.take d.size = d.toList.map enc := by
 apply List.ext_getElem?
 intro j
 rw [List.getElem?_take, List.getElem?_map]
 by_cases hj : j < d.size
 ·rw [if_pos hj, Array.getElem?_toList, Array.getElem?_toList]
  unfold putCells
  rw [Array.getElem?_mapIdx, Array.getElem?_eq_getElem (show j < c.size by omega), Array.getElem?_eq_getElem hj]
  simp only [Option.map_some]
  rw [if_pos ⟨Nat.zero_le _, by omega⟩, Nat.sub_zero, getElem!_pos d j hj]
 ·rw [if_neg hj, Array.getElem?_toList, Array.getElem?_eq_none (by omega)]; rfl
theorem putRow_heap {α : Type} [Inhabited α] (enc : α → Value) (w : World) (n g : Nat) (d : Array α) (os : Array Obj) {cur : Array Value} {e : TypeId} {fr : Nat × Nat} (hg : w.heap[g]? = some (.cells cur e fr)) :
  (grow (putRow enc (Sort.ahead w n) g 0 d) os).heap[g]? = some (.cells (putCells enc 0 d cur) e fr) := by
 have hlt : g < w.heap.size := (Array.getElem?_eq_some_iff.1 hg).1
 show ((w.heap.modify g (onCells (putCells enc 0 d))) ++ os)[g]? = _
 rw [Array.getElem?_append_left (by simpa using hlt), Array.getElem?_modify, if_pos rfl, hg]
 rfl
theorem putRow_other {α : Type} [Inhabited α] (enc : α → Value) (w : World) (n g : Nat) (d : Array α) (os : Array Obj) {k : Nat} (hk : k < w.heap.size) (hne : k ≠ g) :
  (grow (putRow enc (Sort.ahead w n) g 0 d) os).heap[k]? = w.heap[k]? := by
 show ((w.heap.modify g (onCells (putCells enc 0 d))) ++ os)[k]? = _
 rw [Array.getElem?_append_left (by simpa using hk), Array.getElem?_modify, if_neg (fun e => hne e.symm)]
theorem putRow_size {α : Type} [Inhabited α] (enc : α → Value) (w : World) (n g : Nat) (d : Array α) (os : Array Obj) : w.heap.size ≤ (grow (putRow enc (Sort.ahead w n) g 0 d) os).heap.size := by
 show _ ≤ ((w.heap.modify g (onCells (putCells enc 0 d))) ++ os).size
 simp
theorem Cls.rowPut {α : Type} [Inhabited α] {enc : α → Value} {p : Nat} {H : List Eng.Item} {S : List World} {w w' : World} {base m cap g n : Nat} {O : Nat → Prop} {e : TypeId} {xs : List Value} {F : Eng.Item → List Eng.Item}
  (hh : Hole p H (row base O (some ⟨g, 0, none⟩) m cap e 1 xs) F) (h : Cls H S w) (d : Array α) (hd : d.size = m) {os : Array Obj} (hw : w' = grow (putRow enc (Sort.ahead w n) g 0 d) os) : Cls (F (row base O (some ⟨g, 0, none⟩) m cap e 1 (d.toList.map enc))) S w' := by
 subst hw
 obtain ⟨h1, h2⟩ := hh.eq
 rw [h2]
 have hi := h.holds _ (List.mem_of_getElem? h1)
 have hO : O g := hi.1 _ rfl
 rcases hi.2.2 with ⟨h3, _⟩ | ⟨g', cap', cur, h3, hb, hg, h4, h5, h6, h7⟩
 ·cases h3
 simp only [Value.slice.injEq, Option.some.injEq, Addr.mk.injEq] at h3
 obtain ⟨⟨rfl, _⟩, _, rfl⟩ := h3
 refine h.turn p h1 ⟨rfl, rfl, rfl, putRow_size _ _ _ _ _ _, fun k hk hno => putRow_other _ _ _ _ _ _ hk fun e => hno (by subst e; exact ⟨hb, hO⟩)⟩ ?_ (fun k hk => ⟨.inl hk, Nat.lt_of_lt_of_le (h.lt _ (List.mem_of_getElem? h1) k hk) (putRow_size _ _ _ _ _ _)⟩) (fun k hk => hk)
 refine ⟨fun a ha => by cases ha; exact hO, by simp [hd], .inr ⟨g, cap, _, rfl, hb, putRow_heap enc w n g d os hg, h4, h5, ?_, ?_⟩⟩
 ·simp only [putCells, Array.size_mapIdx]; exact h6
 ·rw [Nat.mul_one, ← hd]
  exact putCells_take enc d cur (by omega)
theorem row_holds {α : Type} [Inhabited α] {enc : α → Value} {w : World} {base m cap g : Nat} {O : Nat → Prop} {e : TypeId} {d : Array α} (h : (row base O (some ⟨g, 0, none⟩) m cap e 1 (d.toList.map enc)).holds w) : Holds enc w g 0 d ∧ g < w.heap.size := by
 rcases h.2.2 with ⟨h3, _⟩ | ⟨g', cap', cur, h3, hb, hg, h4, h5, h6, h7⟩
 ·cases h3
 simp only [Value.slice.injEq, Option.some.injEq, Addr.mk.injEq] at h3
 obtain ⟨⟨rfl, _⟩, _, rfl⟩ := h3
 refine ⟨fun j hj => ⟨?_, ?_⟩, (Array.getElem?_eq_some_iff.1 hg).1⟩
 ·rw [Nat.zero_add]
  refine row_cell h ?_
  rw [List.getElem?_map, Array.getElem?_toList, Array.getElem?_eq_getElem hj, getElem!_pos d j hj]; rfl
 ·simp [World.frozen?, hg]
end Go.Eng

/-
 DERIVED: THE SHELF's CONTRACTS AT THIS DUMP, IN PLAIN WORDS (tools/lay-plain.mjs out of 'YtkpjndhgicbjjaaDoorShelfD.lean', which tools/lay-shelf.mjs wrote): THE SAME DECLARATIONS UNDER THE SAME NAMES: 'import', 'namespace', 'open', 'def', 'theorem' AND NOTHING ELSE: no command of the shelf's: FOR A HAND-IN. Each laying: the table of numbers ('.._ren') and one theorem, a field a fact of the dump's own or the kernel's comparison; each contract: ONE APPLICATION.
-/
namespace Go.Proofs
open Go.Shelf
def Tryd.lays189_ren : Go.Shelf.Ren := ⟨fun | 189 => 59 | 125 => 67 | 257 => 66 | 128 => 79 | 129 => 80 | 294 => 70 | 295 => 71 | 296 => 72 | 297 => 73 | 298 => 74 | 299 => 75 | 216 => 76 | 300 => 77 | 301 => 78 | 328 => 82 | 329 => 83 | 330 => 84 | 331 => 85 | 332 => 86 | 215 => 87 | 343 => 88 | n => n, fun | 28 => 33 | 3 => 3 | 46 => 91 | 0 => 0 | 51 => 124 | 53 => 67 | 4 => 4 | 183 => 117 | 182 => 116 | 131 => 92 | 5 => 5 | 9 => 9 | 218 => 126 | 222 => 130 | 228 => 132 | 229 => 133 | n => n, fun | n => n⟩
theorem Tryd.lays189 : Go.Proofs.Lays.n189 Tryd.prog Tryd.lays189_ren := {
 mixed := by kernel_rfl
 f125 := Tryd.func67.trans (congrArg some (by kernel_rfl))
 f128 := Tryd.func79.trans (congrArg some (by kernel_rfl))
 f129 := Tryd.func80.trans (congrArg some (by kernel_rfl))
 f189 := Tryd.func59.trans (congrArg some (by kernel_rfl))
 f215 := Tryd.func87.trans (congrArg some (by kernel_rfl))
 f216 := Tryd.func76.trans (congrArg some (by kernel_rfl))
 f257 := Tryd.func66.trans (congrArg some (by kernel_rfl))
 f294 := Tryd.func70.trans (congrArg some (by kernel_rfl))
 f295 := Tryd.func71.trans (congrArg some (by kernel_rfl))
 f296 := Tryd.func72.trans (congrArg some (by kernel_rfl))
 f297 := Tryd.func73.trans (congrArg some (by kernel_rfl))
 f298 := Tryd.func74.trans (congrArg some (by kernel_rfl))
 f299 := Tryd.func75.trans (congrArg some (by kernel_rfl))
 f300 := Tryd.func77.trans (congrArg some (by kernel_rfl))
 f301 := Tryd.func78.trans (congrArg some (by kernel_rfl))
 f328 := Tryd.func82.trans (congrArg some (by kernel_rfl))
 f329 := Tryd.func83.trans (congrArg some (by kernel_rfl))
 f330 := Tryd.func84.trans (congrArg some (by kernel_rfl))
 f331 := Tryd.func85.trans (congrArg some (by kernel_rfl))
 f332 := Tryd.func86.trans (congrArg some (by kernel_rfl))
 f343 := Tryd.func88.trans (congrArg some (by kernel_rfl))
 t0 := Tryd.underlying0
 a0 := Tryd.isAgg0
 z0 := Tryd.sizeOf0
 v0 := Tryd.zeroValue0
 t3 := Tryd.underlying3
 a3 := Tryd.isAgg3
 z3 := Tryd.sizeOf3
 v3 := Tryd.zeroValue3
 t4 := Tryd.underlying4
 a4 := Tryd.isAgg4
 z4 := Tryd.sizeOf4
 v4 := Tryd.zeroValue4
 t5 := Tryd.underlying5
 a5 := Tryd.isAgg5
 z5 := Tryd.sizeOf5
 v5 := Tryd.zeroValue5
 t9 := Tryd.underlying9
 a9 := Tryd.isAgg9
 z9 := Tryd.sizeOf9
 v9 := Tryd.zeroValue9
 t28 := Tryd.underlying33
 a28 := Tryd.isAgg33
 z28 := Tryd.sizeOf33
 v28 := Tryd.zeroValue33
 t46 := Tryd.underlying91
 a46 := Tryd.isAgg91
 z46 := Tryd.sizeOf91
 v46 := Tryd.zeroValue91
 t51 := Tryd.underlying124
 a51 := Tryd.isAgg124
 z51 := Tryd.sizeOf124
 v51 := Tryd.zeroValue124
 t53 := Tryd.underlying67
 a53 := Tryd.isAgg67
 z53 := Tryd.sizeOf67
 v53 := Tryd.zeroValue67
 t131 := Tryd.underlying92
 a131 := Tryd.isAgg92
 z131 := Tryd.sizeOf92
 v131 := Tryd.zeroValue92
 t182 := Tryd.underlying116
 a182 := Tryd.isAgg116
 z182 := Tryd.sizeOf116
 v182 := Tryd.zeroValue116
 t183 := Tryd.underlying117
 a183 := Tryd.isAgg117
 z183 := Tryd.sizeOf117
 v183 := Tryd.zeroValue117
 t218 := Tryd.underlying126
 a218 := Tryd.isAgg126
 z218 := Tryd.sizeOf126
 v218 := Tryd.zeroValue126
 t222 := Tryd.underlying130
 a222 := Tryd.isAgg130
 z222 := Tryd.sizeOf130
 v222 := Tryd.zeroValue130
 t228 := Tryd.underlying132
 a228 := Tryd.isAgg132
 z228 := Tryd.sizeOf132
 v228 := Tryd.zeroValue132
 t229 := Tryd.underlying133
 a229 := Tryd.isAgg133
 z229 := Tryd.sizeOf133
 v229 := Tryd.zeroValue133 }
end Go.Proofs
