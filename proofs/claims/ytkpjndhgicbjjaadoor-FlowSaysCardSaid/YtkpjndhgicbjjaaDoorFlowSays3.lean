/- Texts of the proof of FlowSays, part 3: rules of a calculus for walking, plain laws, and walks of the functions that the law reaches. No condition. -/
import Derived.Shelf.Sort.Plain
import Derived.Shelf.Slices.In.SortNone
import Derived.Test.YtkpjndhgicbjjaaDoorFlowSays2
set_option linter.unusedVariables false
set_option linter.unusedSimpArgs false
/- The walk of core's FreeOf: what the library's sort does to a row of ints. Conditions: none. -/
namespace Go.Co
open Go.Eng Go.RowKit
def isrt (l : List Int) : List Int := l.mergeSort fun x y => decide (x ≤ y)
theorem isrt_perm (l : List Int) : (isrt l).Perm l := List.mergeSort_perm l _
theorem isrt_len (l : List Int) : (isrt l).length = l.length := (isrt_perm l).length_eq
theorem isrt_mem {l : List Int} {n : Int} : n ∈ isrt l ↔ n ∈ l := (isrt_perm l).mem_iff
theorem isrt_nodup {l : List Int} (h : l.Nodup) : (isrt l).Nodup := (isrt_perm l).symm.nodup h
theorem isrt_sorted (l : List Int) : (isrt l).Pairwise (· ≤ ·) := by
 have := List.pairwise_mergeSort (le := fun x y : Int => decide (x ≤ y)) (fun a b c h1 h2 => by simp at *; omega) (fun a b => by simp; omega) l
 exact this.imp fun h => by simpa using h
theorem nodup_le : ∀ {l m : List Int}, l.Nodup → (∀ x ∈ l, x ∈ m) → l.length ≤ m.length
 | [], _, _, _ => by simp
 | x :: r, m, hn, hs => by
  have hx := hs x (.head _)
  obtain ⟨m1, m2, rfl⟩ := List.append_of_mem hx
  rw [List.nodup_cons] at hn
  have := nodup_le (l := r) (m := m1 ++ m2) hn.2 (fun y hy => by
   have h1 := hs y (.tail _ hy)
   have h2 : y ≠ x := fun e => hn.1 (e ▸ hy)
   simp at h1 ⊢
   rcases h1 with h1 | h1 | h1
   ·exact .inl h1
   ·exact absurd h1 h2
   ·exact .inr h1)
  simp at this ⊢
  omega
theorem nodup_inj {α : Type} {l : List α} (h : l.Nodup) {i j : Nat} {x : α} (hi : l[i]? = some x) (hj : l[j]? = some x) : i = j := by
 have hp := List.pairwise_iff_getElem.1 h
 obtain ⟨h1, h2⟩ := List.getElem?_eq_some_iff.1 hi
 obtain ⟨h3, h4⟩ := List.getElem?_eq_some_iff.1 hj
 rcases Nat.lt_trichotomy i j with h5 | h5 | h5
 ·exact absurd (h2.trans h4.symm) (hp i j h1 h3 h5)
 ·exact h5
 ·exact absurd (h4.trans h2.symm) (hp j i h3 h1 h5)
theorem set_key {es : Array MapEntry} {clock : Nat} {l : List Int} (h : MapIs es clock (setM l)) {i : Nat} {e : MapEntry} (he : es.toList[i]? = some e) : ∃ n, l[i]? = some n ∧ e.key = .int .i64 n := by
 have h1 := congrArg (fun z => z[i]?) h.es_
 simp only [icells, setM, List.map_map, List.getElem?_map, he, Option.map_some] at h1
 cases hl : l[i]? with
 | none => simp [hl] at h1
 | some n =>
  rw [hl] at h1
  simp at h1
  exact ⟨n, rfl, h1.1⟩
theorem set_len {es : Array MapEntry} {clock : Nat} {l : List Int} (h : MapIs es clock (setM l)) : es.toList.length = l.length := by
 have h1 := congrArg List.length h.es_
 simpa [icells, setM] using h1
theorem left_mem {es : Array MapEntry} {seen : Array Nat} {e : MapEntry} : e ∈ (leftOf es seen).toList ↔ e ∈ es.toList ∧ ¬ e.born ∈ seen := by
 unfold leftOf
 simp
def Taken (es : Array MapEntry) (seen : Array Nat) (xs : List Int) : Prop := xs.Nodup ∧ ∀ n, n ∈ xs ↔ ∃ e ∈ es.toList, e.key = .int .i64 n ∧ e.born ∈ seen
theorem Taken.step {es : Array MapEntry} {clock : Nat} {l : List Int} {seen : Array Nat} {xs : List Int} (hm : MapIs es clock (setM l)) (hl : l.Nodup) (h : Taken es seen xs) {e : MapEntry} {n : Int} (he : e ∈ (leftOf es seen).toList) (hk : e.key = .int .i64 n) : Taken es (seen.push e.born) (xs ++ [n]) := by
 obtain ⟨he1, he2⟩ := left_mem.1 he
 refine ⟨nodup_snoc h.1 fun hin => ?_, fun k => ?_⟩
 ·obtain ⟨e', he', hk', hb'⟩ := (h.2 n).1 hin
  obtain ⟨i, hi⟩ := List.getElem?_of_mem he1
  obtain ⟨j, hj⟩ := List.getElem?_of_mem he'
  obtain ⟨a, ha, hka⟩ := set_key hm hi
  obtain ⟨b, hb, hkb⟩ := set_key hm hj
  rw [hk] at hka
  rw [hk'] at hkb
  simp only [Value.int.injEq, true_and] at hka hkb
  subst hka
  subst hkb
  have hij : i = j := nodup_inj hl ha hb
  subst hij
  rw [hi] at hj
  obtain rfl := Option.some.inj hj
  exact he2 hb'
 ·rw [List.mem_append, h.2, List.mem_singleton]
  constructor
  ·rintro (⟨e', h1, h2, h3⟩ | rfl)
   ·exact ⟨e', h1, h2, by simp [h3]⟩
   ·exact ⟨e, he1, hk, by simp⟩
  ·rintro ⟨e', h1, h2, h3⟩
   rw [Array.mem_push] at h3
   rcases h3 with h3 | h3
   ·exact .inl ⟨e', h1, h2, h3⟩
   ·right
    by_cases hs : e'.born ∈ seen
    ·exact absurd (h3 ▸ hs) he2
    ·have hee : e' = e := by
      obtain ⟨i, hi⟩ := List.getElem?_of_mem he1
      obtain ⟨j, hj⟩ := List.getElem?_of_mem h1
      have hij : j = i := by
       have hnd := hm.nd
       have e1 : (es.toList.map (·.born))[i]? = some e.born := by rw [List.getElem?_map, hi]; rfl
       have e2 : (es.toList.map (·.born))[j]? = some e.born := by rw [List.getElem?_map, hj]; exact congrArg some h3
       exact nodup_inj hnd e2 e1
      subst hij
      rw [hi] at hj
      exact (Option.some.inj hj).symm
     rw [hee, hk] at h2
     simp at h2
     exact h2.symm
theorem Taken.done {es : Array MapEntry} {clock : Nat} {l : List Int} {seen : Array Nat} {xs : List Int} (hm : MapIs es clock (setM l)) (h : Taken es seen xs) (h0 : (leftOf es seen).size = 0) (n : Int) : n ∈ xs ↔ n ∈ l := by
 rw [h.2]
 constructor
 ·rintro ⟨e, h1, h2, _⟩
  obtain ⟨i, hi⟩ := List.getElem?_of_mem h1
  obtain ⟨a, ha, hka⟩ := set_key hm hi
  rw [h2] at hka
  simp only [Value.int.injEq, true_and] at hka
  subst hka
  exact List.mem_of_getElem? ha
 ·intro hn
  obtain ⟨i, hi⟩ := List.getElem?_of_mem hn
  have hil := (List.getElem?_eq_some_iff.1 hi).1
  obtain ⟨e, hes⟩ : ∃ e, es.toList[i]? = some e := ⟨_, List.getElem?_eq_getElem (by rw [set_len hm]; exact hil)⟩
  obtain ⟨a, ha, hka⟩ := set_key hm hes
  rw [hi] at ha
  obtain rfl := Option.some.inj ha
  refine ⟨_, List.mem_of_getElem? hes, hka, ?_⟩
  by_cases hs : e.born ∈ seen
  ·exact hs
  ·have := left_mem.2 ⟨List.mem_of_getElem? hes, hs⟩
   have h1 : (leftOf es seen).toList.length = 0 := h0
   rw [List.length_eq_zero_iff.1 h1] at this
   cases this
theorem Taken.nil (es : Array MapEntry) : Taken es #[] [] := ⟨by simp, fun n => by simp⟩
theorem Taken.sub {es : Array MapEntry} {clock : Nat} {l : List Int} {seen : Array Nat} {xs : List Int} (hm : MapIs es clock (setM l)) (h : Taken es seen xs) {n : Int} (hn : n ∈ xs) : n ∈ l := by
 obtain ⟨e, h1, h2, _⟩ := (h.2 n).1 hn
 obtain ⟨i, hi⟩ := List.getElem?_of_mem h1
 obtain ⟨a, ha, hka⟩ := set_key hm hi
 rw [h2] at hka
 simp only [Value.int.injEq, true_and] at hka
 subst hka
 exact List.mem_of_getElem? ha
end Go.Co
namespace Go.Proofs.YtkpjndhgicbjjaaDoor.co
open Go.RowKit Go.Eng Go.Co Go.Shelf Go.Sort
set_option maxRecDepth 100000
theorem SortI_calls {p : Nat} {H : List Eng.Item} {S : List World} {w : World} {base cap : Nat} {O : Nat → Prop} {q : Option Addr} {xs : List Int} {F : Eng.Item → List Eng.Item}
  (hh : Hole p H (Eng.row base O q xs.length cap 3 1 (ints xs)) F) (h : Cls H S w) (hlen : xs.length < 4611686018427387904) :
  Calls Tryd.prog 59 #[.slice q xs.length cap] w fun e w' => e = .returned (.tuple #[]) ∧ Cls (F (Eng.row base O q xs.length cap 3 1 (ints (isrt xs)))) S w' := by
 by_cases h0 : xs.length = 0
 ·obtain rfl : xs = [] := List.eq_nil_of_length_eq_zero h0
  refine (Any.slices_Sort_int_none Tryd.lays189 q cap w).mono fun e w' he => ⟨he.1, ?_⟩
  rw [he.2]
  have e2 : isrt [] = [] := by simp [isrt]
  rw [e2, hh.eq.2, set_same hh.eq.1]
  exact h
 ·have hi := h.holds _ (List.mem_of_getElem? hh.eq.1)
  obtain ⟨g, rfl⟩ : ∃ g, q = some ⟨g, 0, none⟩ := by
   rcases hi.2.2 with ⟨h3, h4⟩ | ⟨g', cap', cur, h3, _⟩
   ·omega
   ·exact ⟨g', by simp only [Value.slice.injEq] at h3; exact h3.1⟩
  obtain ⟨h1, h2⟩ := row_holds (enc := Value.int .i64) (d := xs.toArray) hi
  have hc := Any.slices_Sort_int Tryd.lays189 g 0 cap xs w h1 h2 hlen
  refine hc.mono fun e w' he => ⟨he.1, ?_⟩
  obtain ⟨n, os, hw⟩ := he.2
  have hp := Cls.rowPut hh h (isrt xs).toArray (by simp [isrt_len]) hw
  exact hp
structure FO where
 seen : Array Nat
 xs : List Int
 O : Nat → Prop
 q : Option Addr
 c : Nat
theorem FreeOf_calls (t : Tr) (b : Nat) (L : List Int) (w : World) (ht : TrO w (low w) t b) (hh : 16 * high t ≤ 1000000) (hL : ∀ n ∈ fv t [], n ∈ L) (hLl : L.length ≤ 1000000) :
  Calls Tryd.prog 43 [.pointer (some ⟨b, 0, none⟩)].toArray w fun e w' => ∃ (l : List Int) (q : Option Addr) (c : Nat), e = .returned (.slice q l.length c) ∧ l.length ≤ 1000000 ∧ l.length ≤ c ∧ l.Pairwise (· ≤ ·) ∧ l.Nodup ∧ (∀ n, n ∈ l ↔ n ∈ fv t []) ∧ IntsO w' (low w') l q ∧ Ext w w' := by
 have hcnt0 : Cnt [] [] := fun k => by simp [cf, lget]
 have hlen0 : ([] : List Int).length + 16 * high t ≤ 1000000 := by rw [List.length_nil, Nat.zero_add]; exact hh
 refine enter Tryd.func43 rfl Tryd.ntmps43 rfl (Cls.start w) ?_
 (simp only [argEnv, Nat.zero_add, Nat.reduceAdd])
 apply W.sr
 apply oas; rfl; rfl
 apply OL.nsr
 apply OL.imakeMap; rfl; rfl; (intro bk hbk; simp only [AllLe, and_true] at hbk)
 apply oas; rfl; rfl
 apply OL.nsr
 apply omv; rfl; rfl
 apply OL.imakeMap; rfl; rfl; (intro bk hbk; simp only [AllLe, and_true] at hbk)
 apply omv; rfl; rfl
 revert bk
 intro bb hbb
 revert bk
 intro bo hbo
 refine OL.callE (α := FG) (fun _ => .tuple #[]) (fun z => (∀ n, n ∈ z.l ↔ n ∈ fv t []) ∧ z.l.Nodup) (fun z => Cls (mapI bo (setM z.l) :: []) [w]) rfl rfl (by exact Args.au) (fun w2 hw2 => ?_) ?_
 ·have hfr := free_calls w bb bo hbb hbo (tsz t) t b [] [] [] [] [] w2 (Nat.le_refl _) ht hcnt0 hlen0 (fun k hk => NotOwned.nil) hw2
  refine Calls.mono hfr ?_
  rintro e w3 ⟨h1, bm', l', h2, h3, h4, h5⟩
  have hl' : ∀ n, n ∈ l' ↔ n ∈ fv t [] := fun n => by rw [h3]; simp
  have hn' : l'.Nodup := h4 List.nodup_nil
  refine ⟨⟨[], l'⟩, h1, ⟨hl', hn'⟩, ?_⟩
  exact h5.thin (Thin.any (fun k hk => hk ▸ ⟨hbb, trivial⟩) (by exact Thin.au))
 rintro ⟨_, l0⟩ ⟨hl0, hn0⟩
 simp only at hl0 hn0 ⊢
 refine OL.exx (X := { x : Array MapEntry × Nat // MapIs x.1 x.2 (setM l0) }) (C' := fun x => Cls [mapX bo x.1.1 x.1.2] [w]) (fun w' hw' => by
  obtain ⟨x, h1, h2⟩ := Cls.mapX_of .z hw'
  exact ⟨⟨x, h1⟩, h2⟩) ?_
 rintro ⟨⟨es, clock⟩, hm⟩
 simp only at hm ⊢
 have hnd := hm.nd
 apply OL.nsr
 apply oas; rfl; rfl
 apply OL.nx
 apply W.seq
 apply W.sr
 apply omv; rfl; rfl
 apply OL.rangeMap; rfl; rfl; rfl; (intro w' hw'; exact hw'.item (.head _)); (intro r hr; simp only [AllLe, and_true] at hr)
 apply OL.nx
 apply W.block
 refine W.loop (G := FO) (fun g => Taken es g.seen g.xs) (fun g => (leftOf es g.seen).size) (fun g => [(4, true, .slice g.q g.xs.length g.c), (12, true, .pointer (some ⟨r, 0, none⟩))])
  (fun g => Cls [row w.heap.size g.O g.q g.xs.length g.c 3 1 (ints g.xs), itI r bo clock g.seen clock, mapX bo es clock] [w]) ⟨#[], [], fun _ => False, none, 0⟩ (Taken.nil es) (by exact Sub.au) (fun w' hw' => hw'.row_nil w.heap.size _ 1) ?_
 rintro ⟨seen, xs, O, qx, cx⟩ hT
 simp only at hT ⊢
 have hxl : xs.length ≤ 1000000 := Nat.le_trans (nodup_le hT.1 fun n hn => hL n ((hl0 n).1 (hT.sub hm hn))) hLl
 apply W.sr
 apply OL.nextMap; rfl; rfl; (intro w' hw'; exact hw'.item (.tail _ (.tail _ (.head _)))); (exact hm.lt); (exact Nat.le_refl _); (exact .s .z)
 ·intro h0
  have hall : ∀ n, n ∈ xs ↔ n ∈ fv t [] := fun n => (hT.done hm h0 n).trans (hl0 n)
  apply oex; rfl; rfl; rfl
  apply OL.nx
  apply W.seq
  refine W.cond rfl (fun hb => by cases hb) (fun hb => ?_)
  refine W.xt ?_
  with_reducible apply At.next
  apply W.sr
  apply omv; rfl; rfl
  refine OL.callE (α := Unit) (fun _ => .tuple #[]) (fun _ => True) (fun _ => Cls [row w.heap.size O qx xs.length cx 3 1 (ints (isrt xs)), itI r bo clock seen clock, mapX bo es clock] [w]) rfl rfl (by exact Args.au) (fun w2 hw2 => (SortI_calls .z hw2 (by omega)).mono fun e w3 h => ⟨(), h.1, trivial, h.2⟩) ?_
  rintro _ _
  apply OL.nsr
  apply omv; rfl; rfl
  apply oas; rfl; rfl
  apply OL.nx
  apply W.ret
  ((with_reducible apply At.fin1); rfl; rfl; intro w' hw')
  have hi := hw'.item (.head _)
  have hcap := row_le hi
  refine ⟨isrt xs, qx, cx, by rw [isrt_len], by rw [isrt_len]; exact hxl, by rw [isrt_len]; exact hcap, isrt_sorted xs, isrt_nodup hT.1, fun n => isrt_mem.trans (hall n), fun hl => ?_, by (exact hw'.fr)⟩
  exact SlAt.of_row hi (by rw [ints_length]; exact hl)
 ·intro e he
  obtain ⟨n, hk⟩ : ∃ n, e.key = .int .i64 n := by
   obtain ⟨i, hi⟩ := List.getElem?_of_mem (left_mem.1 he).1
   obtain ⟨n, _, h⟩ := set_key hm hi
   exact ⟨n, h⟩
  have hT2 := hT.step hm hn0 he hk
  have hsh := left_shrinks es seen e he
  apply oex; rfl; rfl; rfl
  apply OL.nx
  apply W.seq
  refine W.cond rfl (fun hb => ?_) (fun hb => by cases hb)
  apply W.sk
  apply W.block
  apply W.sr
  (((first | (with_reducible apply OL.op) | (with_reducible apply QL.op)); (exact Guard.au); rfl; rfl); (apply Pev.entryMap); rfl; (intro hb2; exact hb2); (intro w' hw'; exact hw'.item (.tail _ (.tail _ (.head _)))); (exact .tail _ (.head _)); (exact (left_mem.1 he).1); (exact hnd))
  rw [hk]
  apply oex; rfl; rfl; rfl
  apply oas; rfl; rfl
  apply OL.nx
  apply W.reg
  apply omv; rfl; rfl
  apply omv; rfl; rfl
  apply OL.buildSlice; rfl; rfl; rfl; exact Elems.au; rfl; rfl; (intro bk hbk; simp only [AllLe, and_true] at hbk)
  apply OL.append; rfl; rfl; rfl; rfl; exact Hole.au; exact .head _; exact Take.au; rfl; rfl; exact ⟨_, .head _, Nat.le_refl _⟩; omega; intro O1 g1 cap1
  apply oas; rfl; rfl
  apply OL.nil
  with_reducible apply At.in_normal
  rw [show ints xs ++ [Value.int .i64 n] = ints (xs ++ [n]) by simp [ints], show xs.length + 1 = (xs ++ [n]).length by simp]
  exact At.again ⟨seen.push e.born, xs ++ [n], O1, some ⟨g1, 0, none⟩, cap1⟩ hT2 hsh (by exact Sub.au) (fun w' hw' => hw'.thin (by exact Thin.au))
end Go.Proofs.YtkpjndhgicbjjaaDoor.co

/- Plain: the arrays of the check of trees. No program in sight. No condition. -/
namespace Go.Co
open Go.Eng Go.RowKit
theorem highs_append : ∀ (a b : List Tr), highs (a ++ b) = max (highs a) (highs b)
 | [], b => by simp [highs]
 | t :: r, b => by rw [List.cons_append, highs, highs, highs_append r b, Nat.max_assoc]
def mx (e : List Ex) (x : Ex) (j : Nat) : Nat := highs ((x.kids.take j).map fun k => grow e k.toNat)
theorem mx_zero (e : List Ex) (x : Ex) : mx e x 0 = 0 := by simp [mx, highs]
theorem mx_succ {e : List Ex} {x : Ex} {j : Nat} {k : Int} (h : x.kids[j]? = some k) : mx e x (j + 1) = max (mx e x j) (high (grow e k.toNat)) := by
 unfold mx
 rw [List.take_add_one, h]
 simp [highs_append, highs]
theorem grow_eqU {e : List Ex} {i : Nat} {x : Ex} (hx : e[i]? = some x) (h : ∀ k ∈ x.kids, 0 ≤ k ∧ k < (i : Int)) : grow e i = .mk x.op x.n x.binds (x.kids.map fun k => grow e k.toNat) x.alts := by
 rw [grow, hx]
 simp only [Tr.mk.injEq, true_and, and_true]
 refine List.map_congr_left fun k hk => ?_
 have := h k hk
 rw [dif_pos (by omega)]
theorem high_eq {e : List Ex} {i : Nat} {x : Ex} (hx : e[i]? = some x) (h : ∀ k ∈ x.kids, 0 ≤ k ∧ k < (i : Int)) : high (grow e i) = mx e x x.kids.length + 1 := by
 rw [grow_eqU hx h, high, mx, List.take_length]
theorem highs_le {B : Nat} : ∀ {l : List Tr}, (∀ t ∈ l, high t ≤ B) → highs l ≤ B
 | [], _ => by simp [highs]
 | t :: r, h => by
  rw [highs]
  exact Nat.max_le.2 ⟨h t (.head _), highs_le fun u hu => h u (.tail _ hu)⟩
theorem mx_le {e : List Ex} {x : Ex} {i j : Nat} (hk : ∀ k ∈ x.kids.take j, 0 ≤ k ∧ k < (i : Int)) (h : ∀ k, k < i → high (grow e k) ≤ k + 1) : mx e x j ≤ i := by
 refine highs_le fun t ht => ?_
 obtain ⟨k, hk2, rfl⟩ := List.mem_map.1 ht
 have h1 := hk k hk2
 have h2 := h k.toNat (by omega)
 omega
theorem high_le {e : List Ex} {n : Nat} (h : ∀ (j : Nat) (x : Ex), j < n → e[j]? = some x → ∀ k ∈ x.kids, 0 ≤ k ∧ k < (j : Int)) : ∀ k, k < n → k < e.length → high (grow e k) ≤ k + 1 := by
 intro k
 induction k using Nat.strongRecOn with
 | _ k ih =>
  intro hk hl
  have hx : e[k]? = some e[k] := List.getElem?_eq_getElem hl
  have hks := h k _ hk hx
  rw [high_eq hx hks]
  have := mx_le (e := e) (x := e[k]) (i := k) (j := e[k].kids.length) (fun c hc => hks c (List.mem_of_mem_take hc)) (fun c hc => ih c hc (by omega) (by omega))
  omega
theorem maxIf (a b : Nat) : (if (a : Int) < (b : Int) then (b : Int) else (a : Int)) = ((max a b : Nat) : Int) := by rw [Nat.max_def]; split <;> split <;> omega
def dl (e : List Ex) (i m : Nat) : List Int := (List.range e.length).map fun k => if k < i then (high (grow e k) : Int) else if k = i then (m : Int) else 0
def pl (e : List Ex) (l : List Int) : List Int := (List.range e.length).map fun (k : Nat) => (l.count (k : Int) : Int)
theorem dl_length (e : List Ex) (i m : Nat) : (dl e i m).length = e.length := by simp [dl]
theorem pl_length (e : List Ex) (l : List Int) : (pl e l).length = e.length := by simp [pl]
theorem ints_set (l : List Int) (o : Nat) (v : Int) : (ints l).set o (.int .i64 v) = ints (l.set o v) := by simp [ints, List.map_set]
theorem dl_zero (e : List Ex) : List.replicate e.length (Value.int .i64 0) = ints (dl e 0 0) := by
 refine List.ext_getElem? fun k => ?_
 by_cases h : k < e.length
 ·simp [ints, dl, List.getElem?_replicate, h]
 ·simp [ints, dl, List.getElem?_replicate, h]
theorem pl_zero (e : List Ex) : List.replicate e.length (Value.int .i64 0) = ints (pl e []) := by
 refine List.ext_getElem? fun k => ?_
 by_cases h : k < e.length
 ·simp [ints, pl, List.getElem?_replicate, h]
 ·simp [ints, pl, List.getElem?_replicate, h]
theorem dl_low {e : List Ex} {i m k : Nat} (hk : k < i) (hi : k < e.length) : (dl e i m)[k]? = some (high (grow e k) : Int) := by
 simp [dl, hi, hk]
theorem dl_at {e : List Ex} {i m : Nat} (hi : i < e.length) : (dl e i m)[i]? = some (m : Int) := by simp [dl, hi]
theorem dl_set {e : List Ex} {i m m' : Nat} (hi : i < e.length) : (dl e i m).set i (m' : Int) = dl e i m' := by
 refine List.ext_getElem? fun k => ?_
 rw [List.getElem?_set]
 by_cases h : i = k
 ·subst h
  rw [if_pos rfl, dl_length, if_pos hi, dl_at hi]
 ·rw [if_neg h]
  have h2 : ¬ k = i := fun e => h e.symm
  by_cases hk : k < e.length
  ·simp [dl, hk, h2]
  ·rw [List.getElem?_eq_none (by rw [dl_length]; omega), List.getElem?_eq_none (by rw [dl_length]; omega)]
theorem dl_next {e : List Ex} {i m : Nat} (hi : i < e.length) (h : high (grow e i) = m) : dl e i m = dl e (i + 1) 0 := by
 unfold dl
 refine List.map_congr_left fun k hk => ?_
 by_cases h1 : k < i
 ·rw [if_pos h1, if_pos (by omega)]
 ·rw [if_neg h1]
  by_cases h2 : k = i
  ·subst h2
   rw [if_pos rfl, if_pos (by omega), h]
  ·rw [if_neg h2, if_neg (by omega)]
   split <;> rfl
theorem pl_at {e : List Ex} {l : List Int} {k : Nat} (hk : k < e.length) : (pl e l)[k]? = some (l.count (k : Int) : Int) := by simp [pl, hk]
theorem pl_set {e : List Ex} {l : List Int} {k : Nat} (hk : k < e.length) : (pl e l).set k ((l.count (k : Int) : Int) + 1) = pl e (l ++ [(k : Int)]) := by
 refine List.ext_getElem? fun m => ?_
 rw [List.getElem?_set]
 by_cases h : k = m
 ·subst h
  rw [if_pos rfl, pl_length, if_pos hk, pl_at hk, List.count_append]
  simp
 ·rw [if_neg h]
  by_cases hm : m < e.length
  ·rw [pl_at hm, pl_at hm, List.count_append]
   have : ¬ (k : Int) = (m : Int) := by omega
   simp [List.count_singleton, this]
  ·rw [List.getElem?_eq_none (by rw [pl_length]; omega), List.getElem?_eq_none (by rw [pl_length]; omega)]
theorem treeE_big {e : List Ex} (h : 4096 < e.length) : treeE e = 2 := by unfold treeE; rw [if_pos h]
theorem treeE_bad {e : List Ex} (h : e.length ≤ 4096) (hb : ¬ (0 < e.length ∧ Down e ∧ ∀ i : Nat, i + 1 < e.length → (kidsAll e).count (i : Int) = 1)) : treeE e = 3 := by
 unfold treeE
 rw [if_neg (by omega), if_neg hb]
theorem treeE_ok {e : List Ex} (h : e.length ≤ 4096) (h0 : 0 < e.length) (hd : Down e) (h1 : ∀ i : Nat, i + 1 < e.length → (kidsAll e).count (i : Int) = 1) : treeE e = if 400 < high (grow e (e.length - 1)) then 2 else 0 := by
 unfold treeE
 rw [if_neg (by omega), if_pos ⟨h0, hd, h1⟩]
theorem kidsAll_length {B : Nat} : ∀ {l : List Ex}, (∀ x ∈ l, x.kids.length ≤ B) → (kidsAll l).length ≤ l.length * B
 | [], _ => by simp [kidsAll]
 | x :: r, h => by
  have h1 := h x (.head _)
  have h2 := kidsAll_length (l := r) fun y hy => h y (.tail _ hy)
  have e1 : kidsAll (x :: r) = x.kids ++ kidsAll r := by simp [kidsAll]
  rw [e1, List.length_append, List.length_cons, Nat.succ_mul]
  omega
theorem kidsTo_length {B : Nat} {e : List Ex} {i j : Nat} (h : ∀ x ∈ e, x.kids.length ≤ B) (hi : i < e.length) : (kidsTo e i j).length ≤ (i + 1) * B := by
 have h1 := kidsAll_length (B := B) (l := e.take i) fun x hx => h x (List.mem_of_mem_take hx)
 have h2 := h _ (List.getElem_mem hi)
 have hx : e[i]? = some e[i] := List.getElem?_eq_getElem hi
 have h3 : (((e[i]?.map Ex.kids).getD []).take j).length ≤ B := by
  rw [hx]
  simp only [Option.map_some, Option.getD_some, List.length_take]
  omega
 have h4 : (e.take i).length ≤ i := by simp; omega
 have h5 : (e.take i).length * B ≤ i * B := Nat.mul_le_mul_right _ h4
 rw [kidsTo, List.length_append, Nat.succ_mul]
 omega
theorem count_le_length (l : List Int) (k : Int) : l.count k ≤ l.length := List.count_le_length
end Go.Co

/- The walk of core's treeError. Conditions: none. (Printed by cod.py.) -/
namespace Go.Proofs.YtkpjndhgicbjjaaDoor.co
open Go.RowKit Go.Eng Go.Co
set_option maxRecDepth 100000
structure XM (S : List World) where
 b1 : Nat
 hb1 : AllLe S b1
 b2 : Nat
 hb2 : AllLe S b2
 old : Nat → Value
theorem treeError_calls (es : List (Ex × ExY)) (q : Option Addr) (cap : Nat) (w : World) (he : Arr exR w (low w) es q) (hlen : es.length ≤ 9223372036854775807) :
  Calls Tryd.prog 37 [.slice q es.length cap].toArray w fun e w' => e = .returned (.int .i64 (treeE (es.map Prod.fst))) ∧ Ext w w' := by
 obtain ⟨e, hee⟩ : ∃ e, es.map Prod.fst = e := ⟨_, rfl⟩
 have hel : e.length = es.length := by rw [← hee, List.length_map]
 rw [hee]
 refine enter Tryd.func37 rfl Tryd.ntmps37 rfl (Cls.start w) ?_
 (simp only [argEnv, Nat.zero_add, Nat.reduceAdd])
 apply W.sr
 apply oas; rfl; rfl
 apply OL.nx
 apply W.seq
 apply W.sr
 apply omv; rfl; rfl
 apply oop; rfl; apply Pev.len_slice; rfl; exact yes; rfl
 apply obn; rfl; rfl; rfl; apply Bin.gtr
 apply OL.nx
 (refine W.cnd (fun hbig => ?_) (fun hbig => ?_)) <;> (try (exfalso; first | omega | exact hbig trivial | contradiction))
 ·apply W.sr
  apply oas; rfl; rfl
  apply OL.nx
  refine W.rt ?_
  ((with_reducible apply At.fin1); rfl; rfl; intro w' hw')
  exact ⟨by rw [treeE_big (by omega)], by (exact hw'.fr)⟩
 apply W.sk
 apply W.seq
 apply W.sr
 apply omv; rfl; rfl
 apply oop; rfl; apply Pev.len_slice; rfl; exact yes; rfl
 apply obn; rfl; rfl; rfl; apply Bin.eql
 apply OL.nx
 (refine W.cnd (fun h0 => ?_) (fun h0 => ?_)) <;> (try (exfalso; first | omega | exact h0 trivial | contradiction))
 ·apply W.sr
  apply oas; rfl; rfl
  apply OL.nx
  refine W.rt ?_
  ((with_reducible apply At.fin1); rfl; rfl; intro w' hw')
  exact ⟨by rw [treeE_bad (by omega) (fun h => by omega)], by (exact hw'.fr)⟩
 apply W.sk
 apply W.seq
 refine W.regany (X := XM [w]) (fun x e => [(4, true, bif e 7 then .slice (some ⟨x.b2, 0, none⟩) es.length es.length else x.old 4), (3, true, bif e 6 then .slice (some ⟨x.b1, 0, none⟩) es.length es.length else x.old 3), (22, true, bif e 5 then .slice (some ⟨x.b2, 0, none⟩) es.length es.length else x.old 22), (21, true, bif e 4 then .int .i64 (es.length : Int) else x.old 21), (20, true, bif e 3 then .slice q es.length cap else x.old 20), (19, true, bif e 2 then .slice (some ⟨x.b1, 0, none⟩) es.length es.length else x.old 19), (18, true, bif e 1 then .int .i64 (es.length : Int) else x.old 18), (17, true, bif e 0 then .slice q es.length cap else x.old 17), (0, true, .slice q es.length cap)])
  (fun x e => (bif e 2 then blk x.b1 3 (List.replicate es.length (.int .i64 0)) else nothing) :: (bif e 5 then blk x.b2 3 (List.replicate es.length (.int .i64 0)) else nothing) :: [])
  (fun old => ⟨w.heap.size, ⟨Nat.le_refl _, trivial⟩, w.heap.size, ⟨Nat.le_refl _, trivial⟩, old⟩) (by kernel_rfl) (by kernel_rfl) (fun w hw => hw.drew) (fun old => by repeat (first | exact SubO.nil | apply SubO.cons rfl | refine SubO.old rfl ?_)) (fun old w' hw' => hw'.add_nothing.add_nothing) ?_ ?_
 ·intro x e i o ho hei hd hcl
  have hi : i < 8 := (List.getElem?_eq_some_iff.1 ho).1
  obtain rfl | rfl | rfl | rfl | rfl | rfl | rfl | rfl : i = 0 ∨ i = 1 ∨ i = 2 ∨ i = 3 ∨ i = 4 ∨ i = 5 ∨ i = 6 ∨ i = 7 := by omega
  ·cases ho
   have v0 : Eng.upd e 0 0 = true := upd_eq
   simp only [hei, cond_true, cond_false]
   apply omv; rfl; rfl
   apply OL.nil
   exact At.beside x (by repeat (first | exact Sub.nil | apply Sub.cons rfl | refine Sub.cons_eq rfl (by simp only [v0, cond_true, cond_false]) ?_)) (fun w' hw' => by first | exact hw' | (simp only [v0, cond_true, cond_false]; exact hw'))
  ·cases ho
   have h0 : e 0 = true := hd ⟨0, .data⟩ (by simp) rfl
   have v1 : Eng.upd e 1 1 = true := upd_eq
   have v0 : Eng.upd e 1 0 = true := upd_mono h0
   simp only [hei, h0, cond_true, cond_false]
   apply oop; rfl; apply Pev.len_slice; rfl; exact yes; rfl
   apply OL.nil
   exact At.beside x (by repeat (first | exact Sub.nil | apply Sub.cons rfl | refine Sub.cons_eq rfl (by simp only [v1, v0, cond_true, cond_false]) ?_)) (fun w' hw' => by first | exact hw' | (simp only [v1, v0, cond_true, cond_false]; exact hw'))
  ·cases ho
   have h1 : e 1 = true := hd ⟨1, .data⟩ (by simp) rfl
   have h6 : e 6 = false := hcl.not (i := 2) (j := 6) rfl hei (by kernel_rfl)
   have v2 : Eng.upd e 2 2 = true := upd_eq
   have v1 : Eng.upd e 2 1 = true := upd_mono h1
   have v6 : Eng.upd e 2 6 = false := h6
   simp only [hei, h1, h6, cond_true, cond_false]
   apply OL.makeSlice; rfl; rfl; rfl; rfl; rfl; rfl; rfl; omega; (intro bk hbk; simp only [AllLe, and_true] at hbk)
   apply OL.nil
   exact At.beside { x with b1 := bk, hb1 := ⟨hbk, trivial⟩ } (by repeat (first | exact Sub.nil | apply Sub.cons rfl | refine Sub.cons_eq rfl (by simp only [v2, v1, v6, cond_true, cond_false]) ?_)) (fun w' hw' => by simp only [v2, v1, v6, cond_true, cond_false]; exact Cls.fill (p := 0) (H := _ :: _ :: []) .z hw')
  ·cases ho
   have v3 : Eng.upd e 3 3 = true := upd_eq
   simp only [hei, cond_true, cond_false]
   apply omv; rfl; rfl
   apply OL.nil
   exact At.beside x (by repeat (first | exact Sub.nil | apply Sub.cons rfl | refine Sub.cons_eq rfl (by simp only [v3, cond_true, cond_false]) ?_)) (fun w' hw' => by first | exact hw' | (simp only [v3, cond_true, cond_false]; exact hw'))
  ·cases ho
   have h3 : e 3 = true := hd ⟨3, .data⟩ (by simp) rfl
   have v4 : Eng.upd e 4 4 = true := upd_eq
   have v3 : Eng.upd e 4 3 = true := upd_mono h3
   simp only [hei, h3, cond_true, cond_false]
   apply oop; rfl; apply Pev.len_slice; rfl; exact yes; rfl
   apply OL.nil
   exact At.beside x (by repeat (first | exact Sub.nil | apply Sub.cons rfl | refine Sub.cons_eq rfl (by simp only [v4, v3, cond_true, cond_false]) ?_)) (fun w' hw' => by first | exact hw' | (simp only [v4, v3, cond_true, cond_false]; exact hw'))
  ·cases ho
   have h4 : e 4 = true := hd ⟨4, .data⟩ (by simp) rfl
   have h7 : e 7 = false := hcl.not (i := 5) (j := 7) rfl hei (by kernel_rfl)
   have v5 : Eng.upd e 5 5 = true := upd_eq
   have v4 : Eng.upd e 5 4 = true := upd_mono h4
   have v7 : Eng.upd e 5 7 = false := h7
   simp only [hei, h4, h7, cond_true, cond_false]
   apply OL.makeSlice; rfl; rfl; rfl; rfl; rfl; rfl; rfl; omega; (intro bk hbk; simp only [AllLe, and_true] at hbk)
   apply OL.nil
   exact At.beside { x with b2 := bk, hb2 := ⟨hbk, trivial⟩ } (by repeat (first | exact Sub.nil | apply Sub.cons rfl | refine Sub.cons_eq rfl (by simp only [v5, v4, v7, cond_true, cond_false]) ?_)) (fun w' hw' => by simp only [v5, v4, v7, cond_true, cond_false]; exact Cls.fill (p := 1) (H := _ :: _ :: []) (.s .z) hw')
  ·cases ho
   have h2 : e 2 = true := hd ⟨2, .data⟩ (by simp) rfl
   have v6 : Eng.upd e 6 6 = true := upd_eq
   have v2 : Eng.upd e 6 2 = true := upd_mono h2
   simp only [hei, h2, cond_true, cond_false]
   apply oas; rfl; rfl
   apply OL.nil
   exact At.beside x (by repeat (first | exact Sub.nil | apply Sub.cons rfl | refine Sub.cons_eq rfl (by simp only [v6, v2, cond_true, cond_false]) ?_)) (fun w' hw' => by first | exact hw' | (simp only [v6, v2, cond_true, cond_false]; exact hw'))
  ·cases ho
   have h5 : e 5 = true := hd ⟨5, .data⟩ (by simp) rfl
   have v7 : Eng.upd e 7 7 = true := upd_eq
   have v5 : Eng.upd e 7 5 = true := upd_mono h5
   simp only [hei, h5, cond_true, cond_false]
   apply oas; rfl; rfl
   apply OL.nil
   exact At.beside x (by repeat (first | exact Sub.nil | apply Sub.cons rfl | refine Sub.cons_eq rfl (by simp only [v7, v5, cond_true, cond_false]) ?_)) (fun w' hw' => by first | exact hw' | (simp only [v7, v5, cond_true, cond_false]; exact hw'))
 ·intro x e2 hall
  have hx1 : w.heap.size ≤ x.b1 := x.hb1.1
  have hx2 : w.heap.size ≤ x.b2 := x.hb2.1
  simp only [hall 0 (by decide), hall 1 (by decide), hall 2 (by decide), hall 3 (by decide), hall 4 (by decide), hall 5 (by decide), hall 6 (by decide), hall 7 (by decide), cond_true]
  generalize x.b1 = bd at *
  generalize x.b2 = bp at *
  clear x
  have hrz : List.replicate es.length (Value.int .i64 0) = ints (dl e 0 0) := by rw [← dl_zero, hel]
  have hrp : List.replicate es.length (Value.int .i64 0) = ints (pl e []) := by rw [← pl_zero, hel]
  have hget : ∀ {i : Nat}, i < es.length → ∃ a p, q = some a ∧ a.block < w.heap.size ∧ es[i]? = some p ∧ e[i]? = some p.1 ∧ CellsAt w (a.add (i * 5)) [.int .i64 p.1.op, .int .i64 p.1.n, .slice p.2.b.1 p.1.binds.length p.2.b.2, .slice p.2.k.1 p.1.kids.length p.2.k.2, .slice p.2.a.1 p.1.alts.length p.2.a.2] ∧ ExOk w (low w) p.1 p.2 := fun {i} hi => by
   obtain ⟨a, p, h1, h2, h3, h4, h5⟩ := he.get hi
   exact ⟨a, p, h1, h2, h3, by rw [← hee, List.getElem?_map, h3]; rfl, h4, h5⟩
  have h4096 : es.length ≤ 4096 := by omega
  have hkall : ∀ x ∈ e, x.kids.length ≤ 140737488355328 := fun x hx => by
   rw [← hee] at hx
   obtain ⟨p, hp, rfl⟩ := List.mem_map.1 hx
   exact (he.el p hp).kl
  with_reducible apply At.next
  apply W.seq
  apply W.sr
  apply omv; rfl; rfl
  apply oop; rfl; apply Pev.len_slice; rfl; exact yes; rfl
  apply omv; rfl; rfl
  apply OL.nx
  apply W.block
  refine W.loop (G := Nat) (fun i => i ≤ es.length ∧ ∀ (j : Nat) (x : Ex), j < i → e[j]? = some x → ∀ k ∈ x.kids, 0 ≤ k ∧ k < (j : Int)) (fun i => es.length - i)
   (fun i => [(0, true, .slice q es.length cap), (3, true, .slice (some ⟨bd, 0, none⟩) es.length es.length), (4, true, .slice (some ⟨bp, 0, none⟩) es.length es.length), (23, true, .slice q es.length cap), (24, true, .int .i64 (es.length : Int)), (25, true, .int .i64 (i : Int))])
   (fun i => Cls [blk bd 3 (ints (dl e i 0)), blk bp 3 (ints (pl e (kidsTo e i 0)))] [w]) 0 ⟨by omega, fun j x hj => by omega⟩ (by exact Sub.au) (fun w' hw' => by rw [← hrz, kidsTo_zero, ← hrp]; exact hw') ?_
  rintro i ⟨hi, hdn⟩
  apply W.sr
  apply obn; rfl; rfl; rfl; apply Bin.lss
  apply OL.nx
  apply W.seq
  (refine W.cnd (fun hlt => ?_) (fun hlt => ?_)) <;> (try (exfalso; first | omega | exact hlt trivial | contradiction))
  ·have hil : i < es.length := by omega
   have hile : i < e.length := by omega
   obtain ⟨a, p, rfl, hab, hp, hpe, hcell, hok⟩ := hget hil
   have hkl := hok.kl
   apply W.sk
   apply W.sb
   apply W.sr
   apply omv; rfl; rfl
   apply oop; rfl; apply Pev.idx; rfl; exact yes; rfl; exact yes; rfl; rfl; intro hcond; omega
   apply oop; rfl; apply Pev.load_keptA; rfl; exact yes; exact .head _; rfl; intro hcond; assumption; rfl; intro hcond; (rw [add_block]; assumption); intro hcond; exact NotOwned.au
   apply OL.alloc; rfl; rfl; exact CellsL.agg; (intro bk hbk; simp only [AllLe, and_true] at hbk)
   apply oas; rfl; rfl
   apply OL.storeB; rfl; rfl; exact CellsL.agg; rfl; rfl; rfl; exact Swap.au; exact Put.au
   apply OL.nx
   apply W.seq
   apply W.sr
   apply ofa; rfl; rfl; rfl
   apply old; rfl; rfl; exact .head _; rfl; rfl
   apply oop; rfl; apply Pev.len_slice; rfl; exact yes; rfl
   apply omv; rfl; rfl
   apply OL.nx
   apply W.block
   revert bk
   intro bx hbx
   skip
   refine W.loop (G := Nat) (fun j => j ≤ p.1.kids.length ∧ ∀ (m : Nat) (k : Int), m < j → p.1.kids[m]? = some k → 0 ≤ k ∧ k < (i : Int)) (fun j => p.1.kids.length - j)
    (fun j => [(0, true, .slice (some a) es.length cap), (3, true, .slice (some ⟨bd, 0, none⟩) es.length es.length), (4, true, .slice (some ⟨bp, 0, none⟩) es.length es.length), (5, true, .int .i64 (i : Int)), (23, true, .slice (some a) es.length cap), (24, true, .int .i64 (es.length : Int)), (25, true, .int .i64 (i : Int)), (31, true, .slice p.2.k.1 p.1.kids.length p.2.k.2), (32, true, .int .i64 (p.1.kids.length : Int)), (33, true, .int .i64 (j : Int))])
    (fun j => Cls [blk bd 3 (ints (dl e i (mx e p.1 j))), blk bp 3 (ints (pl e (kidsTo e i j)))] [w]) 0 ⟨by omega, fun m k hm => by omega⟩ (by exact Sub.au) (fun w' hw' => by rw [mx_zero]; exact hw'.thin (by exact Thin.au)) ?_
   rintro j ⟨hj, hks⟩
   apply W.sr
   apply obn; rfl; rfl; rfl; apply Bin.lss
   apply OL.nx
   apply W.seq
   (refine W.cnd (fun hlt2 => ?_) (fun hlt2 => ?_)) <;> (try (exfalso; first | omega | exact hlt2 trivial | contradiction))
   ·have hjl : j < p.1.kids.length := by omega
    obtain ⟨ak, k, hqk, habk, hk, hck⟩ := hok.k.get hjl
    have habk : ak.block < w.heap.size := habk
    rw [hqk]
    apply W.sk
    apply W.sb
    apply W.sr
    apply oop; rfl; apply Pev.idx; rfl; exact yes; rfl; exact yes; rfl; rfl; intro hcond; omega
    apply oop; rfl; apply Pev.load_kept; rfl; exact yes; exact .head _; rfl; intro hcond; assumption; intro hcond; (rw [add_block]; assumption); intro hcond; exact NotOwned.au
    apply oas; rfl; rfl
    apply OL.nx
    apply W.seq
    apply W.sr
    apply omv; rfl; rfl
    apply obn; rfl; rfl; rfl; apply Bin.lss
    apply omv; rfl; rfl
    apply ono; rfl; rfl; rfl; apply Pev.move; rfl; exact yes
    apply ono; rfl; rfl; rfl; apply Pev.move; rfl; exact yes
    apply ono; rfl; rfl; rfl; apply Pev.bin; rfl; exact fun h => h; rfl; exact fun h => h; intro hcond; apply Bin.geq
    apply oop; rfl; apply Pev.pick_or; rfl; exact yes; rfl; exact fun h => h
    apply OL.nx
    refine W.cond rfl (fun hb => ?_) (fun hb => ?_)
    ·apply W.sr
     apply oas; rfl; rfl
     apply OL.nx
     refine W.rt ?_
     ((with_reducible apply At.fin1); rfl; rfl; intro w' hw')
     refine ⟨by rw [treeE_bad (by omega)]; rintro ⟨_, hd, _⟩; have := hd i _ hpe k (List.mem_of_getElem? hk); simp at hb; omega, by (exact hw'.fr)⟩
    obtain ⟨kn, rfl⟩ : ∃ kn : Nat, k = (kn : Int) := ⟨k.toNat, by simp at hb; omega⟩
    have hki : kn < i := by simp at hb; omega
    have hpk : (ints (pl e (kidsTo e i j)))[0 + (kn : Int).toNat * 1]? = some (.int .i64 ((kidsTo e i j).count (kn : Int) : Int)) := by
     have h1 := ints_get (pl_at (e := e) (l := kidsTo e i j) (k := kn) (by omega))
     simpa using h1
    have hcnt : (kidsTo e i j).count (kn : Int) ≤ 4096 * 140737488355328 := by
     have h1 := kidsTo_length (B := 140737488355328) (e := e) (i := i) (j := j) hkall hile
     have h2 := count_le_length (kidsTo e i j) (kn : Int)
     have h3 : (i + 1) * 140737488355328 ≤ 4096 * 140737488355328 := Nat.mul_le_mul_right _ (by omega)
     omega
    have hdk : (ints (dl e i (mx e p.1 j)))[0 + (kn : Int).toNat * 1]? = some (.int .i64 (high (grow e kn) : Int)) := by
     have h1 := ints_get (dl_low (e := e) (m := mx e p.1 j) hki (by omega))
     simpa using h1
    have hdi : (ints (dl e i (mx e p.1 j)))[0 + (i : Int).toNat * 1]? = some (.int .i64 (mx e p.1 j : Int)) := by
     have h1 := ints_get (dl_at (e := e) (m := mx e p.1 j) hile)
     simpa using h1
    apply W.sk
    apply W.sr
    apply omv; rfl; rfl
    apply omv; rfl; rfl
    apply oop; rfl; apply Pev.idxB; rfl; exact yes; rfl; exact yes; rfl; intro hcond; omega; rfl
    apply oop; rfl; apply Pev.load_blk; rfl; exact yes; exact .tail _ (.head _); rfl; assumption
    apply obn; rfl; rfl; rfl; apply Bin.add_in; omega
    apply oop; rfl; apply Pev.idxB; rfl; exact yes; rfl; exact yes; rfl; intro hcond; omega; rfl
    (apply OL.storeI); rfl; rfl; rfl; rfl; rfl; (exact Swap.au); (rw [ints_length, pl_length]; omega)
    have hset : (ints (pl e (kidsTo e i j))).set (0 + (kn : Int).toNat * 1) (.int .i64 (((kidsTo e i j).count (kn : Int) : Int) + 1)) = ints (pl e (kidsTo e i (j + 1))) := by
     rw [show 0 + (kn : Int).toNat * 1 = kn by simp, ints_set, pl_set (by omega), kidsTo_step hpe hk]
    rw [hset]
    apply OL.nx
    apply W.regq; apply Split.s rfl; apply Split.s rfl; apply Split.s rfl; apply Split.s rfl; apply Split.s rfl; apply Split.s rfl; apply Split.s rfl; apply Split.s rfl; apply Split.s rfl; apply Split.s rfl; apply Split.s rfl; apply Split.s rfl; exact Split.z rfl; kernel_rfl; decide +kernel; exact fun w hw => hw.drew
    apply qmv; rfl; rfl
    apply qmv; rfl; rfl
    apply qmv; rfl; rfl
    apply qmv; rfl; rfl
    apply qop; rfl; apply Pev.idxB; rfl; exact yes; rfl; exact yes; rfl; intro hcond; omega; rfl
    apply qop; rfl; apply Pev.load_blk; rfl; exact yes; exact .head _; rfl; assumption
    apply qmv; rfl; rfl
    apply qmv; rfl; rfl
    apply qop; rfl; apply Pev.idxB; rfl; exact yes; rfl; exact yes; rfl; intro hcond; omega; rfl
    apply qop; rfl; apply Pev.load_blk; rfl; exact yes; exact .head _; rfl; assumption
    apply qop; rfl; apply Pev.max2; rfl; exact yes; rfl; exact yes
    apply qop; rfl; apply Pev.idxB; rfl; exact yes; rfl; exact yes; rfl; intro hcond; omega; rfl
    with_reducible apply QL.tail
    (apply OL.storeI); rfl; rfl; rfl; rfl; rfl; (exact Swap.au); (rw [ints_length, dl_length]; omega)
    have hset2 : (ints (dl e i (mx e p.1 j))).set (0 + (i : Int).toNat * 1) (.int .i64 (if (mx e p.1 j : Int) < (high (grow e kn) : Int) then (high (grow e kn) : Int) else (mx e p.1 j : Int))) = ints (dl e i (mx e p.1 (j + 1))) := by
     rw [show 0 + (i : Int).toNat * 1 = i by simp, ints_set, maxIf, dl_set hile, mx_succ hk]
     rfl
    rw [hset2]
    apply OL.nil
    with_reducible apply At.in_normal
    with_reducible apply At.next
    apply W.reg
    apply obn; rfl; rfl; rfl; apply Bin.add_in; omega
    apply omv; rfl; rfl
    apply OL.nil
    refine At.again (j + 1) ⟨by omega, fun m k2 hm hk2 => ?_⟩ (by omega) (by exact Sub.au) (fun w' hw' => by first | exact hw' | exact hw'.thin (by exact Thin.au))
    by_cases em : m = j
    ·subst em
     rw [hk] at hk2
     obtain rfl := Option.some.inj hk2
     omega
    ·exact hks m k2 (by omega) hk2
   ·obtain rfl : j = p.1.kids.length := by omega
    have hkall2 : ∀ k ∈ p.1.kids, 0 ≤ k ∧ k < (i : Int) := fun k hk => by
     obtain ⟨m, hm⟩ := List.getElem?_of_mem hk
     exact hks m k (List.getElem?_eq_some_iff.1 hm).1 hm
    have hmi : mx e p.1 p.1.kids.length ≤ i := mx_le (fun k hk => hkall2 k (List.mem_of_mem_take hk)) (fun k hk => high_le hdn k hk (by omega))
    have hhi := high_eq hpe hkall2
    have hdi : (ints (dl e i (mx e p.1 p.1.kids.length)))[0 + (i : Int).toNat * 1]? = some (.int .i64 (mx e p.1 p.1.kids.length : Int)) := by
     have h1 := ints_get (dl_at (e := e) (m := mx e p.1 p.1.kids.length) hile)
     simpa using h1
    refine W.xt ?_
    with_reducible apply At.next
    apply W.reg
    apply omv; rfl; rfl
    apply omv; rfl; rfl
    apply oop; rfl; apply Pev.idxB; rfl; exact yes; rfl; exact yes; rfl; intro hcond; omega; rfl
    apply oop; rfl; apply Pev.load_blk; rfl; exact yes; exact .head _; rfl; assumption
    apply obn; rfl; rfl; rfl; apply Bin.add_in; omega
    apply oop; rfl; apply Pev.idxB; rfl; exact yes; rfl; exact yes; rfl; intro hcond; omega; rfl
    (apply OL.storeI); rfl; rfl; rfl; rfl; rfl; (exact Swap.au); (rw [ints_length, dl_length]; omega)
    have hset3 : (ints (dl e i (mx e p.1 p.1.kids.length))).set (0 + (i : Int).toNat * 1) (.int .i64 ((mx e p.1 p.1.kids.length : Int) + 1)) = ints (dl e (i + 1) 0) := by
     rw [show 0 + (i : Int).toNat * 1 = i by simp, ints_set, show ((mx e p.1 p.1.kids.length : Int) + 1) = ((mx e p.1 p.1.kids.length + 1 : Nat) : Int) by omega, dl_set hile, ← hhi, dl_next hile rfl]
    rw [hset3, ← kidsTo_next hpe]
    apply OL.nil
    with_reducible apply At.in_normal
    with_reducible apply At.next
    apply W.reg
    apply obn; rfl; rfl; rfl; apply Bin.add_in; omega
    apply omv; rfl; rfl
    apply OL.nil
    refine At.again (i + 1) ⟨by omega, fun m x2 hm hx2 => ?_⟩ (by omega) (by exact Sub.au) (fun w' hw' => hw')
    by_cases em : m = i
    ·subst em
     rw [hpe] at hx2
     obtain rfl := Option.some.inj hx2
     exact hkall2
    ·exact hdn m x2 (by omega) hx2
  ·obtain rfl : i = es.length := by omega
   have hdown : Down e := fun j x hx => hdn j x (by have := (List.getElem?_eq_some_iff.1 hx).1; omega) hx
   have hkt : kidsTo e es.length 0 = kidsAll e := by rw [← hel, kidsTo_end]
   rw [hkt]
   have hlast : (kidsAll e).count ((e.length - 1 : Nat) : Int) = 0 := by
    refine List.count_eq_zero.2 fun hm => ?_
    obtain ⟨p, x, hx, hk⟩ := mem_kidsAll.1 hm
    have h1 := hdown p x hx _ hk
    have h2 := (List.getElem?_eq_some_iff.1 hx).1
    omega
   refine W.xt ?_
   with_reducible apply At.next
   apply W.seq
   apply W.sr
   apply omv; rfl; rfl
   apply oop; rfl; apply Pev.len_slice; rfl; exact yes; rfl
   apply omv; rfl; rfl
   apply OL.nx
   apply W.block
   refine W.loop (G := Nat) (fun i => i ≤ es.length ∧ ∀ j : Nat, j < i → j + 1 < e.length → (kidsAll e).count (j : Int) = 1) (fun i => es.length - i)
    (fun i => [(0, true, .slice q es.length cap), (3, true, .slice (some ⟨bd, 0, none⟩) es.length es.length), (70, true, .slice (some ⟨bp, 0, none⟩) es.length es.length), (71, true, .int .i64 (es.length : Int)), (72, true, .int .i64 (i : Int))])
    (fun i => Cls [blk bd 3 (ints (dl e es.length 0)), blk bp 3 (ints (pl e (kidsAll e)))] [w]) 0 ⟨by omega, fun j hj => by omega⟩ (by exact Sub.au) (fun w' hw' => hw') ?_
   rintro j ⟨hj, hone⟩
   apply W.sr
   apply obn; rfl; rfl; rfl; apply Bin.lss
   apply OL.nx
   apply W.seq
   (refine W.cnd (fun hlt2 => ?_) (fun hlt2 => ?_)) <;> (try (exfalso; first | omega | exact hlt2 trivial | contradiction))
   ·have hjl : j < es.length := by omega
    have hpj : (ints (pl e (kidsAll e)))[0 + (j : Int).toNat * 1]? = some (.int .i64 ((kidsAll e).count (j : Int) : Int)) := by
     have h1 := ints_get (pl_at (e := e) (l := kidsAll e) (k := j) (by omega))
     simpa using h1
    have hpj2 : (ints (pl e (kidsAll e)))[0 + j * 1]? = some (.int .i64 ((kidsAll e).count (j : Int) : Int)) := hpj
    apply W.sk
    apply W.sb
    apply W.sr
    apply omv; rfl; rfl
    apply oop; rfl; apply Pev.idxB; rfl; exact yes; rfl; exact yes; rfl; intro hcond; omega; rfl
    apply oop; rfl; apply Pev.load_blk; rfl; exact yes; exact .tail _ (.head _); rfl; assumption
    apply oas; rfl; rfl
    apply oas; rfl; rfl
    apply OL.nsr
    apply omv; rfl; rfl
    apply obn; rfl; rfl; rfl; apply Bin.eql
    apply omv; rfl; rfl
    apply omv; rfl; rfl
    apply oop; rfl; apply Pev.len_slice; rfl; exact yes; rfl
    apply obn; rfl; rfl; rfl; apply Bin.sub_in; omega
    apply obn; rfl; rfl; rfl; apply Bin.lss
    apply obn; rfl; rfl; rfl; apply Bin.bool_neq; rfl
    apply OL.nx
    refine W.cond rfl (fun hb => ?_) (fun hb => ?_)
    ·apply W.sr
     apply oas; rfl; rfl
     apply OL.nx
     refine W.rt ?_
     ((with_reducible apply At.fin1); rfl; rfl; intro w' hw')
     refine ⟨?_, by (exact hw'.fr)⟩
     rw [treeE_bad (by omega)]
     rintro ⟨_, _, h1⟩
     by_cases hjl2 : j + 1 < e.length
     ·have := h1 j hjl2
      rw [this] at hb
      simp at hb
      omega
     ·have : j = e.length - 1 := by omega
      subst this
      rw [hlast] at hb
      simp at hb
      omega
    ·apply W.skip
     with_reducible apply At.in_normal
     with_reducible apply At.next
     apply W.reg
     apply obn; rfl; rfl; rfl; apply Bin.add_in; omega
     apply omv; rfl; rfl
     apply OL.nil
     refine At.again (j + 1) ⟨by omega, fun m hm hml => ?_⟩ (by omega) (by exact Sub.au) (fun w' hw' => hw')
     by_cases em : m = j
     ·subst em
      simp at hb
      omega
     ·exact hone m (by omega) hml
   ·obtain rfl : j = es.length := by omega
    have hdr : (ints (dl e es.length 0))[0 + ((es.length : Int) - 1).toNat * 1]? = some (.int .i64 (high (grow e (e.length - 1)) : Int)) := by
     have h1 := ints_get (dl_low (e := e) (i := es.length) (m := 0) (k := e.length - 1) (by omega) (by omega))
     rw [show 0 + ((es.length : Int) - 1).toNat * 1 = e.length - 1 by omega]
     exact h1
    have hok := treeE_ok (e := e) (by omega) (by omega) hdown (fun i hi => hone i (by omega) hi)
    refine W.xt ?_
    with_reducible apply At.next
    apply W.seq
    apply W.sr
    apply omv; rfl; rfl
    apply omv; rfl; rfl
    apply oop; rfl; apply Pev.len_slice; rfl; exact yes; rfl
    apply obn; rfl; rfl; rfl; apply Bin.sub_in; omega
    apply oop; rfl; apply Pev.idxB; rfl; exact yes; rfl; exact yes; rfl; intro hcond; omega; rfl
    apply oop; rfl; apply Pev.load_blk; rfl; exact yes; exact .head _; rfl; assumption
    apply obn; rfl; rfl; rfl; apply Bin.gtr
    apply OL.nx
    refine W.cond rfl (fun hb => ?_) (fun hb => ?_)
    ·apply W.sr
     apply oas; rfl; rfl
     apply OL.nx
     refine W.rt ?_
     ((with_reducible apply At.fin1); rfl; rfl; intro w' hw')
     exact ⟨by rw [hok, if_pos]; simp at hb; omega, by (exact hw'.fr)⟩
    ·apply W.sk
     apply W.sr
     apply oas; rfl; rfl
     apply OL.nx
     apply W.ret
     ((with_reducible apply At.fin1); rfl; rfl; intro w' hw')
     exact ⟨by rw [hok, if_neg]; simp at hb; omega, by (exact hw'.fr)⟩
end Go.Proofs.YtkpjndhgicbjjaaDoor.co

/- The walks of slices.Index and Contains at []int, of core's Body and Check. Conditions: none. -/
namespace Go.Co
open Go.Eng Go.RowKit
def idxN (v : Int) : List Int → Nat → Int
 | [], _ => -1
 | s :: l, i => if v = s then i else idxN v l (i + 1)
theorem idxN_get {v : Int} {l : List Int} {i k : Nat} {s : Int} (h : l[i]? = some s) : idxN v (l.drop i) k = if v = s then (k : Int) else idxN v (l.drop (i + 1)) (k + 1) := by
 obtain ⟨hi, rfl⟩ := List.getElem?_eq_some_iff.1 h
 rw [List.drop_eq_getElem_cons hi, idxN]
theorem idxN_end {v : Int} {l : List Int} {i k : Nat} (h : l.length ≤ i) : idxN v (l.drop i) k = -1 := by
 rw [List.drop_eq_nil_of_le h]; rfl
theorem idxN_mem (v : Int) : ∀ (l : List Int) (k : Nat), 0 ≤ idxN v l k ↔ v ∈ l
 | [], k => by simp [idxN]
 | s :: l, k => by
  rw [idxN, List.mem_cons]
  by_cases h : v = s
  ·simp [h]
  ·rw [if_neg h, idxN_mem v l (k + 1)]
   simp [h]
theorem kids_nodup {e : List Ex} (ht : IsTree e) {i : Nat} {x : Ex} (hx : e[i]? = some x) : x.kids.Nodup := by
 refine List.pairwise_iff_getElem.2 fun a b ha hb hab he => ?_
 have h1 := ht.down i x hx x.kids[a] (List.getElem_mem ha)
 have e1 : x.kids[a]? = some ((x.kids[a].toNat : Nat) : Int) := by rw [List.getElem?_eq_getElem ha]; congr 1; omega
 have e2 : x.kids[b]? = some ((x.kids[a].toNat : Nat) : Int) := by rw [List.getElem?_eq_getElem hb, ← he]; congr 1; omega
 have := ht.uniq _ i a i b ⟨x, hx, e1⟩ ⟨x, hx, e2⟩
 omega
theorem kids_len {e : List Ex} (ht : IsTree e) {i : Nat} {x : Ex} (hx : e[i]? = some x) : x.kids.length ≤ e.length := by
 have h1 := nodup_le (kids_nodup ht hx) (m := (List.range e.length).map fun (k : Nat) => (k : Int)) fun k hk => by
  have h1 := ht.down i x hx k hk
  have := (List.getElem?_eq_some_iff.1 hx).1
  refine List.mem_map.2 ⟨k.toNat, List.mem_range.2 (by omega), by omega⟩
 simpa using h1
theorem nodeE_zero {e : List Ex} {x : Ex} (h : nodeE e x = 0) : shapeB x = true ∧ rangesE x = 0 := by
 unfold nodeE at h
 by_cases h1 : shapeB x = false
 ·rw [if_pos h1] at h; omega
 ·rw [if_neg h1] at h
  refine ⟨by simpa using h1, ?_⟩
  by_cases h2 : rangesE x = 0
  ·exact h2
  ·rw [if_pos h2] at h; exact absurd h h2
theorem foldl_max_le {l : List Al} : ∀ {m : Nat} , m ≤ l.foldl (fun m a => max m a.binds.length) m ∧ ∀ a ∈ l, a.binds.length ≤ l.foldl (fun m a => max m a.binds.length) m := by
 induction l with
 | nil => intro m; simp
 | cons b r ih =>
  intro m
  rw [List.foldl_cons]
  have h1 := ih (m := max m b.binds.length)
  refine ⟨by omega, fun a ha => ?_⟩
  rcases List.mem_cons.1 ha with rfl | ha
  ·omega
  ·exact h1.2 a ha
theorem lim_of {x : Ex} (h1 : shapeB x = true) (h2 : rangesE x = 0) (h3 : x.kids.length ≤ 4096) : Lim x := by
 have hw : wide x ≤ 16 := by
  unfold rangesE at h2
  by_cases h3 : rangesOk x = false
  ·rw [if_pos h3] at h2; omega
  ·rw [if_neg h3] at h2
   by_cases h4 : (if x.op = 2 then 6 else 16) < wide x
   ·rw [if_pos (Or.inl h4)] at h2; omega
   ·split at h4 <;> omega
 have hf := foldl_max_le (l := x.alts) (m := x.binds.length)
 refine ⟨Nat.le_trans hf.1 hw, ?_, fun a ha => Nat.le_trans (hf.2 a ha) hw⟩
 unfold shapeB at h1
 split at h1
 ·simp only [Bool.and_eq_true, altsB, decide_eq_true_eq] at h1
  omega
 ·split at h1
  ·cases h1
  ·simp only [Bool.and_eq_true, decide_eq_true_eq] at h1
   omega
structure TreeOk (e : List Ex) : Prop where
 len : e.length ≤ 4096
 pos : 0 < e.length
 tree : IsTree e
 high : high (grow e (e.length - 1)) ≤ 400
theorem treeE_ok0 {e : List Ex} (h : treeE e = 0) : TreeOk e := by
 unfold treeE at h
 by_cases h1 : 4096 < e.length
 ·rw [if_pos h1] at h; omega
 ·rw [if_neg h1] at h
  split at h
  ·rename_i h2
   refine ⟨by omega, h2.1, isTree_of h2.2.1 h2.2.2, ?_⟩
   split at h
   ·omega
   ·omega
  ·omega
noncomputable def oneE (e : List Ex) (flat : Bool) (x : Ex) : Int := if flatBad flat x.op then 3 else nodeE e x
theorem bodyE_tree {e : List Ex} {ps : List Int} {flat : Bool} (h : ¬ treeE e = 0) : bodyE e ps flat = treeE e := by unfold bodyE; rw [if_pos h]
theorem bodyE_one {e : List Ex} {ps : List Int} {flat : Bool} (h : treeE e = 0) (h2 : ¬ firstE (oneE e flat) e = 0) : bodyE e ps flat = firstE (oneE e flat) e := by
 unfold bodyE; rw [if_neg (by simpa using h)]; exact if_pos h2
theorem bodyE_twice {e : List Ex} {ps : List Int} {flat : Bool} (h : treeE e = 0) (h2 : firstE (oneE e flat) e = 0) (h3 : ¬ (ps ++ e.flatMap bindersX).Nodup) : bodyE e ps flat = 7 := by
 unfold bodyE; rw [if_neg (by simpa using h)]
 have h4 : ¬ ¬ firstE (fun x => if flatBad flat x.op then 3 else nodeE e x) e = 0 := fun h => h h2
 rw [if_neg h4, if_pos h3]
theorem bodyE_free {e : List Ex} {ps : List Int} {flat : Bool} (h : treeE e = 0) (h2 : firstE (oneE e flat) e = 0) (h3 : (ps ++ e.flatMap bindersX).Nodup) {n : Int} (hn : n ∈ fv (grow e (e.length - 1)) []) (hp : ¬ n ∈ ps) : bodyE e ps flat = 6 := by
 unfold bodyE; rw [if_neg (by simpa using h)]
 have h4 : ¬ ¬ firstE (fun x => if flatBad flat x.op then 3 else nodeE e x) e = 0 := fun h => h h2
 rw [if_neg h4, if_neg (fun h => h h3), if_pos ⟨n, hn, hp⟩]
theorem bodyE_ok {e : List Ex} {ps : List Int} {flat : Bool} (h : treeE e = 0) (h2 : firstE (oneE e flat) e = 0) (h3 : (ps ++ e.flatMap bindersX).Nodup) (h5 : ∀ n ∈ fv (grow e (e.length - 1)) [], n ∈ ps) : bodyE e ps flat = 0 := by
 unfold bodyE; rw [if_neg (by simpa using h)]
 have h4 : ¬ ¬ firstE (fun x => if flatBad flat x.op then 3 else nodeE e x) e = 0 := fun h => h h2
 rw [if_neg h4, if_neg (fun h => h h3), if_neg (fun ⟨n, hn, hp⟩ => hp (h5 n hn))]
theorem fv_names {e : List Ex} (ht : TreeOk e) : ∀ n ∈ fv (grow e (e.length - 1)) [], n ∈ e.map Ex.n := fun n hn => by
 have := ht.pos
 obtain ⟨j, x, sc', h1, h2, h3, _⟩ := (mem_fv ht.tree.down (e.length - 1) (by omega) []).1 hn
 exact List.mem_map.2 ⟨x, List.mem_of_getElem? h1, h3⟩
end Go.Co
namespace Go.Proofs.YtkpjndhgicbjjaaDoor.co
open Go.RowKit Go.Eng Go.Co
set_option maxRecDepth 100000
theorem IIndex_calls (q : Option Addr) (cap : Nat) (l : List Int) (s : Int) (w : World) (hlen : l.length ≤ 9223372036854775807) (h : IntsO w (low w) l q) :
  Calls Tryd.prog 61 #[.slice q l.length cap, .int .i64 s] w fun e w' => e = .returned (.int .i64 (idxN s l 0)) ∧ Ext w w' := by
 refine enter Tryd.func61 rfl Tryd.ntmps61 rfl (Cls.start w) ?_
 (simp only [argEnv, Nat.zero_add, Nat.reduceAdd])
 apply W.sr
 apply oas; rfl; rfl
 apply OL.nx
 apply W.seq
 apply W.sr
 apply omv; rfl; rfl
 apply oop; rfl; apply Pev.len_slice; rfl; exact yes; rfl
 apply omv; rfl; rfl
 apply OL.nx
 apply W.block
 refine W.loop (G := Nat) (fun i => i ≤ l.length ∧ idxN s (l.drop i) i = idxN s l 0) (fun i => l.length - i)
  (fun i => [(8, true, .int .i64 (i : Int)), (7, true, .int .i64 (l.length : Int)), (0, true, .slice q l.length cap), (1, true, .int .i64 s)])
  (fun i => Cls [] [w]) 0 ⟨by omega, rfl⟩ (by exact Sub.au) (fun w' hw' => hw') ?_
 rintro i ⟨hi, hrest⟩
 apply W.sr
 apply obn; rfl; rfl; rfl; apply Bin.lss
 apply OL.nx
 apply W.seq
 (refine W.cnd (fun hlt => ?_) (fun hlt => ?_)) <;> (try (exfalso; first | omega | exact hlt trivial | contradiction))
 ·obtain ⟨a, u, rfl, hab, hu, hcell⟩ := h.get (show i < l.length by omega)
  have hab : a.block < w.heap.size := hab
  rw [idxN_get hu] at hrest
  apply W.sk
  apply W.sb
  apply W.sr
  apply omv; rfl; rfl
  apply oas; rfl; rfl
  apply OL.nsr
  apply omv; rfl; rfl
  apply omv; rfl; rfl
  apply omv; rfl; rfl
  apply oop; rfl; apply Pev.idx; rfl; exact yes; rfl; exact yes; rfl; rfl; intro hcond; omega
  apply oop; rfl; apply Pev.load_kept; rfl; exact yes; exact .head _; rfl; intro hcond; assumption; intro hcond; (rw [add_block]; assumption); intro hcond; exact NotOwned.au
  apply obn; rfl; rfl; rfl; apply Bin.eql
  apply OL.nx
  (refine W.cnd (fun heq => ?_) (fun heq => ?_)) <;> (try (exfalso; first | omega | exact heq trivial | contradiction))
  ·apply W.sr
   apply omv; rfl; rfl
   apply oas; rfl; rfl
   apply OL.nx
   refine W.rt ?_
   ((with_reducible apply At.fin1); rfl; rfl; intro w' hw')
   rw [if_pos (by simpa using heq)] at hrest
   exact ⟨by rw [hrest], by (exact hw'.fr)⟩
  ·apply W.skip
   with_reducible apply At.in_normal
   with_reducible apply At.next
   apply W.reg
   apply obn; rfl; rfl; rfl; apply Bin.add_in; omega
   apply omv; rfl; rfl
   apply OL.nil
   rw [if_neg (by simpa using heq)] at hrest
   exact At.again (i + 1) ⟨by omega, hrest⟩ (by omega) (by exact Sub.au) (fun w' hw' => hw')
 ·refine W.xt ?_
  with_reducible apply At.next
  apply W.sr
  apply oas; rfl; rfl
  apply OL.nx
  apply W.ret
  ((with_reducible apply At.fin1); rfl; rfl; intro w' hw')
  rw [idxN_end (by omega)] at hrest
  exact ⟨by rw [hrest], by (exact hw'.fr)⟩
theorem IContains_calls (q : Option Addr) (cap : Nat) (l : List Int) (s : Int) (w : World) (hlen : l.length ≤ 9223372036854775807) (h : IntsO w (low w) l q) :
  Calls Tryd.prog 45 #[.slice q l.length cap, .int .i64 s] w fun e w' => e = .returned (.bool (decide (s ∈ l))) ∧ Ext w w' := by
 refine enter Tryd.func45 rfl Tryd.ntmps45 rfl (Cls.start w) ?_
 (simp only [argEnv, Nat.zero_add, Nat.reduceAdd])
 apply W.sr
 apply oas; rfl; rfl
 apply OL.nsr
 apply omv; rfl; rfl
 apply omv; rfl; rfl
 (((first | (with_reducible apply OL.op) | (with_reducible apply QL.op)); (exact Guard.au); rfl; rfl); (exact Pev.call rfl (by exact Args.au) (fun _ w2 hw2 => (IIndex_calls q cap l s w2 hlen (h.at hw2 (by exact mau) (fun k hk => by exact NotOwned.au))).mono (fun e w3 h => ⟨h.1, hw2.ext h.2⟩))))
 apply obn; rfl; rfl; rfl; apply Bin.geq
 apply oas; rfl; rfl
 apply OL.nx
 apply W.ret
 ((with_reducible apply At.fin1); rfl; rfl; intro w' hw')
 exact ⟨by simp only [idxN_mem], by (exact hw'.fr)⟩
theorem Body_calls (es : List (Ex × ExY)) (q qp : Option Addr) (cap cp : Nat) (ps : List Int) (flat : Bool) (w : World) (he : Arr exR w (low w) es q) (hlen : es.length ≤ 9223372036854775807) (hp : IntsO w (low w) ps qp) (hpl : ps.length ≤ 4096)
  (hg : 1 < w.heap.size) (hs : arityAt w) :
  Calls Tryd.prog 21 [.slice q es.length cap, .slice qp ps.length cp, .bool flat].toArray w fun e w' => e = .returned (.int .i64 (bodyE (es.map Prod.fst) ps flat)) ∧ Ext w w' := by
 obtain ⟨e, hee⟩ : ∃ e, es.map Prod.fst = e := ⟨_, rfl⟩
 have hel : e.length = es.length := by rw [← hee, List.length_map]
 rw [hee]
 refine enter Tryd.func21 rfl Tryd.ntmps21 rfl (Cls.start w) ?_
 (simp only [argEnv, Nat.zero_add, Nat.reduceAdd])
 apply W.sr
 apply OL.box; rfl; rfl; exact CellsL.one rfl; (intro bk hbk; simp only [AllLe, and_true] at hbk)
 apply oas; rfl; rfl
 apply OL.nx
 apply W.seq
 apply W.sr
 apply old; rfl; rfl; exact .head _; rfl; rfl
 revert bk
 intro bx hbx
 (((first | (with_reducible apply OL.op) | (with_reducible apply QL.op)); (exact Guard.au); rfl; rfl); (exact Pev.call rfl (by exact Args.au) (fun _ w2 hw2 => (treeError_calls es q cap w2 (he.at hw2 (by exact mau) (fun k hk => by exact NotOwned.au)) hlen).mono (fun e w3 h => ⟨h.1, hw2.ext h.2⟩))))
 rw [hee]
 apply oas; rfl; rfl
 apply OL.nsr
 apply omv; rfl; rfl
 apply obn; rfl; rfl; rfl; apply Bin.neq
 apply OL.nx
 (refine W.cnd (fun hte => ?_) (fun hte => ?_)) <;> (try (exfalso; first | omega | exact hte trivial | contradiction))
 ·apply W.sr
  apply omv; rfl; rfl
  apply oas; rfl; rfl
  apply OL.nx
  refine W.rt ?_
  ((with_reducible apply At.fin1); rfl; rfl; intro w' hw')
  exact ⟨by rw [bodyE_tree hte], by (exact hw'.fr)⟩
 have hte0 : treeE e = 0 := by simpa using hte
 have htok := treeE_ok0 hte0
 have hl4 := htok.len
 have hpos := htok.pos
 have hl4' : es.length ≤ 4096 := by omega
 have hkd : ∀ p ∈ es, ∀ k ∈ p.1.kids, 0 ≤ k ∧ k < (es.length : Int) := fun p hp k hk => by
  obtain ⟨i, hi⟩ := List.getElem?_of_mem hp
  have hx : e[i]? = some p.1 := by rw [← hee, List.getElem?_map, hi]; rfl
  have := htok.tree.down i p.1 hx k hk
  have := (List.getElem?_eq_some_iff.1 hx).1
  omega
 apply W.sk
 apply W.seq
 apply W.sr
 apply old; rfl; rfl; exact .head _; rfl; rfl
 apply oop; rfl; apply Pev.len_slice; rfl; exact yes; rfl
 apply omv; rfl; rfl
 apply OL.nx
 apply W.block
 refine W.loop (G := Nat) (fun i => i ≤ es.length ∧ firstE (oneE e flat) (e.drop i) = firstE (oneE e flat) e) (fun i => es.length - i)
  (fun i => [(1, true, .slice qp ps.length cp), (2, true, .bool flat), (3, true, .pointer (some ⟨bx, 0, none⟩)), (18, true, .slice q es.length cap), (19, true, .int .i64 (es.length : Int)), (20, true, .int .i64 (i : Int))])
  (fun i => Cls [blk bx 22 [.slice q es.length cap]] [w]) 0 ⟨by omega, rfl⟩ (by exact Sub.au) (fun w' hw' => hw'.thin (by exact Thin.au)) ?_
 rintro i ⟨hi, hrest⟩
 apply W.sr
 apply obn; rfl; rfl; rfl; apply Bin.lss
 apply OL.nx
 apply W.seq
 (refine W.cnd (fun hlt => ?_) (fun hlt => ?_)) <;> (try (exfalso; first | omega | exact hlt trivial | contradiction))
 ·have hil : i < es.length := by omega
  obtain ⟨a, p, rfl, hab, hpi, hcell, hok⟩ := he.get hil
  have hab : a.block < w.heap.size := hab
  have hcell : CellsAt w (a.add (i * 5)) [.int .i64 p.1.op, .int .i64 p.1.n, .slice p.2.b.1 p.1.binds.length p.2.b.2, .slice p.2.k.1 p.1.kids.length p.2.k.2, .slice p.2.a.1 p.1.alts.length p.2.a.2] := hcell
  have hx : e[i]? = some p.1 := by rw [← hee, List.getElem?_map, hpi]; rfl
  rw [firstE_drop hx] at hrest
  apply W.sk
  apply W.sb
  apply W.sr
  apply oop; rfl; apply Pev.idx; rfl; exact yes; rfl; exact yes; rfl; rfl; intro hcond; omega
  apply oop; rfl; apply Pev.load_keptA; rfl; exact yes; exact .head _; rfl; intro hcond; assumption; rfl; intro hcond; (rw [add_block]; assumption); intro hcond; exact NotOwned.au
  apply OL.alloc; rfl; rfl; exact CellsL.agg; (intro bk hbk; simp only [AllLe, and_true] at hbk)
  apply OL.storeB; rfl; rfl; exact CellsL.agg; rfl; rfl; rfl; exact Swap.au; exact Put.au
  apply OL.nx
  apply W.seq
  apply W.sr
  apply omv; rfl; rfl
  apply omv; rfl; rfl
  apply oy; rfl; rfl; rfl; apply Pev.fld; rfl; exact yes; rfl
  apply oy; rfl; rfl; rfl; apply Pev.load_blk; rfl; exact fun h => h; exact .head _; rfl; rfl
  (((first | (with_reducible apply OL.op) | (with_reducible apply QL.op)); (exact Guard.au); rfl; rfl); (exact Pev.call rfl (by exact Args.au) (fun _ w2 hw2 => (coreOnly_calls p.1.op w2).mono (fun e w3 h => ⟨h.1, hw2.ext h.2⟩))))
  apply oop; rfl; apply Pev.pick_and; rfl; exact yes; rfl; exact fun h => h
  apply omv; rfl; rfl
  apply ono; rfl; rfl; rfl; apply Pev.move; rfl; exact yes
  apply ono; rfl; rfl; rfl; apply Pev.not; rfl; exact fun h => h
  apply ono; rfl; rfl; rfl; apply Pev.move; rfl; exact fun h => h
  apply OL.op; exact Guard.cyes rfl rfl; rfl; rfl; apply Pev.fld; rfl; exact yes; rfl
  apply OL.op; exact Guard.cyes rfl rfl; rfl; rfl; apply Pev.load_blk; rfl; exact fun h => h; exact .head _; rfl; rfl
  (((first | (with_reducible apply OL.op) | (with_reducible apply QL.op)); (exact Guard.au); rfl; rfl); (exact Pev.call rfl (by exact Args.au) (fun _ w2 hw2 => (flatOnly_calls p.1.op w2).mono (fun e w3 h => ⟨h.1, hw2.ext h.2⟩))))
  apply ono; rfl; rfl; rfl; apply Pev.pick_and; rfl; exact fun h => h; rfl; exact fun h => h
  apply oop; rfl; apply Pev.pick_or; rfl; exact yes; rfl; exact fun h => h
  apply OL.nx
  have hbadE : (flat && (decide (p.1.op = 2) || decide (p.1.op = 5) || decide (p.1.op = 12) || decide (p.1.op = 13)) || !flat && (decide (p.1.op = 14) || decide (p.1.op = 15) || decide (p.1.op = 16))) = flatBad flat p.1.op := rfl
  (refine W.cnd (fun hfb => ?_) (fun hfb => ?_)) <;> (try (exfalso; first | omega | exact hfb trivial | contradiction))
  ·have hone : oneE e flat p.1 = 3 := by
    unfold oneE; rw [if_pos (by rw [← hbadE]; simpa using hfb)]
   rw [hone] at hrest
   apply W.sr
   apply oas; rfl; rfl
   apply OL.nx
   refine W.rt ?_
   ((with_reducible apply At.fin1); rfl; rfl; intro w' hw')
   exact ⟨by rw [bodyE_one hte0 (by rw [← hrest]; simp), ← hrest]; simp, by (exact hw'.fr)⟩
  have hone : oneE e flat p.1 = nodeE e p.1 := by
   unfold oneE; rw [if_neg (by rw [← hbadE]; simp only [Bool.not_eq_true, Bool.or_eq_false_iff, Bool.and_eq_false_iff, decide_eq_false_iff_not, Bool.not_eq_false']; exact hfb)]
  rw [hone] at hrest
  apply W.sk
  apply W.sr
  apply oop; rfl; apply Pev.load_blkA; rfl; exact yes; exact .head _; rfl; exact Take.au
  apply oop; rfl; apply Pev.makeFunc; exact Args.au; exact Args.au
  (((first | (with_reducible apply OL.op) | (with_reducible apply QL.op)); (exact Guard.au); rfl; rfl); (exact Pev.call rfl (by exact Args.au) (fun _ w2 hw2 => (nodeError_calls es (some a) cap bx p.1 p.2 w2 (hok.at hw2 (by exact mau) (fun k hk => by exact NotOwned.au)) (Nat.lt_of_lt_of_le hg (hw2.kp w (by exact mau)).size) (hs.at hg hw2 (by exact mau) (fun k hk => by exact NotOwned.au)) (he.at hw2 (by exact mau) (fun k hk => by exact NotOwned.au)) hl4' ((blk_cell (hw2.item (i := blk bx 22 [.slice (some a) es.length cap]) (by exact mau))).trans rfl) (blk_lt (hw2.item (i := blk bx 22 [.slice (some a) es.length cap]) (by exact mau))) (hkd p (List.mem_of_getElem? hpi))).mono (fun e w3 h => ⟨h.1, hw2.ext h.2⟩))))
  rw [hee]
  apply oas; rfl; rfl
  apply OL.nsr
  apply omv; rfl; rfl
  apply obn; rfl; rfl; rfl; apply Bin.neq
  apply OL.nx
  (refine W.cnd (fun hne => ?_) (fun hne => ?_)) <;> (try (exfalso; first | omega | exact hne trivial | contradiction))
  ·rw [if_neg (by simpa using hne)] at hrest
   apply W.sr
   apply omv; rfl; rfl
   apply oas; rfl; rfl
   apply OL.nx
   refine W.rt ?_
   ((with_reducible apply At.fin1); rfl; rfl; intro w' hw')
   exact ⟨by rw [bodyE_one hte0 (by rw [← hrest]; simpa using hne), ← hrest], by (exact hw'.fr)⟩
  rw [if_pos (by simpa using hne)] at hrest
  apply W.skip
  with_reducible apply At.in_normal
  with_reducible apply At.next
  apply W.reg
  apply obn; rfl; rfl; rfl; apply Bin.add_in; omega
  apply omv; rfl; rfl
  apply OL.nil
  exact At.again (i + 1) ⟨by omega, hrest⟩ (by omega) (by exact Sub.au) (fun w' hw' => hw'.thin (by exact Thin.au))
 ·obtain rfl : i = es.length := by omega
  rw [← hel, List.drop_length] at hrest
  have hall : firstE (oneE e flat) e = 0 := hrest.symm
  refine W.xt ?_
  with_reducible apply At.next
  apply W.seq
  apply W.sr
  apply old; rfl; rfl; exact .head _; rfl; rfl
  apply omv; rfl; rfl
  have hzero : ∀ p ∈ es, nodeE e p.1 = 0 ∧ p.1.kids.length ≤ 4096 := fun p hp => by
   obtain ⟨i, hi⟩ := List.getElem?_of_mem hp
   have hx : e[i]? = some p.1 := by rw [← hee, List.getElem?_map, hi]; rfl
   have h1 := firstE_zero.1 hall p.1 (List.mem_of_getElem? hx)
   have h2 := kids_len htok.tree hx
   refine ⟨?_, by omega⟩
   unfold oneE at h1
   split at h1
   ·omega
   ·exact h1
  have hlim : ∀ p ∈ es, Lim p.1 := fun p hp => by
   obtain ⟨h1, h2⟩ := hzero p hp
   obtain ⟨h3, h4⟩ := nodeE_zero h1
   exact lim_of h3 h4 h2
  refine OL.callE (α := Bool) (fun z => .bool z) (fun z => z = true ↔ ¬ (ps ++ e.flatMap bindersX).Nodup) (fun _ => Cls [blk bx 22 [.slice q es.length cap]] [w]) rfl rfl (by exact Args.au) (fun w2 hw2 => (twice_calls es q qp cap cp ps w2 (he.at hw2 (by exact mau) (fun k hk => by exact NotOwned.au)) hl4' (hp.at hw2 (by exact mau) (fun k hk => by exact NotOwned.au)) hpl hlim).mono (fun e w3 ⟨bb, h1, h2, h3⟩ => ⟨bb, h1, by rw [hee] at h2; exact h2, hw2.ext h3⟩)) ?_
  rintro bb hbb
  apply OL.nx
  (refine W.cnd (fun htw => ?_) (fun htw => ?_)) <;> (try (exfalso; first | omega | exact htw trivial | contradiction))
  ·apply W.sr
   apply oas; rfl; rfl
   apply OL.nx
   refine W.rt ?_
   ((with_reducible apply At.fin1); rfl; rfl; intro w' hw')
   exact ⟨by rw [bodyE_twice hte0 hall (hbb.1 htw)], by (exact hw'.fr)⟩
  have hnd : (ps ++ e.flatMap bindersX).Nodup := by
   by_cases h : (ps ++ e.flatMap bindersX).Nodup
   ·exact h
   ·exact absurd (hbb.2 h) (by simpa using htw)
  apply W.sk
  apply W.seq
  apply W.sr
  apply old; rfl; rfl; exact .head _; rfl; rfl
  refine OL.callE (α := Nat × World) (fun z => .pointer (some ⟨z.1, 0, none⟩)) (fun z => TrO z.2 (low z.2) (grow e (e.length - 1)) z.1 ∧ w.heap.size ≤ z.2.heap.size) (fun z => Cls [] [z.2, w]) rfl rfl (by exact Args.au) (fun w2 hw2 => (Grow_calls es q cap w2 (he.at hw2 (by exact mau) (fun k hk => by exact NotOwned.au)) hl4' (by omega) (by rw [hee]; exact htok.tree.down) hlim (fun p hp => (hzero p hp).2)).mono (fun e1 w3 ⟨b, h1, h2, h3⟩ => ⟨(b, w3), h1, ⟨by rw [hee, ← hel] at h3; exact h3, Nat.le_trans (hw2.kp w (by exact mau)).size h2.size⟩, ((hw2.ext h2).thin (by exact Thin.au)).note⟩)) ?_
  rintro ⟨bt, w3⟩ ⟨htr, hsz3⟩
  simp only at htr hsz3 ⊢
  refine OL.callE (α := List Int × Option Addr × Nat × World) (fun z => .slice z.2.1 z.1.length z.2.2.1) (fun z => z.1.length ≤ 1000000 ∧ (∀ n, n ∈ z.1 ↔ n ∈ fv (grow e (e.length - 1)) []) ∧ IntsO z.2.2.2 (low z.2.2.2) z.1 z.2.1 ∧ w.heap.size ≤ z.2.2.2.heap.size) (fun z => Cls [] [z.2.2.2, w]) rfl rfl (by exact Args.au) (fun w2 hw2 => (FreeOf_calls (grow e (e.length - 1)) bt (e.map Ex.n) w2 (htr.at hw2 (by exact mau) (fun k hk => NotOwned.nil)) (by have := htok.high; omega) (fv_names htok) (by rw [List.length_map]; omega)).mono (fun e1 w4 ⟨l, qf, c, h1, h2, h3, h4, h5, h6, h7, h8⟩ => ⟨(l, qf, c, w4), h1, ⟨h2, h6, h7, Nat.le_trans (hw2.kp w (by exact mau)).size h8.size⟩, (((hw2.ext h8).forget (by simp)).note)⟩)) ?_
  rintro ⟨l, qf, c, w4⟩ ⟨hll, hlm, hI, hsz4⟩
  simp only at hll hlm hI hsz4 ⊢
  apply oop; rfl; apply Pev.len_slice; rfl; exact yes; rfl
  apply omv; rfl; rfl
  apply OL.nx
  apply W.block
  refine W.loop (G := Nat) (fun i => i ≤ l.length ∧ ∀ n ∈ l.take i, n ∈ ps) (fun i => l.length - i)
   (fun i => [(1, true, .slice qp ps.length cp), (51, true, .slice qf l.length c), (52, true, .int .i64 (l.length : Int)), (53, true, .int .i64 (i : Int))])
   (fun i => Cls [] [w4, w]) 0 ⟨by omega, by simp⟩ (by exact Sub.au) (fun w' hw' => hw') ?_
  rintro i ⟨hi, hall2⟩
  apply W.sr
  apply obn; rfl; rfl; rfl; apply Bin.lss
  apply OL.nx
  apply W.seq
  (refine W.cnd (fun hlt2 => ?_) (fun hlt2 => ?_)) <;> (try (exfalso; first | omega | exact hlt2 trivial | contradiction))
  ·have hil : i < l.length := by omega
   obtain ⟨av, v, hqv, habv, hv, hcv⟩ := hI.get hil
   have habv : av.block < w4.heap.size := habv
   rw [hqv]
   apply W.sk
   apply W.sb
   apply W.sr
   apply oop; rfl; apply Pev.idx; rfl; exact yes; rfl; exact yes; rfl; rfl; intro hcond; omega
   apply oop; rfl; apply Pev.load_kept; rfl; exact yes; exact .head _; rfl; intro hcond; assumption; intro hcond; (rw [add_block]; assumption); intro hcond; exact NotOwned.au
   apply oas; rfl; rfl
   apply OL.nsr
   apply omv; rfl; rfl
   apply omv; rfl; rfl
   (((first | (with_reducible apply OL.op) | (with_reducible apply QL.op)); (exact Guard.au); rfl; rfl); (exact Pev.call rfl (by exact Args.au) (fun _ w2 hw2 => (IContains_calls qp cp ps v w2 (by omega) (hp.at hw2 (by exact mau) (fun k hk => NotOwned.nil))).mono (fun e w3 h => ⟨h.1, hw2.ext h.2⟩))))
   apply oop; rfl; apply Pev.not; rfl; exact yes
   apply OL.nx
   (refine W.cnd (fun hin => ?_) (fun hin => ?_)) <;> (try (exfalso; first | omega | exact hin trivial | contradiction))
   ·apply W.sr
    apply oas; rfl; rfl
    apply OL.nx
    refine W.rt ?_
    ((with_reducible apply At.fin1); rfl; rfl; intro w' hw')
    exact ⟨by rw [bodyE_free hte0 hall hnd ((hlm v).1 (List.mem_of_getElem? hv)) (by simpa using hin)], by (exact hw'.fr)⟩
   have hin' : v ∈ ps := by simpa using hin
   apply W.skip
   with_reducible apply At.in_normal
   with_reducible apply At.next
   apply W.reg
   apply obn; rfl; rfl; rfl; apply Bin.add_in; omega
   apply omv; rfl; rfl
   apply OL.nil
   refine At.again (i + 1) ⟨by omega, fun n hn => ?_⟩ (by omega) (by exact Sub.au) (fun w' hw' => hw')
   rw [List.take_add_one, hv] at hn
   simp at hn
   rcases hn with hn | rfl
   ·exact hall2 n hn
   ·exact hin'
  ·obtain rfl : i = l.length := by omega
   rw [List.take_length] at hall2
   refine W.xt ?_
   with_reducible apply At.next
   apply W.sr
   apply oas; rfl; rfl
   apply OL.nx
   apply W.ret
   ((with_reducible apply At.fin1); rfl; rfl; intro w' hw')
   exact ⟨by rw [bodyE_ok hte0 hall hnd fun n hn => hall2 n ((hlm n).2 hn)], by (exact hw'.fr)⟩
theorem Check_calls (es : List (Ex × ExY)) (q : Option Addr) (cap : Nat) (w : World) (he : Arr exR w (low w) es q) (hlen : es.length ≤ 9223372036854775807)
  (hg : 1 < w.heap.size) (hs : arityAt w) :
  Calls Tryd.prog 14 [.slice q es.length cap].toArray w fun e w' => e = .returned (.int .i64 (bodyE (es.map Prod.fst) [] false)) ∧ Ext w w' := by
 refine enter Tryd.func14 rfl Tryd.ntmps14 rfl (Cls.start w) ?_
 (simp only [argEnv, Nat.zero_add, Nat.reduceAdd])
 apply W.sr
 apply oas; rfl; rfl
 apply OL.nsr
 apply omv; rfl; rfl
 (((first | (with_reducible apply OL.op) | (with_reducible apply QL.op)); (exact Guard.au); rfl; rfl); (exact Pev.call rfl (by exact Args.au) (fun _ w2 hw2 => (Body_calls es q none cap 0 [] false w2 (he.at hw2 (by exact mau) (fun k hk => by exact NotOwned.au)) hlen IntsO.nil (by simp) (Nat.lt_of_lt_of_le hg (hw2.kp w (by exact mau)).size) (hs.at hg hw2 (by exact mau) (fun k hk => by exact NotOwned.au))).mono (fun e w3 h => ⟨h.1, hw2.ext h.2⟩))))
 apply oas; rfl; rfl
 apply OL.nx
 apply W.ret
 ((with_reducible apply At.fin1); rfl; rfl; intro w' hw')
 exact ⟨rfl, by (exact hw'.fr)⟩
end Go.Proofs.YtkpjndhgicbjjaaDoor.co

/- Plain: what a valid expression is. No program in sight. No condition. -/
namespace Go.Co
structure BodyOk (e : List Ex) (ps : List Int) (flat : Bool) : Prop where
 tree : TreeOk e
 one : ∀ x ∈ e, oneE e flat x = 0
 nd : (ps ++ e.flatMap bindersX).Nodup
 fr : ∀ n ∈ fv (grow e (e.length - 1)) [], n ∈ ps
theorem BodyOk.of {e : List Ex} {ps : List Int} {flat : Bool} (h : bodyE e ps flat = 0) : BodyOk e ps flat := by
 by_cases h1 : treeE e = 0
 ·by_cases h2 : firstE (oneE e flat) e = 0
  ·by_cases h3 : (ps ++ e.flatMap bindersX).Nodup
   ·refine ⟨treeE_ok0 h1, firstE_zero.1 h2, h3, fun n hn => ?_⟩
    by_cases hp : n ∈ ps
    ·exact hp
    ·rw [bodyE_free h1 h2 h3 hn hp] at h; cases h
   ·rw [bodyE_twice h1 h2 h3] at h; cases h
  ·rw [bodyE_one h1 h2] at h; exact absurd h h2
 ·rw [bodyE_tree h1] at h; exact absurd h h1
theorem BodyOk.node {e : List Ex} {ps : List Int} {flat : Bool} (h : BodyOk e ps flat) {x : Ex} (hx : x ∈ e) : nodeE e x = 0 ∧ flatBad flat x.op = false := by
 have h1 := h.one x hx
 unfold oneE at h1
 split at h1
 ·cases h1
 ·rename_i h2
  exact ⟨h1, by simpa using h2⟩
theorem BodyOk.kl {e : List Ex} {ps : List Int} {flat : Bool} (h : BodyOk e ps flat) {x : Ex} (hx : x ∈ e) : x.kids.length ≤ 4096 := by
 obtain ⟨i, hi⟩ := List.getElem?_of_mem hx
 have := kids_len h.tree.tree hi
 have := h.tree.len
 omega
theorem BodyOk.lim {e : List Ex} {ps : List Int} {flat : Bool} (h : BodyOk e ps flat) {x : Ex} (hx : x ∈ e) : Lim x := by
 obtain ⟨h3, h4⟩ := nodeE_zero (h.node hx).1
 exact lim_of h3 h4 (h.kl hx)
theorem BodyOk.mk2 {e : List Ex} {ps : List Int} {flat : Bool} (h : treeE e = 0) (h2 : ∀ x ∈ e, oneE e flat x = 0) (h3 : (ps ++ e.flatMap bindersX).Nodup) (h5 : ∀ n ∈ fv (grow e (e.length - 1)) [], n ∈ ps) : bodyE e ps flat = 0 :=
 bodyE_ok h (firstE_zero.2 h2) h3 h5
theorem tszs_take_le {ts : List Tr} {i : Nat} : tszs (ts.take i) ≤ tszs ts := by
 induction ts generalizing i with
 | nil => simp
 | cons u r ih =>
  cases i with
  | zero => simp [tszs]
  | succ i =>
   have := ih (i := i)
   simp only [List.take_succ_cons, tszs]
   omega
theorem tszs_take_succ {ts : List Tr} {i : Nat} {t : Tr} (h : ts[i]? = some t) : tszs (ts.take (i + 1)) = tszs (ts.take i) + tsz t := by
 induction ts generalizing i with
 | nil => simp at h
 | cons u r ih =>
  cases i with
  | zero => simp at h; subst h; simp [tszs]
  | succ i =>
   have := ih (i := i) (by simpa using h)
   simp only [List.take_succ_cons, tszs]
   omega
end Go.Co

/- Plain: what the reference's checks of a core expression's nodes compute, and that it is what core's own checks compute. No program in sight. No condition. -/
namespace Go.Co
def kidsR (x : Ex) : Int × Bool :=
 if x.op = 0 ∨ x.op = 1 ∨ x.op = 17 then (0, true)
 else if x.op = 2 then (1, false)
 else if x.op = 4 then (2, false)
 else if x.op = 3 then (((max x.kids.length 1 : Nat) : Int), false)
 else if x.op = 5 then ((x.binds.length : Int) + 1, false)
 else if x.op = 7 ∨ x.op = 13 then ((x.alts.length : Int) + 1, false)
 else if x.op = 9 then ((x.binds.length : Int), false)
 else if x.op = 10 ∨ x.op = 12 ∨ x.op = 16 then (1, true)
 else if x.op = 11 then (2, true)
 else if x.op = 6 ∨ x.op = 14 ∨ x.op = 15 then ((x.kids.length : Int), true)
 else if x.op = 8 then (if x.n = 7 ∨ x.n = 9 then (1, true) else if x.n = 11 then (3, true) else if 0 ≤ x.n ∧ x.n < 11 then (2, true) else (-1, false))
 else (-1, false)
def altR1 (x : Ex) (i : Nat) (a : Al) : Bool :=
 !((x.alts.take i).any fun b => decide (b.tag = a.tag)) && !decide (a.tag < -1) && !(decide (x.op = 7) && decide (a.tag = -1) && (decide (i + 1 < x.alts.length) || !decide (a.binds.length = 0)))
  && !(decide (x.op = 13) && (decide (i = 0) && (!decide (a.tag = -1) || !decide (a.binds.length = 1)) || decide (0 < i) && (decide (a.tag < 0) || !decide (a.binds.length = 2))))
def altsR1 (x : Ex) : Bool := (List.range x.alts.length).all fun i => altR1 x i (x.alts.getD i ⟨0, []⟩)
def altsR (x : Ex) : Bool := if ¬ x.op = 7 ∧ ¬ x.op = 13 then decide (x.alts.length = 0) else altsR1 x && (decide (x.op = 7) || decide (0 < x.alts.length))
def bindsR (x : Ex) : Bool := if x.op = 2 ∨ x.op = 9 then true else if x.op = 4 then decide (x.binds.length = 1) else if x.op = 5 then decide (0 < x.binds.length) else decide (x.binds.length = 0)
def formR (x : Ex) : Bool := decide ((kidsR x).1 = (x.kids.length : Int)) && ((kidsR x).2 || decide (x.n = 0)) && altsR x && bindsR x
theorem altR1_eq (x : Ex) (i : Nat) (a : Al) : altR1 x i a = altOk x i a := by
 unfold altR1 altOk
 generalize (x.alts.take i).any (fun b => decide (b.tag = a.tag)) = c
 generalize x.alts.length = m
 generalize a.binds.length = b
 generalize a.tag = t
 generalize x.op = o
 rw [Bool.eq_iff_iff]
 simp only [Bool.and_eq_true, Bool.not_eq_true', Bool.or_eq_false_iff, Bool.and_eq_false_iff, decide_eq_true_eq, decide_eq_false_iff_not, Bool.not_eq_false', beq_eq_false_iff_ne, beq_iff_eq, Bool.not_eq_true, ne_eq, decide_eq_decide]
 constructor
 ·rintro ⟨⟨⟨h1, h2⟩, h3⟩, h4⟩
  refine ⟨⟨⟨⟨h1, by omega⟩, by omega⟩, by omega⟩, by omega⟩
 ·rintro ⟨⟨⟨⟨h1, h2⟩, h3⟩, h4⟩, h5⟩
  refine ⟨⟨⟨h1, by omega⟩, by omega⟩, ?_⟩
  by_cases h : o = 13
  ·right
   have e4 : i = 0 ↔ t = -1 := by omega
   have e5 : b = min (i + 1) 2 := by omega
   omega
  ·exact .inl h
theorem altsR_eq (x : Ex) (h : x.op = 7 ∨ x.op = 13) : altsR x = (altsOk x && (decide (x.op = 7) || decide (0 < x.alts.length))) := by
 unfold altsR altsR1 altsOk
 rw [if_neg (by omega)]
 congr 2
 funext i
 exact altR1_eq x i _
theorem formR_eq (x : Ex) : formR x = shapeB x := by
 unfold formR shapeB
 by_cases h : x.op = 7 ∨ x.op = 13
 ·rw [if_pos h, altsR_eq x h]
  unfold altsB
  have hk : kidsR x = ((x.alts.length : Int) + 1, false) := by unfold kidsR; rcases h with h | h <;> simp [h]
  have hb : bindsR x = decide (x.binds.length = 0) := by unfold bindsR; rcases h with h | h <;> simp [h]
  rw [hk, hb]
  generalize altsOk x = a
  rw [Bool.eq_iff_iff]
  simp only [Bool.and_eq_true, decide_eq_true_eq, Bool.or_eq_true, Bool.false_eq_true, false_or]
  constructor
  ·rintro ⟨⟨⟨h1, h2⟩, h3, h4⟩, h5⟩
   exact ⟨⟨⟨⟨h3, by omega⟩, h4⟩, h5⟩, h2⟩
  ·rintro ⟨⟨⟨⟨h3, h1⟩, h4⟩, h5⟩, h2⟩
   exact ⟨⟨⟨by omega, h2⟩, h3, h4⟩, h5⟩
 ·rw [if_neg h]
  have ha : altsR x = decide (x.alts.length = 0) := by unfold altsR; rw [if_pos (by omega)]
  rw [ha]
  unfold kidsR bindsR sh primN
  generalize x.alts.length = al
  generalize x.binds.length = bl
  generalize x.kids.length = kl
  generalize x.n = n
  generalize x.op = op at h ⊢
  rw [Bool.eq_iff_iff]
  by_cases e1 : op = 0 ∨ op = 1 ∨ op = 17
  ·rcases e1 with e | e | e <;> simp [e] <;> omega
  by_cases e2 : op = 2
  ·simp [e2]; first | done | omega
  by_cases e3 : op = 3
  ·simp [e3]; first | done | omega
  by_cases e4 : op = 4
  ·simp [e4]; first | done | omega
  by_cases e5 : op = 5
  ·simp [e5]; first | done | omega
  by_cases e6 : op = 6 ∨ op = 14 ∨ op = 15
  ·rcases e6 with e | e | e <;> simp [e] <;> omega
  by_cases e7 : op = 9
  ·simp [e7]; first | done | omega
  by_cases e8 : op = 10 ∨ op = 12 ∨ op = 16
  ·rcases e8 with e | e | e <;> simp [e] <;> omega
  by_cases e9 : op = 11
  ·simp [e9]; first | done | omega
  by_cases e10 : op = 8
  ·by_cases f1 : n = 7 ∨ n = 9
   ·rcases f1 with f | f <;> simp [e10, f] <;> omega
   by_cases f2 : n = 11
   ·simp [e10, f2]; first | done | omega
   by_cases f3 : 0 ≤ n ∧ n < 11
   ·have f4 : 0 ≤ n ∧ n ≤ 11 := by omega
    simp [e10, f1, f2, f3, f4]; first | done | omega
   ·have f4 : ¬ (0 ≤ n ∧ n ≤ 11) := by omega
    simp [e10, f1, f2, f3, f4]; first | done | omega
  ·simp [e1, e2, e3, e4, e5, e6, e7, e8, e9, e10, h]; first | done | omega
def altW (l : List Al) : Nat := l.foldl (fun m a => max m a.binds.length) 0
def numE (x : Ex) : Int :=
 if rangesOk x = false then 4
 else if (x.op = 2 ∧ 6 < x.binds.length) ∨ (x.op = 3 ∧ 7 < x.kids.length) ∨ (x.op = 14 ∧ 6 < x.kids.length) ∨ ((x.op = 6 ∨ x.op = 15) ∧ 16 < x.kids.length) ∨ 16 < x.binds.length ∨ 16 < altW x.alts then 2 else 0
theorem foldl_max (l : List Al) : ∀ (m : Nat), l.foldl (fun m a => max m a.binds.length) m = max m (l.foldl (fun m a => max m a.binds.length) 0) := by
 induction l with
 | nil => intro m; simp
 | cons a r ih =>
  intro m
  rw [List.foldl_cons, List.foldl_cons, ih, ih (max 0 a.binds.length)]
  omega
theorem numE_eq {x : Ex} (h : shapeB x = true) : numE x = rangesE x := by
 unfold numE rangesE
 by_cases h1 : rangesOk x = false
 ·rw [if_pos h1, if_pos h1]
 ·rw [if_neg h1, if_neg h1]
  have hw : wide x = max x.binds.length (altW x.alts) := foldl_max _ _
  rw [hw]
  have h2 : x.op = 2 → altW x.alts = 0 := fun h2 => by
   unfold shapeB sh at h
   simp [h2] at h
   unfold altW
   rw [h.1.2]
   rfl
  obtain ⟨f, hf⟩ : ∃ f, f = altW x.alts := ⟨_, rfl⟩
  rw [← hf] at h2 ⊢
  have hm : ∀ k, k < max x.binds.length f ↔ k < x.binds.length ∨ k < f := fun k => by rw [Nat.max_def]; split <;> omega
  congr 1
  apply propext
  simp only [hm]
  by_cases e : x.op = 2
  ·have := h2 e
   have e2 : (if x.op = 2 then 6 else 16) = 6 := if_pos e
   simp only [e2]
   omega
  ·have e2 : (if x.op = 2 then 6 else 16) = 16 := if_neg e
   simp only [e2]
   omega
def oneR (e : List Ex) (flat : Bool) (x : Ex) : Int :=
 if (!flatBad flat x.op && formR x) = false then 3 else if ¬ numE x = 0 then numE x else if kidsB e x = false then 3 else 0
theorem oneR_eq (e : List Ex) (flat : Bool) (x : Ex) : oneR e flat x = if flatBad flat x.op then 3 else nodeE e x := by
 unfold oneR nodeE
 cases hb : flatBad flat x.op
 ·rw [formR_eq]
  simp only [Bool.not_false, Bool.true_and, Bool.false_eq_true, if_false]
  by_cases hs : shapeB x = false
  ·rw [if_pos hs, if_pos hs]
  ·rw [if_neg hs, if_neg hs, numE_eq (by simpa using hs)]
 ·simp
end Go.Co

/- The walks of the reference's inside, kidsOf, goodAlts, goodForm, goodKids. Conditions: none. (Printed by cra.py.) -/
namespace Go.Proofs.YtkpjndhgicbjjaaDoor.co
open Go.RowKit Go.Eng Go.Co
set_option maxRecDepth 100000
theorem inside_calls (n lo hi : Int) (w : World) : Calls Tryd.prog 53 [.int .i64 n, .int .i64 lo, .int .i64 hi].toArray w fun e w' => e = .returned (.bool (decide (lo ≤ n) && decide (n ≤ hi))) ∧ Ext w w' := by
 refine enter Tryd.func53 rfl Tryd.ntmps53 rfl (Cls.start w) ?_
 (simp only [argEnv, Nat.zero_add, Nat.reduceAdd])
 apply W.sr
 apply oas; rfl; rfl
 apply OL.nsr
 apply omv; rfl; rfl
 apply omv; rfl; rfl
 apply obn; rfl; rfl; rfl; apply Bin.geq
 apply omv; rfl; rfl
 apply oy; rfl; rfl; rfl; apply Pev.move; rfl; exact yes
 apply oy; rfl; rfl; rfl; apply Pev.move; rfl; exact yes
 apply oy; rfl; rfl; rfl; apply Pev.bin; rfl; exact fun h => h; rfl; exact fun h => h; intro hcond; apply Bin.leq
 apply oop; rfl; apply Pev.pick_and; rfl; exact yes; rfl; exact fun h => h
 apply oas; rfl; rfl
 apply OL.nx
 apply W.ret
 ((with_reducible apply At.fin1); rfl; rfl; intro w' hw')
 exact ⟨by simp, by (exact hw'.fr)⟩
theorem kidsOf_calls (x : Ex) (y : ExY) (w : World) (h : ExOk w (low w) x y) :
  Calls Tryd.prog 51 [.agg (exC x y).toArray].toArray w fun e w' => e = .returned (.tuple #[.int .i64 (kidsR x).1, .bool (kidsR x).2]) ∧ Ext w w' := by
 have hal := h.al
 have hkl := h.kl
 have hbl := h.bl
 refine enter Tryd.func51 rfl Tryd.ntmps51 rfl (Cls.start w) ?_
 (simp only [argEnv, Nat.zero_add, Nat.reduceAdd])
 simp only [exC]
 apply W.sr
 apply OL.box; rfl; rfl; exact CellsL.agg; (intro bk hbk; simp only [AllLe, and_true] at hbk)
 apply oas; rfl; rfl
 apply oas; rfl; rfl
 apply OL.nx
 apply W.seq
 apply W.sr
 apply ofa; rfl; rfl; rfl
 apply old; rfl; rfl; exact .head _; rfl; rfl
 apply OL.nx
 refine W.joinx (G := Unit) (fun _ => kidsR x = (-1, false)) (fun _ => []) (fun _ => Cls [blk bk 43 [.int .i64 x.op, .int .i64 x.n, .slice y.b.1 x.binds.length y.b.2, .slice y.k.1 x.kids.length y.k.2, .slice y.a.1 x.alts.length y.a.2]] [w]) ?_ ?_
 ·skip
  apply W.block
  apply W.seq
  apply W.sr
  apply obn; rfl; rfl; rfl; apply Bin.eql
  apply oas; rfl; rfl
  apply OL.nx
  (refine W.cnd (fun k1 => ?_) (fun k1 => ?_)) <;> (try (exfalso; first | omega | exact k1 trivial | contradiction))
  ·apply W.sk
   (refine W.cnd (fun kb1 => ?_) (fun kb1 => ?_)) <;> (try (exfalso; first | omega | exact kb1 trivial | contradiction))
   apply W.sr
   apply oas; rfl; rfl
   apply oas; rfl; rfl
   apply OL.nx
   refine W.rt ?_
   ((with_reducible apply At.fin2); rfl; rfl; rfl; intro w' hw')
   have hk : kidsR x = (0, true) := by unfold kidsR; grind
   exact ⟨by rw [hk], by (exact hw'.fr)⟩
  apply W.sr
  apply obn; rfl; rfl; rfl; apply Bin.eql
  apply oas; rfl; rfl
  apply OL.nx
  (refine W.cnd (fun k2 => ?_) (fun k2 => ?_)) <;> (try (exfalso; first | omega | exact k2 trivial | contradiction))
  ·apply W.sk
   (refine W.cnd (fun kb2 => ?_) (fun kb2 => ?_)) <;> (try (exfalso; first | omega | exact kb2 trivial | contradiction))
   apply W.sr
   apply oas; rfl; rfl
   apply oas; rfl; rfl
   apply OL.nx
   refine W.rt ?_
   ((with_reducible apply At.fin2); rfl; rfl; rfl; intro w' hw')
   have hk : kidsR x = (0, true) := by unfold kidsR; grind
   exact ⟨by rw [hk], by (exact hw'.fr)⟩
  apply W.reg
  apply obn; rfl; rfl; rfl; apply Bin.eql
  apply oas; rfl; rfl
  apply OL.nx
  (refine W.cnd (fun k3 => ?_) (fun k3 => ?_)) <;> (try (exfalso; first | omega | exact k3 trivial | contradiction))
  ·apply W.sr
   apply oas; rfl; rfl
   apply oas; rfl; rfl
   apply OL.nx
   refine W.rt ?_
   ((with_reducible apply At.fin2); rfl; rfl; rfl; intro w' hw')
   have hk : kidsR x = (0, true) := by unfold kidsR; grind
   exact ⟨by rw [hk], by (exact hw'.fr)⟩
  apply W.sr
  apply obn; rfl; rfl; rfl; apply Bin.eql
  apply oas; rfl; rfl
  apply OL.nx
  (refine W.cnd (fun k4 => ?_) (fun k4 => ?_)) <;> (try (exfalso; first | omega | exact k4 trivial | contradiction))
  ·apply W.sr
   apply oas; rfl; rfl
   apply oas; rfl; rfl
   apply OL.nx
   refine W.rt ?_
   ((with_reducible apply At.fin2); rfl; rfl; rfl; intro w' hw')
   have hk : kidsR x = (1, false) := by unfold kidsR; grind
   exact ⟨by rw [hk], by (exact hw'.fr)⟩
  apply W.sr
  apply obn; rfl; rfl; rfl; apply Bin.eql
  apply oas; rfl; rfl
  apply OL.nx
  (refine W.cnd (fun k5 => ?_) (fun k5 => ?_)) <;> (try (exfalso; first | omega | exact k5 trivial | contradiction))
  ·apply W.sr
   apply oas; rfl; rfl
   apply oas; rfl; rfl
   apply OL.nx
   refine W.rt ?_
   ((with_reducible apply At.fin2); rfl; rfl; rfl; intro w' hw')
   have hk : kidsR x = (2, false) := by unfold kidsR; grind
   exact ⟨by rw [hk], by (exact hw'.fr)⟩
  apply W.sr
  apply obn; rfl; rfl; rfl; apply Bin.eql
  apply oas; rfl; rfl
  apply OL.nx
  (refine W.cnd (fun k6 => ?_) (fun k6 => ?_)) <;> (try (exfalso; first | omega | exact k6 trivial | contradiction))
  ·apply W.sr
   apply ofa; rfl; rfl; rfl
   apply old; rfl; rfl; exact .head _; rfl; rfl
   apply oop; rfl; apply Pev.len_slice; rfl; exact yes; rfl
   apply oop; rfl; apply Pev.max2; rfl; exact yes; rfl; exact yes
   apply oas; rfl; rfl
   apply oas; rfl; rfl
   apply OL.nx
   refine W.rt ?_
   have em : (if (1 : Int) < (x.kids.length : Int) then (x.kids.length : Int) else 1) = ((max x.kids.length 1 : Nat) : Int) := by rw [Nat.max_def]; split <;> split <;> omega
   have em2 : (if (x.kids.length : Int) < (1 : Int) then (1 : Int) else (x.kids.length : Int)) = ((max x.kids.length 1 : Nat) : Int) := by rw [Nat.max_def]; split <;> split <;> omega
   first | rw [em] | rw [em2]
   skip
   ((with_reducible apply At.fin2); rfl; rfl; rfl; intro w' hw')
   have hk : kidsR x = (((max x.kids.length 1 : Nat) : Int), false) := by unfold kidsR; grind
   exact ⟨by rw [hk], by (exact hw'.fr)⟩
  apply W.sr
  apply obn; rfl; rfl; rfl; apply Bin.eql
  apply oas; rfl; rfl
  apply OL.nx
  (refine W.cnd (fun k7 => ?_) (fun k7 => ?_)) <;> (try (exfalso; first | omega | exact k7 trivial | contradiction))
  ·apply W.sr
   apply ofa; rfl; rfl; rfl
   apply old; rfl; rfl; exact .head _; rfl; rfl
   apply oop; rfl; apply Pev.len_slice; rfl; exact yes; rfl
   apply obn; rfl; rfl; rfl; apply Bin.add_in; omega
   apply oas; rfl; rfl
   apply oas; rfl; rfl
   apply OL.nx
   refine W.rt ?_
   ((with_reducible apply At.fin2); rfl; rfl; rfl; intro w' hw')
   have hk : kidsR x = ((x.binds.length : Int) + 1, false) := by unfold kidsR; grind
   exact ⟨by rw [hk], by (exact hw'.fr)⟩
  apply W.seq
  apply W.sr
  apply obn; rfl; rfl; rfl; apply Bin.eql
  apply oas; rfl; rfl
  apply OL.nx
  (refine W.cnd (fun k8 => ?_) (fun k8 => ?_)) <;> (try (exfalso; first | omega | exact k8 trivial | contradiction))
  ·apply W.sk
   (refine W.cnd (fun kb8 => ?_) (fun kb8 => ?_)) <;> (try (exfalso; first | omega | exact kb8 trivial | contradiction))
   apply W.sr
   apply ofa; rfl; rfl; rfl
   apply old; rfl; rfl; exact .head _; rfl; rfl
   apply oop; rfl; apply Pev.len_slice; rfl; exact yes; rfl
   apply obn; rfl; rfl; rfl; apply Bin.add_in; omega
   apply oas; rfl; rfl
   apply oas; rfl; rfl
   apply OL.nx
   refine W.rt ?_
   ((with_reducible apply At.fin2); rfl; rfl; rfl; intro w' hw')
   have hk : kidsR x = ((x.alts.length : Int) + 1, false) := by unfold kidsR; grind
   exact ⟨by rw [hk], by (exact hw'.fr)⟩
  apply W.reg
  apply obn; rfl; rfl; rfl; apply Bin.eql
  apply oas; rfl; rfl
  apply OL.nx
  (refine W.cnd (fun k9 => ?_) (fun k9 => ?_)) <;> (try (exfalso; first | omega | exact k9 trivial | contradiction))
  ·apply W.sr
   apply ofa; rfl; rfl; rfl
   apply old; rfl; rfl; exact .head _; rfl; rfl
   apply oop; rfl; apply Pev.len_slice; rfl; exact yes; rfl
   apply obn; rfl; rfl; rfl; apply Bin.add_in; omega
   apply oas; rfl; rfl
   apply oas; rfl; rfl
   apply OL.nx
   refine W.rt ?_
   ((with_reducible apply At.fin2); rfl; rfl; rfl; intro w' hw')
   have hk : kidsR x = ((x.alts.length : Int) + 1, false) := by unfold kidsR; grind
   exact ⟨by rw [hk], by (exact hw'.fr)⟩
  apply W.sr
  apply obn; rfl; rfl; rfl; apply Bin.eql
  apply oas; rfl; rfl
  apply OL.nx
  (refine W.cnd (fun k10 => ?_) (fun k10 => ?_)) <;> (try (exfalso; first | omega | exact k10 trivial | contradiction))
  ·apply W.sr
   apply ofa; rfl; rfl; rfl
   apply old; rfl; rfl; exact .head _; rfl; rfl
   apply oop; rfl; apply Pev.len_slice; rfl; exact yes; rfl
   apply oas; rfl; rfl
   apply oas; rfl; rfl
   apply OL.nx
   refine W.rt ?_
   ((with_reducible apply At.fin2); rfl; rfl; rfl; intro w' hw')
   have hk : kidsR x = ((x.binds.length : Int), false) := by unfold kidsR; grind
   exact ⟨by rw [hk], by (exact hw'.fr)⟩
  apply W.seq
  apply W.sr
  apply obn; rfl; rfl; rfl; apply Bin.eql
  apply oas; rfl; rfl
  apply OL.nx
  (refine W.cnd (fun k11 => ?_) (fun k11 => ?_)) <;> (try (exfalso; first | omega | exact k11 trivial | contradiction))
  ·apply W.sk
   (refine W.cnd (fun kb11 => ?_) (fun kb11 => ?_)) <;> (try (exfalso; first | omega | exact kb11 trivial | contradiction))
   apply W.sr
   apply oas; rfl; rfl
   apply oas; rfl; rfl
   apply OL.nx
   refine W.rt ?_
   ((with_reducible apply At.fin2); rfl; rfl; rfl; intro w' hw')
   have hk : kidsR x = (1, true) := by unfold kidsR; grind
   exact ⟨by rw [hk], by (exact hw'.fr)⟩
  apply W.sr
  apply obn; rfl; rfl; rfl; apply Bin.eql
  apply oas; rfl; rfl
  apply OL.nx
  (refine W.cnd (fun k12 => ?_) (fun k12 => ?_)) <;> (try (exfalso; first | omega | exact k12 trivial | contradiction))
  ·apply W.sk
   (refine W.cnd (fun kb12 => ?_) (fun kb12 => ?_)) <;> (try (exfalso; first | omega | exact kb12 trivial | contradiction))
   apply W.sr
   apply oas; rfl; rfl
   apply oas; rfl; rfl
   apply OL.nx
   refine W.rt ?_
   ((with_reducible apply At.fin2); rfl; rfl; rfl; intro w' hw')
   have hk : kidsR x = (1, true) := by unfold kidsR; grind
   exact ⟨by rw [hk], by (exact hw'.fr)⟩
  apply W.reg
  apply obn; rfl; rfl; rfl; apply Bin.eql
  apply oas; rfl; rfl
  apply OL.nx
  (refine W.cnd (fun k13 => ?_) (fun k13 => ?_)) <;> (try (exfalso; first | omega | exact k13 trivial | contradiction))
  ·apply W.sr
   apply oas; rfl; rfl
   apply oas; rfl; rfl
   apply OL.nx
   refine W.rt ?_
   ((with_reducible apply At.fin2); rfl; rfl; rfl; intro w' hw')
   have hk : kidsR x = (1, true) := by unfold kidsR; grind
   exact ⟨by rw [hk], by (exact hw'.fr)⟩
  apply W.sr
  apply obn; rfl; rfl; rfl; apply Bin.eql
  apply oas; rfl; rfl
  apply OL.nx
  (refine W.cnd (fun k14 => ?_) (fun k14 => ?_)) <;> (try (exfalso; first | omega | exact k14 trivial | contradiction))
  ·apply W.sr
   apply oas; rfl; rfl
   apply oas; rfl; rfl
   apply OL.nx
   refine W.rt ?_
   ((with_reducible apply At.fin2); rfl; rfl; rfl; intro w' hw')
   have hk : kidsR x = (2, true) := by unfold kidsR; grind
   exact ⟨by rw [hk], by (exact hw'.fr)⟩
  apply W.seq
  apply W.sr
  apply obn; rfl; rfl; rfl; apply Bin.eql
  apply oas; rfl; rfl
  apply OL.nx
  (refine W.cnd (fun k15 => ?_) (fun k15 => ?_)) <;> (try (exfalso; first | omega | exact k15 trivial | contradiction))
  ·apply W.sk
   (refine W.cnd (fun kb15 => ?_) (fun kb15 => ?_)) <;> (try (exfalso; first | omega | exact kb15 trivial | contradiction))
   apply W.sr
   apply ofa; rfl; rfl; rfl
   apply old; rfl; rfl; exact .head _; rfl; rfl
   apply oop; rfl; apply Pev.len_slice; rfl; exact yes; rfl
   apply oas; rfl; rfl
   apply oas; rfl; rfl
   apply OL.nx
   refine W.rt ?_
   ((with_reducible apply At.fin2); rfl; rfl; rfl; intro w' hw')
   have hk : kidsR x = ((x.kids.length : Int), true) := by unfold kidsR; grind
   exact ⟨by rw [hk], by (exact hw'.fr)⟩
  apply W.sr
  apply obn; rfl; rfl; rfl; apply Bin.eql
  apply oas; rfl; rfl
  apply OL.nx
  (refine W.cnd (fun k16 => ?_) (fun k16 => ?_)) <;> (try (exfalso; first | omega | exact k16 trivial | contradiction))
  ·apply W.sk
   (refine W.cnd (fun kb16 => ?_) (fun kb16 => ?_)) <;> (try (exfalso; first | omega | exact kb16 trivial | contradiction))
   apply W.sr
   apply ofa; rfl; rfl; rfl
   apply old; rfl; rfl; exact .head _; rfl; rfl
   apply oop; rfl; apply Pev.len_slice; rfl; exact yes; rfl
   apply oas; rfl; rfl
   apply oas; rfl; rfl
   apply OL.nx
   refine W.rt ?_
   ((with_reducible apply At.fin2); rfl; rfl; rfl; intro w' hw')
   have hk : kidsR x = ((x.kids.length : Int), true) := by unfold kidsR; grind
   exact ⟨by rw [hk], by (exact hw'.fr)⟩
  apply W.reg
  apply obn; rfl; rfl; rfl; apply Bin.eql
  apply oas; rfl; rfl
  apply OL.nx
  (refine W.cnd (fun k17 => ?_) (fun k17 => ?_)) <;> (try (exfalso; first | omega | exact k17 trivial | contradiction))
  ·apply W.sr
   apply ofa; rfl; rfl; rfl
   apply old; rfl; rfl; exact .head _; rfl; rfl
   apply oop; rfl; apply Pev.len_slice; rfl; exact yes; rfl
   apply oas; rfl; rfl
   apply oas; rfl; rfl
   apply OL.nx
   refine W.rt ?_
   ((with_reducible apply At.fin2); rfl; rfl; rfl; intro w' hw')
   have hk : kidsR x = ((x.kids.length : Int), true) := by unfold kidsR; grind
   exact ⟨by rw [hk], by (exact hw'.fr)⟩
  apply W.sr
  apply obn; rfl; rfl; rfl; apply Bin.eql
  apply oas; rfl; rfl
  apply OL.nx
  (refine W.cnd (fun k18 => ?_) (fun k18 => ?_)) <;> (try (exfalso; first | omega | exact k18 trivial | contradiction))
  ·apply W.seq
   apply W.sr
   apply ofa; rfl; rfl; rfl
   apply old; rfl; rfl; exact .head _; rfl; rfl
   apply obn; rfl; rfl; rfl; apply Bin.eql
   apply omv; rfl; rfl
   apply ono; rfl; rfl; rfl; apply Pev.fld; rfl; exact yes; rfl
   apply ono; rfl; rfl; rfl; apply Pev.load_blk; rfl; exact fun h => h; exact .head _; rfl; rfl
   apply ono; rfl; rfl; rfl; apply Pev.bin; rfl; exact fun h => h; rfl; exact yes; intro hcond; apply Bin.eql
   apply oop; rfl; apply Pev.pick_or; rfl; exact yes; rfl; exact fun h => h
   apply OL.nx
   (refine W.cnd (fun p1 => ?_) (fun p1 => ?_)) <;> (try (exfalso; first | omega | exact p1 trivial | contradiction))
   ·apply W.sr
    apply oas; rfl; rfl
    apply oas; rfl; rfl
    apply OL.nx
    refine W.rt ?_
    ((with_reducible apply At.fin2); rfl; rfl; rfl; intro w' hw')
    have hk : kidsR x = (1, true) := by unfold kidsR; grind
    exact ⟨by rw [hk], by (exact hw'.fr)⟩
   apply W.sk
   apply W.seq
   apply W.sr
   apply ofa; rfl; rfl; rfl
   apply old; rfl; rfl; exact .head _; rfl; rfl
   apply obn; rfl; rfl; rfl; apply Bin.eql
   apply OL.nx
   (refine W.cnd (fun p2 => ?_) (fun p2 => ?_)) <;> (try (exfalso; first | omega | exact p2 trivial | contradiction))
   ·apply W.sr
    apply oas; rfl; rfl
    apply oas; rfl; rfl
    apply OL.nx
    refine W.rt ?_
    ((with_reducible apply At.fin2); rfl; rfl; rfl; intro w' hw')
    have hk : kidsR x = (3, true) := by unfold kidsR; grind
    exact ⟨by rw [hk], by (exact hw'.fr)⟩
   apply W.sk
   apply W.sr
   apply ofa; rfl; rfl; rfl
   apply old; rfl; rfl; exact .head _; rfl; rfl
   apply obn; rfl; rfl; rfl; apply Bin.geq
   apply omv; rfl; rfl
   apply oy; rfl; rfl; rfl; apply Pev.fld; rfl; exact yes; rfl
   apply oy; rfl; rfl; rfl; apply Pev.load_blk; rfl; exact fun h => h; exact .head _; rfl; rfl
   apply oy; rfl; rfl; rfl; apply Pev.bin; rfl; exact fun h => h; rfl; exact yes; intro hcond; apply Bin.lss
   apply oop; rfl; apply Pev.pick_and; rfl; exact yes; rfl; exact fun h => h
   apply OL.nx
   (refine W.cnd (fun p3 => ?_) (fun p3 => ?_)) <;> (try (exfalso; first | omega | exact p3 trivial | contradiction))
   ·apply W.sr
    apply oas; rfl; rfl
    apply oas; rfl; rfl
    apply OL.nx
    refine W.rt ?_
    ((with_reducible apply At.fin2); rfl; rfl; rfl; intro w' hw')
    have hk : kidsR x = (2, true) := by unfold kidsR; grind
    exact ⟨by rw [hk], by (exact hw'.fr)⟩
   apply W.skip
   with_reducible apply At.in_normal
   exact At.joinedx () (by unfold kidsR; grind) (by exact Sub.au) (fun w' hw' => hw')
  apply W.skip
  with_reducible apply At.in_normal
  exact At.joinedx () (by unfold kidsR; grind) (by exact Sub.au) (fun w' hw' => hw')
 ·rintro - hk
  apply W.sr
  apply oas; rfl; rfl
  apply oas; rfl; rfl
  apply OL.nx
  apply W.ret
  ((with_reducible apply At.fin2); rfl; rfl; rfl; intro w' hw')
  exact ⟨by rw [hk], by (exact hw'.fr)⟩
theorem any_take_succ {l : List Al} {k : Nat} {a : Al} {f : Al → Bool} (h : l[k]? = some a) : (l.take (k + 1)).any f = ((l.take k).any f || f a) := by
 rw [List.take_add_one, h]
 simp
theorem any_take_true {l : List Al} {i k : Nat} {a : Al} {f : Al → Bool} (h : l[k]? = some a) (hk : k < i) (hf : f a = true) : (l.take i).any f = true := by
 rw [List.any_eq_true]
 exact ⟨a, List.mem_of_getElem? (i := k) (by rw [List.getElem?_take_of_lt hk]; exact h), hf⟩
theorem goodAlts_calls (x : Ex) (y : ExY) (w : World) (h : ExOk w (low w) x y) :
  Calls Tryd.prog 52 [.agg (exC x y).toArray].toArray w fun e w' => e = .returned (.bool (altsR x)) ∧ Ext w w' := by
 obtain ⟨ps, hps, harr⟩ := h.alts
 have hpl : x.alts.length = ps.length := by rw [← hps, List.length_map]
 have hal := h.al
 have hac := h.ac
 refine enter Tryd.func52 rfl Tryd.ntmps52 rfl (Cls.start w) ?_
 (simp only [argEnv, Nat.zero_add, Nat.reduceAdd])
 simp only [exC]
 apply W.sr
 apply OL.box; rfl; rfl; exact CellsL.agg; (intro bk hbk; simp only [AllLe, and_true] at hbk)
 apply oas; rfl; rfl
 apply OL.nx
 apply W.seq
 apply W.sr
 apply ofa; rfl; rfl; rfl
 apply old; rfl; rfl; exact .head _; rfl; rfl
 apply obn; rfl; rfl; rfl; apply Bin.neq
 apply omv; rfl; rfl
 apply oy; rfl; rfl; rfl; apply Pev.fld; rfl; exact yes; rfl
 apply oy; rfl; rfl; rfl; apply Pev.load_blk; rfl; exact fun h => h; exact .head _; rfl; rfl
 apply oy; rfl; rfl; rfl; apply Pev.bin; rfl; exact fun h => h; rfl; exact yes; intro hcond; apply Bin.neq
 apply oop; rfl; apply Pev.pick_and; rfl; exact yes; rfl; exact fun h => h
 apply OL.nx
 revert bk
 intro bx hbx
 (refine W.cnd (fun hop => ?_) (fun hop => ?_)) <;> (try (exfalso; first | omega | exact hop trivial | contradiction))
 ·apply W.sr
  apply ofa; rfl; rfl; rfl
  apply old; rfl; rfl; exact .head _; rfl; rfl
  apply oop; rfl; apply Pev.len_slice; rfl; exact yes; rfl
  apply obn; rfl; rfl; rfl; apply Bin.eql
  apply oas; rfl; rfl
  apply OL.nx
  refine W.rt ?_
  ((with_reducible apply At.fin1); rfl; rfl; intro w' hw')
  refine ⟨congrArg (fun b => Ending.returned (Value.bool b)) ?_, by (exact hw'.fr)⟩
  unfold altsR
  rw [if_pos (by simpa using hop)]
  simp
 have hop' : x.op = 7 ∨ x.op = 13 := by omega
 have hR : altsR x = (altsR1 x && (decide (x.op = 7) || decide (0 < x.alts.length))) := by
  unfold altsR
  rw [if_neg (by omega)]
 apply W.sk
 apply W.seq
 apply W.sr
 apply ofa; rfl; rfl; rfl
 apply old; rfl; rfl; exact .head _; rfl; rfl
 apply oop; rfl; apply Pev.len_slice; rfl; exact yes; rfl
 apply omv; rfl; rfl
 apply OL.nx
 apply W.block
 rw [hpl]
 refine W.loop (G := Nat) (fun i => i ≤ ps.length ∧ ∀ j, j < i → altR1 x j (x.alts.getD j ⟨0, []⟩) = true) (fun i => ps.length - i)
  (fun i => [(1, true, .pointer (some ⟨bx, 0, none⟩)), (19, true, .slice y.a.1 ps.length y.a.2), (20, true, .int .i64 (ps.length : Int)), (21, true, .int .i64 (i : Int))])
  (fun i => Cls [blk bx 43 [.int .i64 x.op, .int .i64 x.n, .slice y.b.1 x.binds.length y.b.2, .slice y.k.1 x.kids.length y.k.2, .slice y.a.1 ps.length y.a.2]] [w]) 0 ⟨by omega, fun j hj => by omega⟩ (by exact Sub.au) (fun w' hw' => by first | exact hw' | (rw [hpl] at hw'; exact hw')) ?_
 rintro i ⟨hi, hall⟩
 apply W.sr
 apply obn; rfl; rfl; rfl; apply Bin.lss
 apply OL.nx
 apply W.seq
 (refine W.cnd (fun hlt => ?_) (fun hlt => ?_)) <;> (try (exfalso; first | omega | exact hlt trivial | contradiction))
 ·have hil : i < ps.length := by omega
  obtain ⟨a, u, hq, hab, hu, hcell, hok⟩ := harr.get hil
  have hab : a.block < w.heap.size := hab
  have hcell : CellsAt w (a.add (i * 2)) [.int .i64 u.1.tag, .slice u.2.1 u.1.binds.length u.2.2] := hcell
  have hu1 : x.alts[i]? = some u.1 := by rw [← hps, List.getElem?_map, hu]; rfl
  have hu2 : x.alts.getD i ⟨0, []⟩ = u.1 := by simp [List.getD, hu1]
  have hbl := hok.2.1
  have hbad : altR1 x i u.1 = false → altsR x = false := fun hf => by
   rw [hR]
   unfold altsR1
   rw [not_all_range (i := i) (by omega) (by rw [hu2]; exact hf)]
   rfl
  have hoki : altR1 x i u.1 = (!((x.alts.take i).any fun b => decide (b.tag = u.1.tag)) && !decide (u.1.tag < -1) && !(decide (x.op = 7) && decide (u.1.tag = -1) && (decide (i + 1 < x.alts.length) || !decide (u.1.binds.length = 0)))
   && !(decide (x.op = 13) && (decide (i = 0) && (!decide (u.1.tag = -1) || !decide (u.1.binds.length = 1)) || decide (0 < i) && (decide (u.1.tag < 0) || !decide (u.1.binds.length = 2))))) := rfl
  rw [hq]
  apply W.sk
  apply W.sb
  apply W.sr
  apply omv; rfl; rfl
  apply oop; rfl; apply Pev.idx; rfl; exact yes; rfl; exact yes; rfl; rfl; intro hcond; omega
  apply oop; rfl; apply Pev.load_keptA; rfl; exact yes; exact .head _; rfl; intro hcond; assumption; rfl; intro hcond; (rw [add_block]; assumption); intro hcond; exact NotOwned.au
  apply OL.alloc; rfl; rfl; exact CellsL.agg; (intro bk hbk; simp only [AllLe, and_true] at hbk)
  apply oas; rfl; rfl
  apply OL.storeB; rfl; rfl; exact CellsL.agg; rfl; rfl; rfl; exact Swap.au; exact Put.au
  apply OL.nx
  apply W.seq
  apply W.sr
  apply omv; rfl; rfl
  apply omv; rfl; rfl
  apply OL.nx
  apply W.block
  revert bk
  intro ba hba
  refine W.loop (G := Nat) (fun k => k ≤ i ∧ (x.alts.take k).any (fun b => decide (b.tag = u.1.tag)) = false) (fun k => i - k)
   (fun k => [(1, true, .pointer (some ⟨bx, 0, none⟩)), (3, true, .int .i64 (i : Int)), (4, true, .pointer (some ⟨ba, 0, none⟩)), (19, true, .slice (some a) ps.length y.a.2), (20, true, .int .i64 (ps.length : Int)), (21, true, .int .i64 (i : Int)), (26, true, .int .i64 (i : Int)), (27, true, .int .i64 (k : Int))])
   (fun k => Cls [blk ba 79 [.int .i64 u.1.tag, .slice u.2.1 u.1.binds.length u.2.2], blk bx 43 [.int .i64 x.op, .int .i64 x.n, .slice y.b.1 x.binds.length y.b.2, .slice y.k.1 x.kids.length y.k.2, .slice (some a) ps.length y.a.2]] [w]) 0 ⟨by omega, rfl⟩ (by exact Sub.au) (fun w' hw' => by first | exact hw' | (rw [hq] at hw'; exact hw')) ?_
  rintro k ⟨hk, hany⟩
  apply W.sr
  apply obn; rfl; rfl; rfl; apply Bin.lss
  apply OL.nx
  apply W.seq
  (refine W.cnd (fun hlt2 => ?_) (fun hlt2 => ?_)) <;> (try (exfalso; first | omega | exact hlt2 trivial | contradiction))
  ·have hki : k < i := by omega
   obtain ⟨a2, v, hq2, hab2, hv, hcell2, hok2⟩ := harr.get (i := k) (by omega)
   have hab2 : a2.block < w.heap.size := hab2
   obtain rfl : a = a2 := by rw [hq] at hq2; exact Option.some.inj hq2
   have hcell2 : CellsAt w (a.add (k * 2)) [.int .i64 v.1.tag, .slice v.2.1 v.1.binds.length v.2.2] := hcell2
   have hv1 : x.alts[k]? = some v.1 := by rw [← hps, List.getElem?_map, hv]; rfl
   apply W.sk
   apply W.sb
   apply W.sr
   apply omv; rfl; rfl
   apply oas; rfl; rfl
   apply OL.nx
   apply W.seq
   apply W.regd0; decide +kernel; kernel_rfl; decide +kernel; exact fun w hw => hw.drew
   apply qfa; rfl; rfl; rfl
   apply qld; rfl; rfl; exact .tail _ (.head _); rfl; rfl
   apply qmv; rfl; rfl
   apply qop; rfl; apply Pev.idx; rfl; exact yes; rfl; exact yes; rfl; rfl; intro hcond; omega
   apply qop; rfl; apply Pev.fldA; rfl; exact yes; rfl
   apply qop; rfl; apply Pev.load_kept; rfl; exact yes; exact .head _; rfl; intro hcond; apply CellsAt.at_ (by assumption) rfl; intro hcond; (simp only [add_block]; assumption); intro hcond; exact NotOwned.au
   apply qfa; rfl; rfl; rfl
   apply qld; rfl; rfl; exact .head _; rfl; rfl
   apply qbn; rfl; rfl; rfl; apply Bin.eql
   apply QL.nil
   with_reducible apply At.next
   (refine W.cnd (fun heq => ?_) (fun heq => ?_)) <;> (try (exfalso; first | omega | exact heq trivial | contradiction))
   ·apply W.sr
    apply oas; rfl; rfl
    apply OL.nx
    refine W.rt ?_
    ((with_reducible apply At.fin1); rfl; rfl; intro w' hw')
    refine ⟨by rw [hbad (by rw [hoki, any_take_true hv1 hki (by simpa using heq)]; rfl)], by (exact hw'.fr)⟩
   apply W.skip
   with_reducible apply At.in_normal
   with_reducible apply At.next
   apply W.reg
   apply obn; rfl; rfl; rfl; apply Bin.add_in; omega
   apply omv; rfl; rfl
   apply OL.nil
   refine At.again (k + 1) ⟨by omega, ?_⟩ (by omega) (by exact Sub.au) (fun w' hw' => hw')
   rw [any_take_succ hv1, hany]
   simpa using heq
  obtain rfl : k = i := by omega
  rw [hany] at hoki
  rw [hpl] at hoki
  clear hlt2 hk
  refine W.xt ?_
  with_reducible apply At.next
  apply W.seq
  apply W.sr
  apply ofa; rfl; rfl; rfl
  apply old; rfl; rfl; exact .head _; rfl; rfl
  apply obn; rfl; rfl; rfl; apply Bin.lss
  apply OL.nx
  refine W.cond rfl (fun hb => ?_) (fun hb => ?_)
  ·apply W.sr
   apply oas; rfl; rfl
   apply OL.nx
   refine W.rt ?_
   ((with_reducible apply At.fin1); rfl; rfl; intro w' hw')
   refine ⟨by rw [hbad (by rw [hoki]; grind)], by (exact hw'.fr)⟩
  apply W.sk
  apply W.seq
  apply W.sr
  apply ofa; rfl; rfl; rfl
  apply old; rfl; rfl; exact .tail _ (.head _); rfl; rfl
  apply obn; rfl; rfl; rfl; apply Bin.eql
  apply omv; rfl; rfl
  apply oy; rfl; rfl; rfl; apply Pev.fld; rfl; exact yes; rfl
  apply oy; rfl; rfl; rfl; apply Pev.load_blk; rfl; exact fun h => h; exact .head _; rfl; rfl
  apply oy; rfl; rfl; rfl; apply Pev.bin; rfl; exact fun h => h; rfl; exact yes; intro hcond; apply Bin.eql
  apply oop; rfl; apply Pev.pick_and; rfl; exact yes; rfl; exact fun h => h
  apply omv; rfl; rfl
  apply oy; rfl; rfl; rfl; apply Pev.move; rfl; exact yes
  apply oy; rfl; rfl; rfl; apply Pev.bin; rfl; exact fun h => h; rfl; exact yes; intro hcond; apply Bin.add_in; omega
  apply oy; rfl; rfl; rfl; apply Pev.fld; rfl; exact yes; rfl
  apply oy; rfl; rfl; rfl; apply Pev.load_blk; rfl; exact fun h => h; exact .tail _ (.head _); rfl; rfl
  apply oy; rfl; rfl; rfl; apply Pev.len_slice; rfl; exact fun h => h; rfl
  apply oy; rfl; rfl; rfl; apply Pev.bin; rfl; exact fun h => h; rfl; exact fun h => h; intro hcond; apply Bin.lss
  apply oy; rfl; rfl; rfl; apply Pev.move; rfl; exact fun h => h
  apply OL.op; exact Guard.cno rfl rfl; rfl; rfl; apply Pev.fld; rfl; exact yes; rfl
  apply OL.op; exact Guard.cno rfl rfl; rfl; rfl; apply Pev.load_blk; rfl; exact fun h => h; exact .head _; rfl; rfl
  apply OL.op; exact Guard.cno rfl rfl; rfl; rfl; apply Pev.len_slice; rfl; exact fun h => h; rfl
  apply OL.op; exact Guard.cno rfl rfl; rfl; rfl; apply Pev.bin; rfl; exact fun h => h; rfl; exact yes; intro hcond; apply Bin.neq
  apply oy; rfl; rfl; rfl; apply Pev.pick_or; rfl; exact fun h => h; rfl; exact fun h => h
  apply oop; rfl; apply Pev.pick_and; rfl; exact yes; rfl; exact fun h => h
  apply OL.nx
  refine W.cond rfl (fun hb2 => ?_) (fun hb2 => ?_)
  ·apply W.sr
   apply oas; rfl; rfl
   apply OL.nx
   refine W.rt ?_
   ((with_reducible apply At.fin1); rfl; rfl; intro w' hw')
   refine ⟨by rw [hbad (by rw [hoki]; grind)], by (exact hw'.fr)⟩
  apply W.sk
  apply W.sr
  apply ofa; rfl; rfl; rfl
  apply old; rfl; rfl; exact .tail _ (.head _); rfl; rfl
  apply obn; rfl; rfl; rfl; apply Bin.eql
  apply omv; rfl; rfl
  apply oy; rfl; rfl; rfl; apply Pev.move; rfl; exact yes
  apply oy; rfl; rfl; rfl; apply Pev.bin; rfl; exact fun h => h; rfl; exact yes; intro hcond; apply Bin.eql
  apply oy; rfl; rfl; rfl; apply Pev.move; rfl; exact fun h => h
  apply OL.op; exact Guard.cyes rfl rfl; rfl; rfl; apply Pev.fld; rfl; exact yes; rfl
  apply OL.op; exact Guard.cyes rfl rfl; rfl; rfl; apply Pev.load_blk; rfl; exact fun h => h; exact .head _; rfl; rfl
  apply OL.op; exact Guard.cyes rfl rfl; rfl; rfl; apply Pev.bin; rfl; exact fun h => h; rfl; exact yes; intro hcond; apply Bin.neq
  apply OL.op; exact Guard.cyes rfl rfl; rfl; rfl; apply Pev.move; rfl; exact fun h => h
  apply OL.op; exact Guard.cno rfl rfl; rfl; rfl; apply Pev.fld; rfl; exact yes; rfl
  apply OL.op; exact Guard.cno rfl rfl; rfl; rfl; apply Pev.load_blk; rfl; exact fun h => h; exact .head _; rfl; rfl
  apply OL.op; exact Guard.cno rfl rfl; rfl; rfl; apply Pev.len_slice; rfl; exact fun h => h; rfl
  apply OL.op; exact Guard.cno rfl rfl; rfl; rfl; apply Pev.bin; rfl; exact fun h => h; rfl; exact yes; intro hcond; apply Bin.neq
  apply OL.op; exact Guard.cyes rfl rfl; rfl; rfl; apply Pev.pick_or; rfl; exact fun h => h; rfl; exact fun h => h
  apply oy; rfl; rfl; rfl; apply Pev.pick_and; rfl; exact fun h => h; rfl; exact fun h => h
  apply oy; rfl; rfl; rfl; apply Pev.move; rfl; exact fun h => h
  apply OL.op; exact Guard.cno rfl rfl; rfl; rfl; apply Pev.move; rfl; exact yes
  apply OL.op; exact Guard.cno rfl rfl; rfl; rfl; apply Pev.bin; rfl; exact fun h => h; rfl; exact yes; intro hcond; apply Bin.gtr
  apply OL.op; exact Guard.cno rfl rfl; rfl; rfl; apply Pev.move; rfl; exact fun h => h
  apply OL.op; exact Guard.cyes rfl rfl; rfl; rfl; apply Pev.fld; rfl; exact yes; rfl
  apply OL.op; exact Guard.cyes rfl rfl; rfl; rfl; apply Pev.load_blk; rfl; exact fun h => h; exact .head _; rfl; rfl
  apply OL.op; exact Guard.cyes rfl rfl; rfl; rfl; apply Pev.bin; rfl; exact fun h => h; rfl; exact yes; intro hcond; apply Bin.lss
  apply OL.op; exact Guard.cyes rfl rfl; rfl; rfl; apply Pev.move; rfl; exact fun h => h
  apply OL.op; exact Guard.cno rfl rfl; rfl; rfl; apply Pev.fld; rfl; exact yes; rfl
  apply OL.op; exact Guard.cno rfl rfl; rfl; rfl; apply Pev.load_blk; rfl; exact fun h => h; exact .head _; rfl; rfl
  apply OL.op; exact Guard.cno rfl rfl; rfl; rfl; apply Pev.len_slice; rfl; exact fun h => h; rfl
  apply OL.op; exact Guard.cno rfl rfl; rfl; rfl; apply Pev.bin; rfl; exact fun h => h; rfl; exact yes; intro hcond; apply Bin.neq
  apply OL.op; exact Guard.cyes rfl rfl; rfl; rfl; apply Pev.pick_or; rfl; exact fun h => h; rfl; exact fun h => h
  apply OL.op; exact Guard.cno rfl rfl; rfl; rfl; apply Pev.pick_and; rfl; exact fun h => h; rfl; exact fun h => h
  apply oy; rfl; rfl; rfl; apply Pev.pick_or; rfl; exact fun h => h; rfl; exact fun h => h
  apply oop; rfl; apply Pev.pick_and; rfl; exact yes; rfl; exact fun h => h
  apply OL.nx
  refine W.cond rfl (fun hb3 => ?_) (fun hb3 => ?_)
  ·apply W.sr
   apply oas; rfl; rfl
   apply OL.nx
   refine W.rt ?_
   ((with_reducible apply At.fin1); rfl; rfl; intro w' hw')
   refine ⟨by rw [hbad (by rw [hoki]; grind)], by (exact hw'.fr)⟩
  apply W.skip
  with_reducible apply At.in_normal
  with_reducible apply At.next
  apply W.reg
  apply obn; rfl; rfl; rfl; apply Bin.add_in; omega
  apply omv; rfl; rfl
  apply OL.nil
  refine At.again (k + 1) ⟨by omega, fun j hj => ?_⟩ (by omega) (by exact Sub.au) (fun w' hw' => hw'.thin (by exact Thin.au))
  by_cases e : j = k
  ·subst e
   rw [hu2, hoki]
   simp only [Bool.and_eq_true, Bool.and_eq_false_iff, Bool.or_eq_false_iff, Bool.not_eq_true', Bool.not_eq_false', decide_eq_true_eq, decide_eq_false_iff_not, Bool.not_false, Bool.true_and, Bool.or_eq_true, Bool.not_eq_true] at hb hb2 hb3 ⊢
   omega
  ·exact hall j (by omega)
 ·obtain rfl : i = ps.length := by omega
  have hok : altsR1 x = true := by
   unfold altsR1
   rw [hpl]
   exact all_range hall
  refine W.xt ?_
  with_reducible apply At.next
  apply W.sr
  apply ofa; rfl; rfl; rfl
  apply old; rfl; rfl; exact .head _; rfl; rfl
  apply obn; rfl; rfl; rfl; apply Bin.eql
  apply omv; rfl; rfl
  apply ono; rfl; rfl; rfl; apply Pev.fld; rfl; exact yes; rfl
  apply ono; rfl; rfl; rfl; apply Pev.load_blk; rfl; exact fun h => h; exact .head _; rfl; rfl
  apply ono; rfl; rfl; rfl; apply Pev.len_slice; rfl; exact fun h => h; rfl
  apply ono; rfl; rfl; rfl; apply Pev.bin; rfl; exact fun h => h; rfl; exact yes; intro hcond; apply Bin.gtr
  apply oop; rfl; apply Pev.pick_or; rfl; exact yes; rfl; exact fun h => h
  apply oas; rfl; rfl
  apply OL.nx
  apply W.ret
  ((with_reducible apply At.fin1); rfl; rfl; intro w' hw')
  refine ⟨congrArg (fun b => Ending.returned (Value.bool b)) ?_, by (exact hw'.fr)⟩
  rw [hR, hok, hpl]
  grind
end Go.Proofs.YtkpjndhgicbjjaaDoor.co

/- The walks of the reference's numbersError, goodForm, goodKids. Conditions: none. (Printed by cra.py.) -/
namespace Go.Proofs.YtkpjndhgicbjjaaDoor.co
open Go.RowKit Go.Eng Go.Co
set_option maxRecDepth 100000
theorem numE_bad {x : Ex} (h : rangesOk x = false) : numE x = 4 := by unfold numE; rw [if_pos h]
theorem numbersError_calls (x : Ex) (y : ExY) (w : World) (h : ExOk w (low w) x y) :
  Calls Tryd.prog 28 [.agg (exC x y).toArray].toArray w fun e w' => e = .returned (.int .i64 (numE x)) ∧ Ext w w' := by
 obtain ⟨ps, hps, harr⟩ := h.alts
 have hpl : x.alts.length = ps.length := by rw [← hps, List.length_map]
 have hal := h.al
 have hkl := h.kl
 have hbl := h.bl
 refine enter Tryd.func28 rfl Tryd.ntmps28 rfl (Cls.start w) ?_
 (simp only [argEnv, Nat.zero_add, Nat.reduceAdd])
 simp only [exC]
 apply W.sr
 apply OL.box; rfl; rfl; exact CellsL.agg; (intro bk hbk; simp only [AllLe, and_true] at hbk)
 apply oas; rfl; rfl
 apply OL.nsr
 apply oas; rfl; rfl
 apply oas; rfl; rfl
 apply OL.nx
 apply W.seq
 apply W.sr
 apply ofa; rfl; rfl; rfl
 apply old; rfl; rfl; exact .head _; rfl; rfl
 apply OL.nx
 revert bk
 intro b0 hb0
 refine W.joinx (G := Unit) (fun _ => True) (fun _ => [(1, true, .pointer (some ⟨b0, 0, none⟩)), (4, true, .int .i64 (highN x.op)), (3, true, .int .i64 (lowN x.op))]) (fun _ => Cls [blk b0 43 [.int .i64 x.op, .int .i64 x.n, .slice y.b.1 x.binds.length y.b.2, .slice y.k.1 x.kids.length y.k.2, .slice y.a.1 x.alts.length y.a.2]] [w]) ?_ ?_
 ·skip
  apply W.block
  apply W.sr
  apply obn; rfl; rfl; rfl; apply Bin.eql
  apply oas; rfl; rfl
  apply OL.nx
  (refine W.cnd (fun r1 => ?_) (fun r1 => ?_)) <;> (try (exfalso; first | omega | exact r1 trivial | contradiction))
  ·apply W.reg
   apply oas; rfl; rfl
   apply oas; rfl; rfl
   apply OL.nil
   with_reducible apply At.in_normal
   exact At.joinedx () trivial (by repeat (first | exact Sub.nil | apply Sub.cons rfl | (refine Sub.cons_eq rfl (congrArg (Value.int .i64) (by unfold highN; grind)) ?_) | (refine Sub.cons_eq rfl (congrArg (Value.int .i64) (by unfold lowN; grind)) ?_))) (fun w' hw' => hw')
  apply W.sr
  apply obn; rfl; rfl; rfl; apply Bin.eql
  apply oas; rfl; rfl
  apply OL.nx
  (refine W.cnd (fun r2 => ?_) (fun r2 => ?_)) <;> (try (exfalso; first | omega | exact r2 trivial | contradiction))
  ·apply W.reg
   apply oas; rfl; rfl
   apply OL.nil
   with_reducible apply At.in_normal
   exact At.joinedx () trivial (by repeat (first | exact Sub.nil | apply Sub.cons rfl | (refine Sub.cons_eq rfl (congrArg (Value.int .i64) (by unfold highN; grind)) ?_) | (refine Sub.cons_eq rfl (congrArg (Value.int .i64) (by unfold lowN; grind)) ?_))) (fun w' hw' => hw')
  apply W.sr
  apply obn; rfl; rfl; rfl; apply Bin.eql
  apply oas; rfl; rfl
  apply OL.nx
  (refine W.cnd (fun r3 => ?_) (fun r3 => ?_)) <;> (try (exfalso; first | omega | exact r3 trivial | contradiction))
  ·apply W.reg
   apply oas; rfl; rfl
   apply oas; rfl; rfl
   apply OL.nil
   with_reducible apply At.in_normal
   exact At.joinedx () trivial (by repeat (first | exact Sub.nil | apply Sub.cons rfl | (refine Sub.cons_eq rfl (congrArg (Value.int .i64) (by unfold highN; grind)) ?_) | (refine Sub.cons_eq rfl (congrArg (Value.int .i64) (by unfold lowN; grind)) ?_))) (fun w' hw' => hw')
  apply W.sr
  apply obn; rfl; rfl; rfl; apply Bin.eql
  apply oas; rfl; rfl
  apply OL.nx
  (refine W.cnd (fun r4 => ?_) (fun r4 => ?_)) <;> (try (exfalso; first | omega | exact r4 trivial | contradiction))
  ·apply W.reg
   apply oas; rfl; rfl
   apply OL.nil
   with_reducible apply At.in_normal
   exact At.joinedx () trivial (by repeat (first | exact Sub.nil | apply Sub.cons rfl | (refine Sub.cons_eq rfl (congrArg (Value.int .i64) (by unfold highN; grind)) ?_) | (refine Sub.cons_eq rfl (congrArg (Value.int .i64) (by unfold lowN; grind)) ?_))) (fun w' hw' => hw')
  apply W.skip
  with_reducible apply At.in_normal
  exact At.joinedx () trivial (by repeat (first | exact Sub.nil | apply Sub.cons rfl | (refine Sub.cons_eq rfl (congrArg (Value.int .i64) (by unfold highN; grind)) ?_) | (refine Sub.cons_eq rfl (congrArg (Value.int .i64) (by unfold lowN; grind)) ?_))) (fun w' hw' => hw')
 rintro - -
 apply W.seq
 apply W.sr
 apply ofa; rfl; rfl; rfl
 apply old; rfl; rfl; exact .head _; rfl; rfl
 apply omv; rfl; rfl
 apply omv; rfl; rfl
 (((first | (with_reducible apply OL.op) | (with_reducible apply QL.op)); (exact Guard.au); rfl; rfl); (exact Pev.call rfl (by exact Args.au) (fun _ w2 hw2 => (inside_calls x.n (lowN x.op) (highN x.op) w2).mono (fun e w3 h => ⟨h.1, hw2.ext h.2⟩))))
 apply oop; rfl; apply Pev.not; rfl; exact yes
 apply OL.nx
 (refine W.cnd (fun hn => ?_) (fun hn => ?_)) <;> (try (exfalso; first | omega | exact hn trivial | contradiction))
 ·apply W.sr
  apply oas; rfl; rfl
  apply OL.nx
  refine W.rt ?_
  ((with_reducible apply At.fin1); rfl; rfl; intro w' hw')
  refine ⟨by rw [numE_bad]; unfold rangesOk; grind, by (exact hw'.fr)⟩
 apply W.sk
 apply W.seq
 apply W.sr
 apply ofa; rfl; rfl; rfl
 apply old; rfl; rfl; exact .head _; rfl; rfl
 apply oop; rfl; apply Pev.len_slice; rfl; exact yes; rfl
 apply omv; rfl; rfl
 apply OL.nx
 apply W.block
 refine W.loop (G := Nat) (fun i => i ≤ x.binds.length ∧ ∀ (j : Nat) (v : Int), j < i → x.binds[j]? = some v → idB v = true) (fun i => x.binds.length - i)
  (fun i => [(1, true, .pointer (some ⟨b0, 0, none⟩)), (29, true, .slice y.b.1 x.binds.length y.b.2), (30, true, .int .i64 (x.binds.length : Int)), (31, true, .int .i64 (i : Int))])
  (fun _ => Cls [blk b0 43 [.int .i64 x.op, .int .i64 x.n, .slice y.b.1 x.binds.length y.b.2, .slice y.k.1 x.kids.length y.k.2, .slice y.a.1 x.alts.length y.a.2]] [w]) 0 ⟨by omega, fun j v hj => by omega⟩ (by exact Sub.au) (fun w' hw' => hw') ?_
 rintro i ⟨hi, hbs⟩
 apply W.sr
 apply obn; rfl; rfl; rfl; apply Bin.lss
 apply OL.nx
 apply W.seq
 (refine W.cnd (fun hlt => ?_) (fun hlt => ?_)) <;> (try (exfalso; first | omega | exact hlt trivial | contradiction))
 ·have hil : i < x.binds.length := by omega
  obtain ⟨a, v, hqa, hab, hv, hcell⟩ := h.b.get hil
  have hab : a.block < w.heap.size := hab
  rw [hqa]
  apply W.sk
  apply W.sb
  apply W.sr
  apply oop; rfl; apply Pev.idx; rfl; exact yes; rfl; exact yes; rfl; rfl; intro hcond; omega
  apply oop; rfl; apply Pev.load_kept; rfl; exact yes; exact .head _; rfl; intro hcond; assumption; intro hcond; (rw [add_block]; assumption); intro hcond; exact NotOwned.au
  apply oas; rfl; rfl
  apply OL.nsr
  apply omv; rfl; rfl
  (((first | (with_reducible apply OL.op) | (with_reducible apply QL.op)); (exact Guard.au); rfl; rfl); (exact Pev.call rfl (by exact Args.au) (fun _ w2 hw2 => (inside_calls v 0 1048575 w2).mono (fun e w3 h => ⟨h.1, hw2.ext h.2⟩))))
  apply oop; rfl; apply Pev.not; rfl; exact yes
  apply OL.nx
  (refine W.cnd (fun hv2 => ?_) (fun hv2 => ?_)) <;> (try (exfalso; first | omega | exact hv2 trivial | contradiction))
  ·apply W.sr
   apply oas; rfl; rfl
   apply OL.nx
   refine W.rt ?_
   ((with_reducible apply At.fin1); rfl; rfl; intro w' hw')
   refine ⟨?_, by (exact hw'.fr)⟩
   have hid : idB v = false := by unfold idB; grind
   have : x.binds.all idB = false := List.all_eq_false.2 ⟨v, List.mem_of_getElem? hv, by simp [hid]⟩
   rw [numE_bad]
   unfold rangesOk
   simp [this]
  apply W.skip
  with_reducible apply At.in_normal
  with_reducible apply At.next
  apply W.reg
  apply obn; rfl; rfl; rfl; apply Bin.add_in; omega
  apply omv; rfl; rfl
  apply OL.nil
  refine At.again (i + 1) ⟨by omega, fun j u hj hu => ?_⟩ (by omega) (by exact Sub.au) (fun w' hw' => hw')
  by_cases e : j = i
  ·subst e
   rw [hv] at hu
   obtain rfl := Option.some.inj hu
   unfold idB
   grind
  ·exact hbs j u (by omega) hu
 obtain rfl : i = x.binds.length := by omega
 have hball : x.binds.all idB = true := List.all_eq_true.2 fun v hv => by
  obtain ⟨j, hj⟩ := List.getElem?_of_mem hv
  exact hbs j v (List.getElem?_eq_some_iff.1 hj).1 hj
 clear hbs hlt hi
 rw [hpl]
 refine W.xt ?_
 with_reducible apply At.next
 apply W.sr
 apply oas; rfl; rfl
 apply OL.nx
 apply W.seq
 apply W.sr
 apply ofa; rfl; rfl; rfl
 apply old; rfl; rfl; exact .head _; rfl; rfl
 apply oop; rfl; apply Pev.len_slice; rfl; exact yes; rfl
 apply omv; rfl; rfl
 apply OL.nx
 apply W.block
 refine W.loop (G := Nat) (fun i => i ≤ ps.length ∧ (∀ (j : Nat) (p : Al × Sc), j < i → ps[j]? = some p → altR x.op p.1 = true) ∧ ((ps.take i).foldl (fun m p => max m p.1.binds.length) 0) ≤ 140737488355328) (fun i => ps.length - i)
  (fun i => [(1, true, .pointer (some ⟨b0, 0, none⟩)), (7, true, .int .i64 (((ps.take i).foldl (fun m p => max m p.1.binds.length) 0 : Nat) : Int)), (40, true, .slice y.a.1 ps.length y.a.2), (41, true, .int .i64 (ps.length : Int)), (42, true, .int .i64 (i : Int))])
  (fun _ => Cls [blk b0 43 [.int .i64 x.op, .int .i64 x.n, .slice y.b.1 x.binds.length y.b.2, .slice y.k.1 x.kids.length y.k.2, .slice y.a.1 ps.length y.a.2]] [w]) 0 ⟨by omega, fun j v hj => by omega, by simp⟩ (by exact Sub.au) (fun w' hw' => hw') ?_
 rintro i ⟨hi, has, hwd⟩
 apply W.sr
 apply obn; rfl; rfl; rfl; apply Bin.lss
 apply OL.nx
 apply W.seq
 (refine W.cnd (fun hlt => ?_) (fun hlt => ?_)) <;> (try (exfalso; first | omega | exact hlt trivial | contradiction))
 ·have hil : i < ps.length := by omega
  obtain ⟨a, u, hq, hab, hu, hcell, hok⟩ := harr.get hil
  have hab : a.block < w.heap.size := hab
  have hcell : CellsAt w (a.add (i * 2)) [.int .i64 u.1.tag, .slice u.2.1 u.1.binds.length u.2.2] := hcell
  obtain ⟨htag, hul, huo⟩ := hok
  have hua : u.1 ∈ x.alts := by rw [← hps]; exact List.mem_map_of_mem (f := Prod.fst) (List.mem_of_getElem? hu)
  have hbad : altR x.op u.1 = false → numE x = 4 := fun hf => numE_bad (by
   have : x.alts.all (altR x.op) = false := List.all_eq_false.2 ⟨_, hua, by simp [hf]⟩
   unfold rangesOk
   simp [this])
  rw [hq]
  apply W.sk
  apply W.sb
  apply W.sr
  apply oop; rfl; apply Pev.idx; rfl; exact yes; rfl; exact yes; rfl; rfl; intro hcond; omega
  apply oop; rfl; apply Pev.load_keptA; rfl; exact yes; exact .head _; rfl; intro hcond; assumption; rfl; intro hcond; (rw [add_block]; assumption); intro hcond; exact NotOwned.au
  apply OL.alloc; rfl; rfl; exact CellsL.agg; (intro bk hbk; simp only [AllLe, and_true] at hbk)
  apply OL.storeB; rfl; rfl; exact CellsL.agg; rfl; rfl; rfl; exact Swap.au; exact Put.au
  apply OL.nx
  apply W.seq
  apply W.sr
  apply ofa; rfl; rfl; rfl
  apply old; rfl; rfl; exact .head _; rfl; rfl
  apply obn; rfl; rfl; rfl; apply Bin.geq
  apply omv; rfl; rfl
  apply ono; rfl; rfl; rfl; apply Pev.fld; rfl; exact yes; rfl
  apply ono; rfl; rfl; rfl; apply Pev.load_blk; rfl; exact fun h => h; exact .tail _ (.head _); rfl; rfl
  apply ono; rfl; rfl; rfl; apply Pev.bin; rfl; exact fun h => h; rfl; exact yes; intro hcond; apply Bin.eql
  apply ono; rfl; rfl; rfl; apply Pev.move; rfl; exact fun h => h
  apply OL.op; exact Guard.cyes rfl rfl; rfl; rfl; apply Pev.fld; rfl; exact yes; rfl
  apply OL.op; exact Guard.cyes rfl rfl; rfl; rfl; apply Pev.load_blk; rfl; exact fun h => h; exact .head _; rfl; rfl
  apply OL.op; exact Guard.cyes rfl rfl; rfl; rfl; apply Pev.bin; rfl; exact fun h => h; rfl; exact yes; intro hcond; apply Bin.gtr
  apply ono; rfl; rfl; rfl; apply Pev.pick_and; rfl; exact fun h => h; rfl; exact fun h => h
  apply oop; rfl; apply Pev.pick_or; rfl; exact yes; rfl; exact fun h => h
  apply OL.nx
  refine W.cond rfl (fun hb => ?_) (fun hb => ?_)
  ·apply W.sr
   apply oas; rfl; rfl
   apply OL.nx
   refine W.rt ?_
   ((with_reducible apply At.fin1); rfl; rfl; intro w' hw')
   refine ⟨by rw [hbad (by unfold altR; grind)], by (exact hw'.fr)⟩
  apply W.sk
  apply W.seq
  apply W.sr
  apply ofa; rfl; rfl; rfl
  apply old; rfl; rfl; exact .head _; rfl; rfl
  apply oop; rfl; apply Pev.len_slice; rfl; exact yes; rfl
  apply omv; rfl; rfl
  apply OL.nx
  apply W.block
  refine W.loop (G := Nat) (fun k => k ≤ u.1.binds.length ∧ ∀ (j : Nat) (v : Int), j < k → u.1.binds[j]? = some v → idB v = true) (fun k => u.1.binds.length - k)
   (fun k => [(1, true, .pointer (some ⟨b0, 0, none⟩)), (7, true, .int .i64 (((ps.take i).foldl (fun m p => max m p.1.binds.length) 0 : Nat) : Int)), (9, true, .pointer (some ⟨bk, 0, none⟩)), (40, true, .slice (some a) ps.length y.a.2), (41, true, .int .i64 (ps.length : Int)), (42, true, .int .i64 (i : Int)), (60, true, .slice u.2.1 u.1.binds.length u.2.2), (61, true, .int .i64 (u.1.binds.length : Int)), (62, true, .int .i64 (k : Int))])
   (fun _ => Cls [blk bk 79 [.int .i64 u.1.tag, .slice u.2.1 u.1.binds.length u.2.2], blk b0 43 [.int .i64 x.op, .int .i64 x.n, .slice y.b.1 x.binds.length y.b.2, .slice y.k.1 x.kids.length y.k.2, .slice (some a) ps.length y.a.2]] [w]) 0 ⟨by omega, fun j v hj => by omega⟩ (by exact Sub.au) (fun w' hw' => by first | exact hw' | (rw [hq] at hw'; exact hw')) ?_
  rintro k ⟨hk, hbs⟩
  apply W.sr
  apply obn; rfl; rfl; rfl; apply Bin.lss
  apply OL.nx
  apply W.seq
  (refine W.cnd (fun hlt2 => ?_) (fun hlt2 => ?_)) <;> (try (exfalso; first | omega | exact hlt2 trivial | contradiction))
  ·have hkl2 : k < u.1.binds.length := by omega
   obtain ⟨av, v, hqv, habv, hv, hcv⟩ := huo.get hkl2
   have habv : av.block < w.heap.size := habv
   rw [hqv]
   apply W.sk
   apply W.sb
   apply W.sr
   apply oop; rfl; apply Pev.idx; rfl; exact yes; rfl; exact yes; rfl; rfl; intro hcond; omega
   apply oop; rfl; apply Pev.load_kept; rfl; exact yes; exact .head _; rfl; intro hcond; assumption; intro hcond; (rw [add_block]; assumption); intro hcond; exact NotOwned.au
   apply oas; rfl; rfl
   apply OL.nsr
   apply omv; rfl; rfl
   (((first | (with_reducible apply OL.op) | (with_reducible apply QL.op)); (exact Guard.au); rfl; rfl); (exact Pev.call rfl (by exact Args.au) (fun _ w2 hw2 => (inside_calls v 0 1048575 w2).mono (fun e w3 h => ⟨h.1, hw2.ext h.2⟩))))
   apply oop; rfl; apply Pev.not; rfl; exact yes
   apply OL.nx
   (refine W.cnd (fun hv2 => ?_) (fun hv2 => ?_)) <;> (try (exfalso; first | omega | exact hv2 trivial | contradiction))
   ·apply W.sr
    apply oas; rfl; rfl
    apply OL.nx
    refine W.rt ?_
    ((with_reducible apply At.fin1); rfl; rfl; intro w' hw')
    refine ⟨?_, by (exact hw'.fr)⟩
    have hid : idB v = false := by unfold idB; grind
    have : u.1.binds.all idB = false := List.all_eq_false.2 ⟨v, List.mem_of_getElem? hv, by simp [hid]⟩
    rw [hbad (by unfold altR; simp [this])]
   apply W.skip
   with_reducible apply At.in_normal
   with_reducible apply At.next
   apply W.reg
   apply obn; rfl; rfl; rfl; apply Bin.add_in; omega
   apply omv; rfl; rfl
   apply OL.nil
   refine At.again (k + 1) ⟨by omega, fun j z hj hz => ?_⟩ (by omega) (by exact Sub.au) (fun w' hw' => by first | exact hw' | (rw [hqv] at hw'; exact hw') | (rw [← hqv] at hw'; exact hw'))
   by_cases e : j = k
   ·subst e
    rw [hv] at hz
    obtain rfl := Option.some.inj hz
    unfold idB
    grind
   ·exact hbs j z (by omega) hz
  obtain rfl : k = u.1.binds.length := by omega
  have huall : u.1.binds.all idB = true := List.all_eq_true.2 fun v hv => by
   obtain ⟨j, hj⟩ := List.getElem?_of_mem hv
   exact hbs j v (List.getElem?_eq_some_iff.1 hj).1 hj
  have hfold : (ps.take (i + 1)).foldl (fun m p => max m p.1.binds.length) 0 = max ((ps.take i).foldl (fun m p => max m p.1.binds.length) 0) u.1.binds.length := by
   rw [List.take_add_one, hu]
   simp [List.foldl_append]
  refine W.xt ?_
  with_reducible apply At.next
  apply W.reg
  apply omv; rfl; rfl
  apply ofa; rfl; rfl; rfl
  apply old; rfl; rfl; exact .head _; rfl; rfl
  apply oop; rfl; apply Pev.len_slice; rfl; exact yes; rfl
  apply oop; rfl; apply Pev.max2; rfl; exact yes; rfl; exact yes
  apply oas; rfl; rfl
  apply OL.nil
  with_reducible apply At.in_normal
  with_reducible apply At.next
  apply W.reg
  apply obn; rfl; rfl; rfl; apply Bin.add_in; omega
  apply omv; rfl; rfl
  apply OL.nil
  try rw [max_if]
  refine At.again (i + 1) ⟨by omega, fun j p hj hp => ?_, by rw [hfold]; omega⟩ (by omega) (by rw [hfold]; first | exact Sub.au) (fun w' hw' => hw'.thin (by exact Thin.au))
  by_cases e : j = i
  ·subst e
   rw [hu] at hp
   obtain rfl := Option.some.inj hp
   unfold altR
   grind
  ·exact has j p (by omega) hp
 ·obtain rfl : i = ps.length := by omega
  rw [List.take_length] at hwd ⊢
  have haall : x.alts.all (altR x.op) = true := List.all_eq_true.2 fun v hv => by
   rw [← hps] at hv
   obtain ⟨p, hp, rfl⟩ := List.mem_map.1 hv
   obtain ⟨j, hj⟩ := List.getElem?_of_mem hp
   exact has j p (List.getElem?_eq_some_iff.1 hj).1 hj
  have hrok : rangesOk x = true := by unfold rangesOk; grind
  have hwide : altW x.alts = ps.foldl (fun m p => max m p.1.binds.length) 0 := by
   unfold altW
   rw [← hps, List.foldl_map]
  rw [← hwide] at hwd ⊢
  have hre : numE x = if (x.op = 2 ∧ 6 < x.binds.length) ∨ (x.op = 3 ∧ 7 < x.kids.length) ∨ (x.op = 14 ∧ 6 < x.kids.length) ∨ ((x.op = 6 ∨ x.op = 15) ∧ 16 < x.kids.length) ∨ 16 < x.binds.length ∨ 16 < altW x.alts then 2 else 0 := by
   unfold numE
   rw [if_neg (by simp [hrok])]
  refine W.xt ?_
  with_reducible apply At.next
  apply W.sb
  apply W.seq
  apply W.sr
  apply ofa; rfl; rfl; rfl
  apply old; rfl; rfl; exact .head _; rfl; rfl
  apply obn; rfl; rfl; rfl; apply Bin.eql
  apply omv; rfl; rfl
  apply oy; rfl; rfl; rfl; apply Pev.fld; rfl; exact yes; rfl
  apply oy; rfl; rfl; rfl; apply Pev.load_blk; rfl; exact fun h => h; exact .head _; rfl; rfl
  apply oy; rfl; rfl; rfl; apply Pev.len_slice; rfl; exact fun h => h; rfl
  apply oy; rfl; rfl; rfl; apply Pev.bin; rfl; exact fun h => h; rfl; exact yes; intro hcond; apply Bin.gtr
  apply oop; rfl; apply Pev.pick_and; rfl; exact yes; rfl; exact fun h => h
  apply oas; rfl; rfl
  apply OL.nx
  refine W.cond rfl (fun c1 => ?_) (fun c1 => ?_)
  ·apply W.sk
   refine W.cond rfl (fun _ => ?_) (fun h4 => by rw [c1] at h4; cases h4)
   apply W.sr
   apply oas; rfl; rfl
   apply OL.nx
   refine W.rt ?_
   ((with_reducible apply At.fin1); rfl; rfl; intro w' hw')
   exact ⟨by rw [hre, if_pos (by simp only [Bool.and_eq_true, Bool.and_eq_false_iff, Bool.or_eq_false_iff, Bool.not_eq_true', Bool.not_eq_false', decide_eq_true_eq, decide_eq_false_iff_not, Bool.or_eq_true, Bool.not_eq_true] at c1; omega)], by (exact hw'.fr)⟩
  apply W.sr
  apply ofa; rfl; rfl; rfl
  apply old; rfl; rfl; exact .head _; rfl; rfl
  apply obn; rfl; rfl; rfl; apply Bin.eql
  apply omv; rfl; rfl
  apply oy; rfl; rfl; rfl; apply Pev.fld; rfl; exact yes; rfl
  apply oy; rfl; rfl; rfl; apply Pev.load_blk; rfl; exact fun h => h; exact .head _; rfl; rfl
  apply oy; rfl; rfl; rfl; apply Pev.len_slice; rfl; exact fun h => h; rfl
  apply oy; rfl; rfl; rfl; apply Pev.bin; rfl; exact fun h => h; rfl; exact yes; intro hcond; apply Bin.gtr
  apply oop; rfl; apply Pev.pick_and; rfl; exact yes; rfl; exact fun h => h
  apply oas; rfl; rfl
  apply OL.nx
  refine W.cond rfl (fun c2 => ?_) (fun c2 => ?_)
  ·apply W.sk
   refine W.cond rfl (fun _ => ?_) (fun h4 => by rw [c2] at h4; cases h4)
   apply W.sr
   apply oas; rfl; rfl
   apply OL.nx
   refine W.rt ?_
   ((with_reducible apply At.fin1); rfl; rfl; intro w' hw')
   exact ⟨by rw [hre, if_pos (by simp only [Bool.and_eq_true, Bool.and_eq_false_iff, Bool.or_eq_false_iff, Bool.not_eq_true', Bool.not_eq_false', decide_eq_true_eq, decide_eq_false_iff_not, Bool.or_eq_true, Bool.not_eq_true] at c2; omega)], by (exact hw'.fr)⟩
  apply W.reg
  apply ofa; rfl; rfl; rfl
  apply old; rfl; rfl; exact .head _; rfl; rfl
  apply obn; rfl; rfl; rfl; apply Bin.eql
  apply omv; rfl; rfl
  apply oy; rfl; rfl; rfl; apply Pev.fld; rfl; exact yes; rfl
  apply oy; rfl; rfl; rfl; apply Pev.load_blk; rfl; exact fun h => h; exact .head _; rfl; rfl
  apply oy; rfl; rfl; rfl; apply Pev.len_slice; rfl; exact fun h => h; rfl
  apply oy; rfl; rfl; rfl; apply Pev.bin; rfl; exact fun h => h; rfl; exact yes; intro hcond; apply Bin.gtr
  apply oop; rfl; apply Pev.pick_and; rfl; exact yes; rfl; exact fun h => h
  apply oas; rfl; rfl
  apply OL.nx
  refine W.cond rfl (fun c3 => ?_) (fun c3 => ?_)
  ·apply W.sr
   apply oas; rfl; rfl
   apply OL.nx
   refine W.rt ?_
   ((with_reducible apply At.fin1); rfl; rfl; intro w' hw')
   exact ⟨by rw [hre, if_pos (by simp only [Bool.and_eq_true, Bool.and_eq_false_iff, Bool.or_eq_false_iff, Bool.not_eq_true', Bool.not_eq_false', decide_eq_true_eq, decide_eq_false_iff_not, Bool.or_eq_true, Bool.not_eq_true] at c3; omega)], by (exact hw'.fr)⟩
  apply W.seq
  apply W.sr
  apply ofa; rfl; rfl; rfl
  apply old; rfl; rfl; exact .head _; rfl; rfl
  apply obn; rfl; rfl; rfl; apply Bin.eql
  apply omv; rfl; rfl
  apply ono; rfl; rfl; rfl; apply Pev.fld; rfl; exact yes; rfl
  apply ono; rfl; rfl; rfl; apply Pev.load_blk; rfl; exact fun h => h; exact .head _; rfl; rfl
  apply ono; rfl; rfl; rfl; apply Pev.bin; rfl; exact fun h => h; rfl; exact yes; intro hcond; apply Bin.eql
  apply oop; rfl; apply Pev.pick_or; rfl; exact yes; rfl; exact fun h => h
  apply omv; rfl; rfl
  apply oy; rfl; rfl; rfl; apply Pev.fld; rfl; exact yes; rfl
  apply oy; rfl; rfl; rfl; apply Pev.load_blk; rfl; exact fun h => h; exact .head _; rfl; rfl
  apply oy; rfl; rfl; rfl; apply Pev.len_slice; rfl; exact fun h => h; rfl
  apply oy; rfl; rfl; rfl; apply Pev.bin; rfl; exact fun h => h; rfl; exact yes; intro hcond; apply Bin.gtr
  apply oop; rfl; apply Pev.pick_and; rfl; exact yes; rfl; exact fun h => h
  apply oas; rfl; rfl
  apply OL.nx
  refine W.cond rfl (fun c4 => ?_) (fun c4 => ?_)
  ·apply W.sk
   refine W.cond rfl (fun _ => ?_) (fun h4 => by rw [c4] at h4; cases h4)
   apply W.sr
   apply oas; rfl; rfl
   apply OL.nx
   refine W.rt ?_
   ((with_reducible apply At.fin1); rfl; rfl; intro w' hw')
   exact ⟨by rw [hre, if_pos (by simp only [Bool.and_eq_true, Bool.and_eq_false_iff, Bool.or_eq_false_iff, Bool.not_eq_true', Bool.not_eq_false', decide_eq_true_eq, decide_eq_false_iff_not, Bool.or_eq_true, Bool.not_eq_true] at c4; omega)], by (exact hw'.fr)⟩
  apply W.sr
  apply ofa; rfl; rfl; rfl
  apply old; rfl; rfl; exact .head _; rfl; rfl
  apply oop; rfl; apply Pev.len_slice; rfl; exact yes; rfl
  apply obn; rfl; rfl; rfl; apply Bin.gtr
  apply oas; rfl; rfl
  apply OL.nx
  refine W.cond rfl (fun c5 => ?_) (fun c5 => ?_)
  ·apply W.sk
   refine W.cond rfl (fun _ => ?_) (fun h4 => by rw [c5] at h4; cases h4)
   apply W.sr
   apply oas; rfl; rfl
   apply OL.nx
   refine W.rt ?_
   ((with_reducible apply At.fin1); rfl; rfl; intro w' hw')
   exact ⟨by rw [hre, if_pos (by simp only [Bool.and_eq_true, Bool.and_eq_false_iff, Bool.or_eq_false_iff, Bool.not_eq_true', Bool.not_eq_false', decide_eq_true_eq, decide_eq_false_iff_not, Bool.or_eq_true, Bool.not_eq_true] at c5; omega)], by (exact hw'.fr)⟩
  apply W.reg
  apply omv; rfl; rfl
  apply obn; rfl; rfl; rfl; apply Bin.gtr
  apply oas; rfl; rfl
  apply OL.nx
  refine W.cond rfl (fun c6 => ?_) (fun c6 => ?_)
  ·apply W.sr
   apply oas; rfl; rfl
   apply OL.nx
   refine W.rt ?_
   ((with_reducible apply At.fin1); rfl; rfl; intro w' hw')
   exact ⟨by rw [hre, if_pos (by simp only [Bool.and_eq_true, Bool.and_eq_false_iff, Bool.or_eq_false_iff, Bool.not_eq_true', Bool.not_eq_false', decide_eq_true_eq, decide_eq_false_iff_not, Bool.or_eq_true, Bool.not_eq_true] at c6; omega)], by (exact hw'.fr)⟩
  apply W.skip
  with_reducible apply At.in_normal
  with_reducible apply At.next
  apply W.sr
  apply oas; rfl; rfl
  apply OL.nx
  apply W.ret
  ((with_reducible apply At.fin1); rfl; rfl; intro w' hw')
  exact ⟨by rw [hre, if_neg (by simp only [Bool.and_eq_true, Bool.and_eq_false_iff, Bool.or_eq_false_iff, Bool.not_eq_true', Bool.not_eq_false', decide_eq_true_eq, decide_eq_false_iff_not, Bool.or_eq_true, Bool.not_eq_true] at c1 c2 c3 c4 c5 c6; omega)], by (exact hw'.fr)⟩
end Go.Proofs.YtkpjndhgicbjjaaDoor.co

/- Plain: parents, depths and binders as the reference finds them. No program in sight. No condition. -/
namespace Go.Co
def TreeP (e : List Ex) : Prop := 0 < e.length ∧ Down e ∧ ∀ i : Nat, i + 1 < e.length → (kidsAll e).count (i : Int) = 1
theorem TreeP.tree {e : List Ex} (h : TreeP e) : IsTree e := isTree_of h.2.1 h.2.2
theorem kidsTo_all {e : List Ex} {i j : Nat} {x : Ex} (hx : e[i]? = some x) : ∃ r, kidsAll e = kidsTo e i j ++ r := by
 have hl := (List.getElem?_eq_some_iff.1 hx)
 obtain ⟨hl, rfl⟩ := hl
 refine ⟨(e[i].kids).drop j ++ kidsAll (e.drop (i + 1)), ?_⟩
 have h2 : kidsAll e = kidsAll (e.take i ++ e[i] :: e.drop (i + 1)) := by rw [← List.drop_eq_getElem_cons hl, List.take_append_drop]
 rw [h2]
 simp only [kidsTo, kidsAll, hx, Option.map_some, Option.getD_some, List.flatMap_append, List.flatMap_cons]
 rw [List.append_assoc, ← List.append_assoc (List.take j _), List.take_append_drop]
structure PI (e : List Ex) (P : List Int) (i j : Nat) : Prop where
 len : P.length = e.length
 nd : (kidsTo e i j).Nodup
 val : ∀ (k : Nat) (v : Int), P[k]? = some v → (v = -1 ∧ ¬ (k : Int) ∈ kidsTo e i j) ∨ (0 ≤ v ∧ (k : Int) ∈ kidsTo e i j ∧ ∃ m, Par e k v.toNat m)
 dn : ∀ (a : Nat) (x : Ex), a < i → e[a]? = some x → ∀ k ∈ x.kids, 0 ≤ k ∧ k < (a : Int)
theorem PI.start (e : List Ex) : PI e (List.replicate e.length (-1)) 0 0 where
 len := by simp
 nd := by rw [kidsTo_zero]; simp
 val := fun k v h => by
  rw [List.getElem?_replicate] at h
  split at h
  ·exact .inl ⟨(Option.some.inj h).symm, by rw [kidsTo_zero]; simp⟩
  ·cases h
 dn := fun a x h => by omega
theorem PI.step {e : List Ex} {P : List Int} {i j : Nat} {x : Ex} {k : Int} (h : PI e P i j) (hx : e[i]? = some x) (hk : x.kids[j]? = some k) (h0 : 0 ≤ k) (hi : k < (i : Int)) {v : Int} (hv : P[k.toNat]? = some v) (hv0 : v < 0) : PI e (P.set k.toNat (i : Int)) i (j + 1) := by
 have hkk : ((k.toNat : Nat) : Int) = k := by omega
 have hnot : ¬ k ∈ kidsTo e i j := by
  rcases h.val _ _ hv with ⟨_, h1⟩ | ⟨h1, _⟩
  ·rwa [hkk] at h1
  ·omega
 have hst := kidsTo_step hx hk
 refine ⟨by rw [List.length_set, h.len], ?_, fun m u hm => ?_, h.dn⟩
 ·rw [hst]
  refine List.nodup_append.2 ⟨h.nd, by simp, fun a ha b hb => ?_⟩
  obtain rfl := List.mem_singleton.1 hb
  exact fun e => hnot (e ▸ ha)
 ·rw [List.getElem?_set] at hm
  rw [hst]
  by_cases e1 : k.toNat = m
  ·rw [if_pos e1] at hm
   split at hm
   ·obtain rfl := Option.some.inj hm
    refine .inr ⟨by omega, by rw [← e1, hkk]; simp, ?_⟩
    refine ⟨j, x, by simpa using hx, by rw [← e1, hkk]; exact hk⟩
   ·cases hm
  ·rw [if_neg e1] at hm
   rcases h.val m u hm with ⟨h1, h2⟩ | ⟨h1, h2, h3⟩
   ·refine .inl ⟨h1, fun h4 => ?_⟩
    rcases List.mem_append.1 h4 with h4 | h4
    ·exact h2 h4
    ·have := List.mem_singleton.1 h4
     omega
   ·exact .inr ⟨h1, List.mem_append.2 (.inl h2), h3⟩
theorem PI.next {e : List Ex} {P : List Int} {i : Nat} {x : Ex} (h : PI e P i x.kids.length) (hx : e[i]? = some x) (hd : ∀ k ∈ x.kids, 0 ≤ k ∧ k < (i : Int)) : PI e P (i + 1) 0 where
 len := h.len
 nd := by rw [kidsTo_next hx]; exact h.nd
 val := by rw [kidsTo_next hx]; exact h.val
 dn := fun a y ha hy => by
  by_cases e1 : a = i
  ·subst e1
   rw [hx] at hy
   obtain rfl := Option.some.inj hy
   exact hd
  ·exact h.dn a y (by omega) hy
theorem PI.twice {e : List Ex} {P : List Int} {i j : Nat} {x : Ex} {k : Int} (h : PI e P i j) (hx : e[i]? = some x) (hk : x.kids[j]? = some k) (h0 : 0 ≤ k) (hi : k < (i : Int)) {v : Int} (hv : P[k.toNat]? = some v) (hv0 : 0 ≤ v) : ¬ TreeP e := fun hg => by
 have hkk : ((k.toNat : Nat) : Int) = k := by omega
 have hin : k ∈ kidsTo e i j := by
  rcases h.val _ _ hv with ⟨h1, _⟩ | ⟨_, h1, _⟩
  ·omega
  ·rwa [hkk] at h1
 have hil := (List.getElem?_eq_some_iff.1 hx).1
 have h1 := hg.2.2 k.toNat (by omega)
 rw [hkk] at h1
 obtain ⟨r, hr⟩ := kidsTo_all (j := j + 1) hx
 rw [hr, kidsTo_step hx hk, List.count_append, List.count_append] at h1
 have := List.count_pos_iff.2 hin
 simp at h1
 omega
theorem PI.all {e : List Ex} {P : List Int} (h : PI e P e.length 0) : Down e := fun i x hx => h.dn i x (List.getElem?_eq_some_iff.1 hx).1 hx
theorem PI.good {e : List Ex} {P : List Int} (h : PI e P e.length 0) (h0 : 0 < e.length) (hp : ∀ (k : Nat) (v : Int), k + 1 < e.length → P[k]? = some v → 0 ≤ v) : TreeP e := by
 refine ⟨h0, h.all, fun i hi => ?_⟩
 obtain ⟨v, hv⟩ : ∃ v, P[i]? = some v := ⟨_, List.getElem?_eq_getElem (by rw [h.len]; omega)⟩
 have h1 := hp i v hi hv
 have hnd := h.nd
 rcases h.val i v hv with ⟨h2, _⟩ | ⟨_, h2, _⟩
 ·omega
 ·rw [kidsTo_end] at h2 hnd
  have h3 := List.count_pos_iff.2 h2
  have h4 := (List.nodup_iff_count.1 hnd) (i : Int)
  omega
theorem PI.bad {e : List Ex} {P : List Int} (h : PI e P e.length 0) {k : Nat} {v : Int} (hk : k + 1 < e.length) (hv : P[k]? = some v) (h0 : v < 0) : ¬ TreeP e := fun hg => by
 rcases h.val k v hv with ⟨_, h2⟩ | ⟨h2, _⟩
 ·rw [kidsTo_end] at h2
  have h3 := hg.2.2 k hk
  have := List.count_eq_zero.2 h2
  omega
 ·omega
structure Parents (e : List Ex) (P : List Int) : Prop where
 len : P.length = e.length
 par : ∀ k p m, Par e k p m → P[k]? = some (p : Int)
 root : P[e.length - 1]? = some (-1)
theorem PI.parents {e : List Ex} {P : List Int} (h : PI e P e.length 0) (hg : TreeP e) : Parents e P where
 len := h.len
 par := fun k p m hp => by
  have hl := hp.lt hg.2.1
  obtain ⟨v, hv⟩ : ∃ v, P[k]? = some v := ⟨_, List.getElem?_eq_getElem (by rw [h.len]; omega)⟩
  obtain ⟨x, hx, hk⟩ := hp
  rcases h.val k v hv with ⟨_, h2⟩ | ⟨h1, _, m', hp'⟩
  ·rw [kidsTo_end] at h2
   exact absurd (mem_kidsAll.2 ⟨p, x, hx, List.mem_of_getElem? hk⟩) h2
  ·obtain ⟨e1, e2⟩ := hg.tree.uniq k p m v.toNat m' ⟨x, hx, hk⟩ hp'
   rw [hv]
   congr 1
   omega
 root := by
  have h0 := hg.1
  obtain ⟨v, hv⟩ : ∃ v, P[e.length - 1]? = some v := ⟨_, List.getElem?_eq_getElem (by rw [h.len]; omega)⟩
  rcases h.val _ v hv with ⟨h1, _⟩ | ⟨_, _, m, hp⟩
  ·rw [hv, h1]
  ·have := hp.lt hg.2.1
   omega
/-! ### depths -/
inductive UnderN (e : List Ex) : Nat → Nat → Nat → Prop where
 | here {i : Nat} : UnderN e i i 0
 | up {i p m j d : Nat} (hp : Par e i p m) (h : UnderN e p j d) : UnderN e i j (d + 1)
theorem UnderN.le {e : List Ex} (hd : Down e) {i j d : Nat} (h : UnderN e i j d) : i + d ≤ j := by
 induction h with
 | here => omega
 | up hp _ ih => have := hp.lt hd; omega
theorem UnderN.down {e : List Ex} {i k j m d : Nat} (h : UnderN e i k d) (hp : Par e k j m) : UnderN e i j (d + 1) := by
 induction h with
 | here => exact .up hp .here
 | up hp' _ ih => exact .up hp' (ih hp)
theorem UnderN.uniq {e : List Ex} (ht : IsTree e) {i j d d' : Nat} (h : UnderN e i j d) (h' : UnderN e i j d') : d = d' := by
 induction h generalizing d' with
 | here =>
  cases h' with
  | here => rfl
  | up hp h2 => have := h2.le ht.down; have := (hp.lt ht.down).1; omega
 | up hp h ih =>
  cases h' with
  | here => have := h.le ht.down; have := (hp.lt ht.down).1; omega
  | up hp2 h2 =>
   obtain ⟨rfl, rfl⟩ := ht.uniq _ _ _ _ _ hp hp2
   rw [ih h2]
theorem high_kid {e : List Ex} (hd : Down e) {i p m : Nat} (hp : Par e i p m) : high (grow e i) + 1 ≤ high (grow e p) := by
 obtain ⟨x, hx, hk⟩ := hp
 rw [high_eq hx (hd p x hx)]
 have h1 : mx e x (m + 1) ≤ mx e x x.kids.length := by
  unfold mx
  have : (x.kids.take x.kids.length).map (fun k => grow e k.toNat) = (x.kids.take (m + 1)).map (fun k => grow e k.toNat) ++ ((x.kids.take x.kids.length).drop (m + 1)).map fun k => grow e k.toNat := by
   rw [← List.map_append]
   congr 1
   rw [List.take_length, List.take_append_drop]
  rw [this, highs_append]
  omega
 rw [mx_succ hk] at h1
 simp at h1
 omega
theorem high_ge {e : List Ex} (hd : Down e) {i j d : Nat} (h : UnderN e i j d) : high (grow e i) + d ≤ high (grow e j) := by
 induction h with
 | here => omega
 | up hp _ ih => have := high_kid hd hp; omega
theorem highs_ex : ∀ {l : List Tr}, highs l = 0 ∨ ∃ (m : Nat) (t : Tr), l[m]? = some t ∧ high t = highs l
 | [] => .inl rfl
 | t :: r => by
  rw [highs]
  rcases highs_ex (l := r) with h | ⟨m, u, h1, h2⟩
  ·right
   exact ⟨0, t, rfl, by omega⟩
  ·by_cases hc : highs r ≤ high t
   ·exact .inr ⟨0, t, rfl, by omega⟩
   ·exact .inr ⟨m + 1, u, by simpa using h1, by omega⟩
theorem high_ex {e : List Ex} (hd : Down e) : ∀ (i : Nat), i < e.length → ∃ j d, j < e.length ∧ UnderN e j i d ∧ d + 1 = high (grow e i) := by
 intro i
 induction i using Nat.strongRecOn with
 | _ i ih =>
  intro hi
  have hx : e[i]? = some e[i] := List.getElem?_eq_getElem hi
  have hks := hd i _ hx
  rw [high_eq hx hks]
  unfold mx
  rw [List.take_length]
  rcases highs_ex (l := e[i].kids.map fun k => grow e k.toNat) with h | ⟨m, t, h1, h2⟩
  ·exact ⟨i, 0, hi, .here, by omega⟩
  ·rw [List.getElem?_map] at h1
   cases hk : (e[i].kids)[m]? with
   | none => simp [hk] at h1
   | some k =>
    simp only [hk, Option.map_some, Option.some.injEq] at h1
    subst h1
    have hlt := hks k (List.mem_of_getElem? hk)
    have hkn : ((k.toNat : Nat) : Int) = k := by omega
    obtain ⟨j, d, hj, hu, hh⟩ := ih k.toNat (by omega) (by omega)
    exact ⟨j, d + 1, hj, hu.down ⟨_, hx, by rw [hkn]; exact hk⟩, by omega⟩
def dep (e : List Ex) (P : List Int) (i : Nat) : Nat :=
 match P[i]? with
 | some p => if h : 0 ≤ p ∧ i < p.toNat ∧ p.toNat < e.length then dep e P p.toNat + 1 else 1
 | none => 1
termination_by e.length - i
theorem dep_root {e : List Ex} {P : List Int} {i : Nat} (h : P[i]? = some (-1)) : dep e P i = 1 := by
 rw [dep, h]
 simp
theorem dep_up {e : List Ex} {P : List Int} {i : Nat} {p : Int} (h : P[i]? = some p) (h0 : 0 ≤ p ∧ i < p.toNat ∧ p.toNat < e.length) : dep e P i = dep e P p.toNat + 1 := by
 rw [dep, h]
 simp only [h0, and_self, dif_pos]
def depths (e : List Ex) (P : List Int) (n : Nat) : Nat := (List.range n).foldl (fun m i => max m (dep e P i)) 0
theorem depths_succ (e : List Ex) (P : List Int) (n : Nat) : depths e P (n + 1) = max (depths e P n) (dep e P n) := by
 unfold depths
 rw [List.range_succ, List.foldl_append]
 rfl
theorem dep_under {e : List Ex} {P : List Int} (ht : IsTree e) (hP : Parents e P) : ∀ {i : Nat}, i < e.length → ∃ d, UnderN e i (e.length - 1) d ∧ dep e P i = d + 1 := by
 intro i hi
 induction hm : e.length - i using Nat.strongRecOn generalizing i with
 | _ m ih =>
  by_cases hl : i + 1 < e.length
  ·obtain ⟨p, q, hp⟩ := ht.one i hl
   have hlt := hp.lt ht.down
   obtain ⟨d, hu, hd⟩ := ih (e.length - p) (by omega) hlt.2 rfl
   refine ⟨d + 1, .up hp hu, ?_⟩
   rw [dep_up (hP.par i p q hp) (by omega)]
   simp only [Int.toNat_natCast]
   rw [hd]
  ·have hi1 : i = e.length - 1 := by omega
   rw [hi1]
   exact ⟨0, .here, dep_root hP.root⟩
theorem depths_le {e : List Ex} {P : List Int} (ht : IsTree e) (hP : Parents e P) (h0 : 0 < e.length) : ∀ {n : Nat}, n ≤ e.length → depths e P n ≤ high (grow e (e.length - 1))
 | 0, _ => Nat.zero_le _
 | n + 1, h => by
  rw [depths_succ]
  have h1 := depths_le ht hP h0 (n := n) (by omega)
  obtain ⟨d, hu, hd⟩ := dep_under ht hP (i := n) (by omega)
  have h2 := high_ge ht.down hu
  have h3 : 0 < high (grow e n) := by
   have hx : e[n]? = some e[n] := List.getElem?_eq_getElem (by omega)
   rw [high_eq hx (ht.down n _ hx)]
   omega
  omega
theorem depths_ge {e : List Ex} {P : List Int} : ∀ {n i : Nat}, i < n → dep e P i ≤ depths e P n
 | n + 1, i, h => by
  rw [depths_succ]
  by_cases e1 : i = n
  ·subst e1
   omega
  ·have := depths_ge (e := e) (P := P) (n := n) (i := i) (by omega)
   omega
theorem depths_high {e : List Ex} {P : List Int} (ht : IsTree e) (hP : Parents e P) (h0 : 0 < e.length) : depths e P e.length = high (grow e (e.length - 1)) := by
 have h1 := depths_le ht hP h0 (Nat.le_refl _)
 obtain ⟨j, d, hj, hu, hh⟩ := high_ex ht.down (e.length - 1) (by omega)
 obtain ⟨d', hu', hd'⟩ := dep_under ht hP hj
 have := UnderN.uniq ht hu hu'
 have := depths_ge (e := e) (P := P) hj
 omega
/-! ### binders -/
def hitK (x : Ex) (i : Nat) (n : Int) (m : Nat) : Bool := decide (x.kids[m]? = some (i : Int)) && decide (n ∈ scopeX x m)
def hit (x : Ex) (i : Nat) (n : Int) : Bool := (List.range x.kids.length).any (hitK x i n)
def bnd (e : List Ex) (P : List Int) (n : Int) (i : Nat) : Int :=
 match P[i]? with
 | some p => if h : 0 ≤ p ∧ i < p.toNat ∧ p.toNat < e.length then (if hit (e.getD p.toNat ⟨0, 0, [], [], []⟩) i n then p else bnd e P n p.toNat) else -1
 | none => -1
termination_by e.length - i
theorem bnd_root {e : List Ex} {P : List Int} {n : Int} {i : Nat} (h : P[i]? = some (-1)) : bnd e P n i = -1 := by
 rw [bnd, h]
 simp
theorem bnd_up {e : List Ex} {P : List Int} {n : Int} {i p : Nat} {x : Ex} (h : P[i]? = some (p : Int)) (h0 : i < p) (hx : e[p]? = some x) : bnd e P n i = if hit x i n then (p : Int) else bnd e P n p := by
 have hl := (List.getElem?_eq_some_iff.1 hx).1
 rw [bnd, h]
 simp only [Int.toNat_natCast]
 rw [dif_pos ⟨by omega, h0, hl⟩]
 simp only [List.getD, hx, Option.getD_some]
theorem hit_par {e : List Ex} (ht : IsTree e) {i p m : Nat} {x : Ex} (hp : Par e i p m) (hx : e[p]? = some x) (n : Int) : hit x i n = true ↔ n ∈ scopeX x m := by
 obtain ⟨x', hx', hk⟩ := hp
 rw [hx] at hx'
 obtain rfl := Option.some.inj hx'
 unfold hit
 rw [List.any_eq_true]
 constructor
 ·rintro ⟨m', hm', hh⟩
  unfold hitK at hh
  simp only [Bool.and_eq_true, decide_eq_true_eq] at hh
  obtain ⟨_, rfl⟩ := ht.uniq i p m p m' ⟨x, hx, hk⟩ ⟨x, hx, hh.1⟩
  exact hh.2
 ·intro h
  refine ⟨m, List.mem_range.2 (List.getElem?_eq_some_iff.1 hk).1, ?_⟩
  unfold hitK
  simp only [Bool.and_eq_true, decide_eq_true_eq]
  exact ⟨hk, h⟩
theorem bnd_spec {e : List Ex} {P : List Int} (ht : IsTree e) (hP : Parents e P) (n : Int) : ∀ {i : Nat}, i < e.length →
  (bnd e P n i = -1 ∧ ∀ sc, Under e i (e.length - 1) sc → ¬ n ∈ sc) ∨ ∃ (k p m : Nat) (x : Ex) (sc : List Int), bnd e P n i = (p : Int) ∧ Under e i k sc ∧ ¬ n ∈ sc ∧ Par e k p m ∧ e[p]? = some x ∧ n ∈ scopeX x m := by
 intro i hi
 induction hm : e.length - i using Nat.strongRecOn generalizing i with
 | _ N ih =>
  by_cases hl : i + 1 < e.length
  ·obtain ⟨p, m, hp⟩ := ht.one i hl
   have hlt := hp.lt ht.down
   obtain ⟨x, hx, hk⟩ := hp
   have hp : Par e i p m := ⟨x, hx, hk⟩
   rw [bnd_up (hP.par i p m hp) hlt.1 hx]
   by_cases hh : hit x i n = true
   ·rw [if_pos hh]
    exact .inr ⟨i, p, m, x, [], rfl, .here, by simp, hp, hx, (hit_par ht hp hx n).1 hh⟩
   ·rw [if_neg hh]
    have hns : ¬ n ∈ scopeX x m := fun h => hh ((hit_par ht hp hx n).2 h)
    rcases ih (e.length - p) (by omega) hlt.2 rfl with ⟨h1, h2⟩ | ⟨k, p', m', x', sc, h1, h2, h3, h4, h5, h6⟩
    ·refine .inl ⟨h1, fun sc hu => ?_⟩
     cases hu with
     | here => simp
     | up hp2 hx2 hu2 =>
      obtain ⟨rfl, rfl⟩ := ht.uniq _ _ _ _ _ hp hp2
      rw [hx] at hx2
      obtain rfl := Option.some.inj hx2
      rw [List.mem_append]
      rintro (h | h)
      ·exact hns h
      ·exact h2 _ hu2 h
    ·refine .inr ⟨k, p', m', x', scopeX x m ++ sc, h1, .up hp hx h2, ?_, h4, h5, h6⟩
     rw [List.mem_append]
     rintro (h | h)
     ·exact hns h
     ·exact h3 h
  ·have hi1 : i = e.length - 1 := by omega
   rw [hi1]
   refine .inl ⟨bnd_root hP.root, fun sc hu => ?_⟩
   cases hu with
   | here => simp
   | up hp2 hx2 hu2 =>
    have := hu2.le ht.down
    have := hp2.lt ht.down
    omega
theorem Under.append {e : List Ex} {i j k : Nat} {sc sc' : List Int} (h : Under e i j sc) (h' : Under e j k sc') : Under e i k (sc ++ sc') := by
 induction h with
 | here => simpa using h'
 | up hp hx _ ih =>
  have := Under.up hp hx (ih h')
  simpa [List.append_assoc] using this
theorem bnd_neg {e : List Ex} {P : List Int} (ht : IsTree e) (hP : Parents e P) (n : Int) {i : Nat} (hi : i < e.length) : bnd e P n i < 0 ↔ ∀ sc, Under e i (e.length - 1) sc → ¬ n ∈ sc := by
 rcases bnd_spec ht hP n hi with ⟨h1, h2⟩ | ⟨k, p, m, x, sc, h1, h2, h3, h4, h5, h6⟩
 ·rw [h1]
  exact ⟨fun _ => h2, fun _ => by omega⟩
 ·rw [h1]
  constructor
  ·intro h
   omega
  ·intro h
   obtain ⟨sc', hu⟩ := ht.root (h4.lt ht.down).2
   have h7 := h _ (h2.append (.up h4 h5 hu))
   exact absurd (by simp [h6]) h7
end Go.Co

/- The walks of the reference's In, Scope and Binds. Conditions: none. -/
namespace Go.Co
open Go.Eng Go.RowKit
theorem drop_mem {l : List Int} {i : Nat} {v n : Int} (h : l[i]? = some v) : n ∈ l.drop i ↔ v = n ∨ n ∈ l.drop (i + 1) := by
 obtain ⟨hi, rfl⟩ := List.getElem?_eq_some_iff.1 h
 rw [List.drop_eq_getElem_cons hi, List.mem_cons]
 exact ⟨fun h => h.imp Eq.symm id, fun h => h.imp Eq.symm id⟩
end Go.Co
namespace Go.Proofs.YtkpjndhgicbjjaaDoor.co
open Go.RowKit Go.Eng Go.Co
set_option maxRecDepth 100000
theorem In_calls (q : Option Addr) (cap : Nat) (l : List Int) (s : Int) (w : World) (hlen : l.length ≤ 9223372036854775807) (h : IntsO w (low w) l q) :
  Calls Tryd.prog 30 [.slice q l.length cap, .int .i64 s].toArray w fun e w' => e = .returned (.bool (decide (s ∈ l))) ∧ Ext w w' := by
 refine enter Tryd.func30 rfl Tryd.ntmps30 rfl (Cls.start w) ?_
 (simp only [argEnv, Nat.zero_add, Nat.reduceAdd])
 apply W.sr
 apply oas; rfl; rfl
 apply OL.nx
 apply W.seq
 apply W.sr
 apply omv; rfl; rfl
 apply oop; rfl; apply Pev.len_slice; rfl; exact yes; rfl
 apply omv; rfl; rfl
 apply OL.nx
 apply W.block
 refine W.loop (G := Nat) (fun i => i ≤ l.length ∧ (s ∈ l.drop i ↔ s ∈ l)) (fun i => l.length - i)
  (fun i => [(1, true, .int .i64 s), (7, true, .slice q l.length cap), (8, true, .int .i64 (l.length : Int)), (9, true, .int .i64 (i : Int))])
  (fun i => Cls [] [w]) 0 ⟨by omega, by simp⟩ (by exact Sub.au) (fun w' hw' => hw') ?_
 rintro i ⟨hi, hrest⟩
 apply W.sr
 apply obn; rfl; rfl; rfl; apply Bin.lss
 apply OL.nx
 apply W.seq
 (refine W.cnd (fun hlt => ?_) (fun hlt => ?_)) <;> (try (exfalso; first | omega | exact hlt trivial | contradiction))
 ·obtain ⟨a, u, rfl, hab, hu, hcell⟩ := h.get (show i < l.length by omega)
  have hab : a.block < w.heap.size := hab
  rw [drop_mem hu] at hrest
  apply W.sk
  apply W.sb
  apply W.sr
  apply oop; rfl; apply Pev.idx; rfl; exact yes; rfl; exact yes; rfl; rfl; intro hcond; omega
  apply oop; rfl; apply Pev.load_kept; rfl; exact yes; exact .head _; rfl; intro hcond; assumption; intro hcond; (rw [add_block]; assumption); intro hcond; exact NotOwned.au
  apply oas; rfl; rfl
  apply OL.nsr
  apply omv; rfl; rfl
  apply omv; rfl; rfl
  apply obn; rfl; rfl; rfl; apply Bin.eql
  apply OL.nx
  (refine W.cnd (fun heq => ?_) (fun heq => ?_)) <;> (try (exfalso; first | omega | exact heq trivial | contradiction))
  ·apply W.sr
   apply oas; rfl; rfl
   apply OL.nx
   refine W.rt ?_
   ((with_reducible apply At.fin1); rfl; rfl; intro w' hw')
   have : s ∈ l := hrest.1 (.inl heq)
   exact ⟨by simp [this], by (exact hw'.fr)⟩
  ·apply W.skip
   with_reducible apply At.in_normal
   with_reducible apply At.next
   apply W.reg
   apply obn; rfl; rfl; rfl; apply Bin.add_in; omega
   apply omv; rfl; rfl
   apply OL.nil
   refine At.again (i + 1) ⟨by omega, ?_⟩ (by omega) (by exact Sub.au) (fun w' hw' => hw')
   rw [← hrest]
   exact ⟨.inr, fun h => h.resolve_left heq⟩
 ·refine W.xt ?_
  with_reducible apply At.next
  apply W.sr
  apply oas; rfl; rfl
  apply OL.nx
  apply W.ret
  ((with_reducible apply At.fin1); rfl; rfl; intro w' hw')
  rw [List.drop_eq_nil_of_le (by omega)] at hrest
  have : ¬ s ∈ l := fun h => by simpa using hrest.2 h
  exact ⟨by simp [this], by (exact hw'.fr)⟩
theorem Scope_calls (x : Ex) (y : ExY) (k : Nat) (w : World) (h : ExOk w (low w) x y) (hk7 : x.op = 7 ∨ x.op = 13 → k ≤ x.alts.length) (ha : ¬ (x.op = 7 ∨ x.op = 13) → x.alts.length = 0) (hk : k ≤ 140737488355328) :
  ∃ q c, IntsO w (low w) (scopeX x k) q ∧ (scopeX x k).length ≤ 140737488355328 ∧ ∀ w2, (∀ k, k < w.heap.size → w2.heap[k]? = w.heap[k]?) → w.heap.size ≤ w2.heap.size → Calls Tryd.prog 54 [.agg (exC x y).toArray, .int .i64 (k : Int)].toArray w2 fun e w' => e = .returned (.slice q (scopeX x k).length c) ∧ Ext w2 w' := by
 obtain ⟨ps, hps, harr⟩ := h.alts
 have hpl : x.alts.length = ps.length := by rw [← hps, List.length_map]
 have hal := h.al
 have hbl := h.bl
 by_cases hA : x.op = 2 ∨ x.op = 5 ∨ (x.op = 4 ∧ k = 1)
 ·have hs : scopeX x k = x.binds := by unfold scopeX bound; rw [if_pos hA]
  rw [hs]
  refine ⟨y.b.1, y.b.2, h.b, hbl, fun w2 hsame hsz => ?_⟩
  refine enter Tryd.func54 rfl Tryd.ntmps54 rfl (Cls.start w2) ?_
  (simp only [argEnv, Nat.zero_add, Nat.reduceAdd])
  simp only [exC]
  apply W.sr
  apply OL.box; rfl; rfl; exact CellsL.agg; (intro bk hbk; simp only [AllLe, and_true] at hbk)
  apply oas; rfl; rfl
  apply OL.nx
  apply W.seq
  apply W.sr
  apply ofa; rfl; rfl; rfl
  apply old; rfl; rfl; exact .head _; rfl; rfl
  apply obn; rfl; rfl; rfl; apply Bin.eql
  apply omv; rfl; rfl
  apply ono; rfl; rfl; rfl; apply Pev.fld; rfl; exact yes; rfl
  apply ono; rfl; rfl; rfl; apply Pev.load_blk; rfl; exact fun h => h; exact .head _; rfl; rfl
  apply ono; rfl; rfl; rfl; apply Pev.bin; rfl; exact fun h => h; rfl; exact yes; intro hcond; apply Bin.eql
  apply oop; rfl; apply Pev.pick_or; rfl; exact yes; rfl; exact fun h => h
  apply omv; rfl; rfl
  apply ono; rfl; rfl; rfl; apply Pev.fld; rfl; exact yes; rfl
  apply ono; rfl; rfl; rfl; apply Pev.load_blk; rfl; exact fun h => h; exact .head _; rfl; rfl
  apply ono; rfl; rfl; rfl; apply Pev.bin; rfl; exact fun h => h; rfl; exact yes; intro hcond; apply Bin.eql
  apply ono; rfl; rfl; rfl; apply Pev.move; rfl; exact fun h => h
  apply OL.op; exact Guard.cyes rfl rfl; rfl; rfl; apply Pev.move; rfl; exact yes
  apply OL.op; exact Guard.cyes rfl rfl; rfl; rfl; apply Pev.bin; rfl; exact fun h => h; rfl; exact yes; intro hcond; apply Bin.eql
  apply ono; rfl; rfl; rfl; apply Pev.pick_and; rfl; exact fun h => h; rfl; exact fun h => h
  apply oop; rfl; apply Pev.pick_or; rfl; exact yes; rfl; exact fun h => h
  apply OL.nx
  refine W.cond rfl (fun hb => ?_) (fun hb => by grind)
  apply W.sr
  apply ofa; rfl; rfl; rfl
  apply old; rfl; rfl; exact .head _; rfl; rfl
  apply oas; rfl; rfl
  apply OL.nx
  refine W.rt ?_
  ((with_reducible apply At.fin1); rfl; rfl; intro w' hw')
  exact ⟨rfl, by (exact hw'.fr)⟩
 have hs0 : scopeX x k = if 0 < x.alts.length ∧ 0 < k ∧ k ≤ x.alts.length then (x.alts.getD (k - 1) ⟨0, []⟩).binds else [] := by unfold scopeX bound; rw [if_neg hA]
 by_cases hB : (x.op = 7 ∨ x.op = 13) ∧ 0 < k
 ·have hka := hk7 hB.1
  obtain ⟨a, u, hq, hab1, hu, hcell, hok⟩ := harr.get (i := k - 1) (by omega)
  have hab1 : a.block < w.heap.size := hab1
  have hcell : CellsAt w (a.add (((k : Int) - 1).toNat * 2)) [.int .i64 u.1.tag, .slice u.2.1 u.1.binds.length u.2.2] := by rw [show ((k : Int) - 1).toNat = k - 1 by omega]; exact hcell
  have hs : scopeX x k = u.1.binds := by
   rw [hs0, if_pos ⟨by omega, hB.2, hka⟩]
   have : x.alts[k - 1]? = some u.1 := by rw [← hps, List.getElem?_map, hu]; rfl
   simp [List.getD, this]
  rw [hs]
  refine ⟨u.2.1, u.2.2, hok.2.2, hok.2.1.1, fun w2 hsame hsz => ?_⟩
  have hcell : CellsAt w2 (a.add (((k : Int) - 1).toNat * 2)) [.int .i64 u.1.tag, .slice u.2.1 u.1.binds.length u.2.2] := cells_stab (by rw [add_block]; exact hsame _ hab1) hcell
  have hab1 : a.block < w2.heap.size := Nat.lt_of_lt_of_le hab1 hsz
  have hkx : k ≤ x.alts.length := hka
  refine enter Tryd.func54 rfl Tryd.ntmps54 rfl (Cls.start w2) ?_
  (simp only [argEnv, Nat.zero_add, Nat.reduceAdd])
  simp only [exC, hq]
  apply W.sr
  apply OL.box; rfl; rfl; exact CellsL.agg; (intro bk hbk; simp only [AllLe, and_true] at hbk)
  apply oas; rfl; rfl
  apply OL.nx
  apply W.seq
  apply W.sr
  apply ofa; rfl; rfl; rfl
  apply old; rfl; rfl; exact .head _; rfl; rfl
  apply obn; rfl; rfl; rfl; apply Bin.eql
  apply omv; rfl; rfl
  apply ono; rfl; rfl; rfl; apply Pev.fld; rfl; exact yes; rfl
  apply ono; rfl; rfl; rfl; apply Pev.load_blk; rfl; exact fun h => h; exact .head _; rfl; rfl
  apply ono; rfl; rfl; rfl; apply Pev.bin; rfl; exact fun h => h; rfl; exact yes; intro hcond; apply Bin.eql
  apply oop; rfl; apply Pev.pick_or; rfl; exact yes; rfl; exact fun h => h
  apply omv; rfl; rfl
  apply ono; rfl; rfl; rfl; apply Pev.fld; rfl; exact yes; rfl
  apply ono; rfl; rfl; rfl; apply Pev.load_blk; rfl; exact fun h => h; exact .head _; rfl; rfl
  apply ono; rfl; rfl; rfl; apply Pev.bin; rfl; exact fun h => h; rfl; exact yes; intro hcond; apply Bin.eql
  apply ono; rfl; rfl; rfl; apply Pev.move; rfl; exact fun h => h
  apply OL.op; exact Guard.cyes rfl rfl; rfl; rfl; apply Pev.move; rfl; exact yes
  apply OL.op; exact Guard.cyes rfl rfl; rfl; rfl; apply Pev.bin; rfl; exact fun h => h; rfl; exact yes; intro hcond; apply Bin.eql
  apply ono; rfl; rfl; rfl; apply Pev.pick_and; rfl; exact fun h => h; rfl; exact fun h => h
  apply oop; rfl; apply Pev.pick_or; rfl; exact yes; rfl; exact fun h => h
  apply OL.nx
  refine W.cond rfl (fun hb => by grind) (fun hb => ?_)
  apply W.sk
  apply W.seq
  apply W.sr
  apply ofa; rfl; rfl; rfl
  apply old; rfl; rfl; exact .head _; rfl; rfl
  apply obn; rfl; rfl; rfl; apply Bin.eql
  apply omv; rfl; rfl
  apply ono; rfl; rfl; rfl; apply Pev.fld; rfl; exact yes; rfl
  apply ono; rfl; rfl; rfl; apply Pev.load_blk; rfl; exact fun h => h; exact .head _; rfl; rfl
  apply ono; rfl; rfl; rfl; apply Pev.bin; rfl; exact fun h => h; rfl; exact yes; intro hcond; apply Bin.eql
  apply oop; rfl; apply Pev.pick_or; rfl; exact yes; rfl; exact fun h => h
  apply omv; rfl; rfl
  apply oy; rfl; rfl; rfl; apply Pev.move; rfl; exact yes
  apply oy; rfl; rfl; rfl; apply Pev.bin; rfl; exact fun h => h; rfl; exact yes; intro hcond; apply Bin.gtr
  apply oop; rfl; apply Pev.pick_and; rfl; exact yes; rfl; exact fun h => h
  apply OL.nx
  refine W.cond rfl (fun hb2 => ?_) (fun hb2 => by grind)
  apply W.sr
  apply ofa; rfl; rfl; rfl
  apply old; rfl; rfl; exact .head _; rfl; rfl
  apply omv; rfl; rfl
  apply obn; rfl; rfl; rfl; apply Bin.sub_in; omega
  apply oop; rfl; apply Pev.idxI; rfl; exact yes; rfl; exact yes; rfl; intro hcond; omega
  apply oop; rfl; apply Pev.fldA; rfl; exact yes; rfl
  apply oop; rfl; apply Pev.load_kept; rfl; exact yes; exact .head _; rfl; intro hcond; apply CellsAt.at_ (by assumption) rfl; intro hcond; (simp only [add_block]; assumption); intro hcond; exact NotOwned.au
  apply oas; rfl; rfl
  apply OL.nx
  refine W.rt ?_
  ((with_reducible apply At.fin1); rfl; rfl; intro w' hw')
  exact ⟨rfl, by (exact hw'.fr)⟩
 ·have hs : scopeX x k = [] := by
   rw [hs0, if_neg]
   rintro ⟨h1, h2, h3⟩
   by_cases h7 : x.op = 7 ∨ x.op = 13
   ·exact hB ⟨h7, h2⟩
   ·have := ha h7
    omega
  rw [hs]
  refine ⟨none, 0, IntsO.nil, by simp, fun w2 hsame hsz => ?_⟩
  refine enter Tryd.func54 rfl Tryd.ntmps54 rfl (Cls.start w2) ?_
  (simp only [argEnv, Nat.zero_add, Nat.reduceAdd])
  simp only [exC]
  apply W.sr
  apply OL.box; rfl; rfl; exact CellsL.agg; (intro bk hbk; simp only [AllLe, and_true] at hbk)
  apply oas; rfl; rfl
  apply OL.nx
  apply W.seq
  apply W.sr
  apply ofa; rfl; rfl; rfl
  apply old; rfl; rfl; exact .head _; rfl; rfl
  apply obn; rfl; rfl; rfl; apply Bin.eql
  apply omv; rfl; rfl
  apply ono; rfl; rfl; rfl; apply Pev.fld; rfl; exact yes; rfl
  apply ono; rfl; rfl; rfl; apply Pev.load_blk; rfl; exact fun h => h; exact .head _; rfl; rfl
  apply ono; rfl; rfl; rfl; apply Pev.bin; rfl; exact fun h => h; rfl; exact yes; intro hcond; apply Bin.eql
  apply oop; rfl; apply Pev.pick_or; rfl; exact yes; rfl; exact fun h => h
  apply omv; rfl; rfl
  apply ono; rfl; rfl; rfl; apply Pev.fld; rfl; exact yes; rfl
  apply ono; rfl; rfl; rfl; apply Pev.load_blk; rfl; exact fun h => h; exact .head _; rfl; rfl
  apply ono; rfl; rfl; rfl; apply Pev.bin; rfl; exact fun h => h; rfl; exact yes; intro hcond; apply Bin.eql
  apply ono; rfl; rfl; rfl; apply Pev.move; rfl; exact fun h => h
  apply OL.op; exact Guard.cyes rfl rfl; rfl; rfl; apply Pev.move; rfl; exact yes
  apply OL.op; exact Guard.cyes rfl rfl; rfl; rfl; apply Pev.bin; rfl; exact fun h => h; rfl; exact yes; intro hcond; apply Bin.eql
  apply ono; rfl; rfl; rfl; apply Pev.pick_and; rfl; exact fun h => h; rfl; exact fun h => h
  apply oop; rfl; apply Pev.pick_or; rfl; exact yes; rfl; exact fun h => h
  apply OL.nx
  refine W.cond rfl (fun hb => by grind) (fun hb => ?_)
  apply W.sk
  apply W.seq
  apply W.sr
  apply ofa; rfl; rfl; rfl
  apply old; rfl; rfl; exact .head _; rfl; rfl
  apply obn; rfl; rfl; rfl; apply Bin.eql
  apply omv; rfl; rfl
  apply ono; rfl; rfl; rfl; apply Pev.fld; rfl; exact yes; rfl
  apply ono; rfl; rfl; rfl; apply Pev.load_blk; rfl; exact fun h => h; exact .head _; rfl; rfl
  apply ono; rfl; rfl; rfl; apply Pev.bin; rfl; exact fun h => h; rfl; exact yes; intro hcond; apply Bin.eql
  apply oop; rfl; apply Pev.pick_or; rfl; exact yes; rfl; exact fun h => h
  apply omv; rfl; rfl
  apply oy; rfl; rfl; rfl; apply Pev.move; rfl; exact yes
  apply oy; rfl; rfl; rfl; apply Pev.bin; rfl; exact fun h => h; rfl; exact yes; intro hcond; apply Bin.gtr
  apply oop; rfl; apply Pev.pick_and; rfl; exact yes; rfl; exact fun h => h
  apply OL.nx
  refine W.cond rfl (fun hb2 => by grind) (fun hb2 => ?_)
  apply W.sk
  apply W.sr
  apply oas; rfl; rfl
  apply OL.nx
  apply W.ret
  ((with_reducible apply At.fin1); rfl; rfl; intro w' hw')
  exact ⟨rfl, by (exact hw'.fr)⟩
theorem Binds_calls (x : Ex) (y : ExY) (w : World) (h : ExOk w (low w) x y) (hl : x.binds.length ≤ 16) (hall : x.alts.length ≤ 4096) (hab : ∀ a ∈ x.alts, a.binds.length ≤ 16) :
  Calls Tryd.prog 19 [.agg (exC x y).toArray].toArray w fun e w' => ∃ q c, e = .returned (.slice q (bindersX x).length c) ∧ Ext w w' ∧ IntsO w' (fresh w w') (bindersX x) q ∧ (bindersX x).length ≤ c := by
 obtain ⟨ps, hps, harr⟩ := h.alts
 have hpl : x.alts.length = ps.length := by rw [← hps, List.length_map]
 refine enter Tryd.func19 rfl Tryd.ntmps19 rfl (Cls.start w) ?_
 (simp only [argEnv, Nat.zero_add, Nat.reduceAdd])
 simp only [exC]
 apply W.sr
 apply OL.box; rfl; rfl; exact CellsL.agg; (intro bk hbk; simp only [AllLe, and_true] at hbk)
 apply oas; rfl; rfl
 apply OL.nsr
 apply oas; rfl; rfl
 apply OL.nx
 apply W.seq
 apply W.sr
 apply ofa; rfl; rfl; rfl
 apply old; rfl; rfl; exact .head _; rfl; rfl
 apply obn; rfl; rfl; rfl; apply Bin.eql
 apply omv; rfl; rfl
 apply ono; rfl; rfl; rfl; apply Pev.fld; rfl; exact yes; rfl
 apply ono; rfl; rfl; rfl; apply Pev.load_blk; rfl; exact fun h => h; exact .head _; rfl; rfl
 apply ono; rfl; rfl; rfl; apply Pev.bin; rfl; exact fun h => h; rfl; exact yes; intro hcond; apply Bin.eql
 apply oop; rfl; apply Pev.pick_or; rfl; exact yes; rfl; exact fun h => h
 apply omv; rfl; rfl
 apply ono; rfl; rfl; rfl; apply Pev.fld; rfl; exact yes; rfl
 apply ono; rfl; rfl; rfl; apply Pev.load_blk; rfl; exact fun h => h; exact .head _; rfl; rfl
 apply ono; rfl; rfl; rfl; apply Pev.bin; rfl; exact fun h => h; rfl; exact yes; intro hcond; apply Bin.eql
 apply oop; rfl; apply Pev.pick_or; rfl; exact yes; rfl; exact fun h => h
 apply OL.nx
 refine W.cls (fun w' hw' => hw'.row_nil w.heap.size 3 1) ?_
 refine W.joinx (G := GR) (fun _ => True) (fun g => [(1, true, .pointer (some ⟨bk, 0, none⟩)), (3, true, .slice g.q (if x.op = 2 ∨ x.op = 4 ∨ x.op = 5 then x.binds else []).length g.c)]) (fun g => Cls [row w.heap.size g.O g.q (if x.op = 2 ∨ x.op = 4 ∨ x.op = 5 then x.binds else []).length g.c 3 1 (ints (if x.op = 2 ∨ x.op = 4 ∨ x.op = 5 then x.binds else [])), blk bk 43 [.int .i64 x.op, .int .i64 x.n, .slice y.b.1 x.binds.length y.b.2, .slice y.k.1 x.kids.length y.k.2, .slice y.a.1 x.alts.length y.a.2]] [w]) ?_ ?_
 ·refine W.cond rfl (fun hb => ?_) (fun hb => ?_)
  ·have hop : x.op = 2 ∨ x.op = 4 ∨ x.op = 5 := by grind
   rw [if_pos hop]
   apply W.reg
   apply omv; rfl; rfl
   apply ofa; rfl; rfl; rfl
   apply old; rfl; rfl; exact .tail _ (.head _); rfl; rfl
   (apply OL.appendK (news := ints x.binds)); rfl; rfl; rfl; rfl; (exact Hole.au); (exact fun w2 hw2 => (h.b.at hw2 (.head _) (fun k hk => by exact NotOwned.au)).slAt); (rw [ints_length, Nat.mul_one]); (exact ints_oneL _); (exact ⟨w, .head _, Nat.le_refl _⟩); (omega); (intro O1 q1 c1)
   simp only [Nat.zero_add, List.nil_append]
   apply oas; rfl; rfl
   apply OL.nil
   exact At.joinedx ⟨O1, q1, c1⟩ trivial (by exact Sub.au) (fun w' hw' => hw')
  ·have hop : ¬ (x.op = 2 ∨ x.op = 4 ∨ x.op = 5) := by grind
   rw [if_neg hop]
   apply W.skip
   exact At.joinedx ⟨_, none, 0⟩ trivial (by exact Sub.au) (fun w' hw' => hw')
 rintro ⟨O0, q0, c0⟩ -
 simp only
 have hL0l : (if x.op = 2 ∨ x.op = 4 ∨ x.op = 5 then x.binds else []).length ≤ 16 := by split <;> simp [hl]
 unfold bindersX
 generalize (if x.op = 2 ∨ x.op = 4 ∨ x.op = 5 then x.binds else []) = L0 at *
 have habp : ∀ p ∈ ps, p.1.binds.length ≤ 16 := fun p hp => hab p.1 (by rw [← hps]; exact List.mem_map_of_mem hp)
 have hfl : ∀ i, ((ps.take i).flatMap fun p => p.1.binds).length ≤ 65536 := fun i => by
  have h1 := flat_len (l := x.alts.take i) fun a ha => hab a (List.mem_of_mem_take ha)
  have h3 : (x.alts.take i).flatMap Al.binds = (ps.take i).flatMap fun p => p.1.binds := by
   rw [← hps, ← List.map_take, List.flatMap_map]
  rw [h3] at h1
  simp only [List.length_take] at h1
  omega
 have hall2 : x.alts.flatMap Al.binds = ps.flatMap fun p => p.1.binds := by rw [← hps, List.flatMap_map]
 rw [hall2]
 simp only [hpl] at *
 apply W.seq
 apply W.sr
 apply ofa; rfl; rfl; rfl
 apply old; rfl; rfl; exact .tail _ (.head _); rfl; rfl
 apply oop; rfl; apply Pev.len_slice; rfl; exact yes; rfl
 apply omv; rfl; rfl
 apply OL.nx
 apply W.block
 refine W.loop (G := Nat × GR) (fun g => g.1 ≤ ps.length) (fun g => ps.length - g.1)
  (fun g => [(3, true, .slice g.2.q (L0 ++ (ps.take g.1).flatMap fun p => p.1.binds).length g.2.c), (24, true, .slice y.a.1 ps.length y.a.2), (25, true, .int .i64 (ps.length : Int)), (26, true, .int .i64 (g.1 : Int))])
  (fun g => Cls [row w.heap.size g.2.O g.2.q (L0 ++ (ps.take g.1).flatMap fun p => p.1.binds).length g.2.c 3 1 (ints (L0 ++ (ps.take g.1).flatMap fun p => p.1.binds))] [w]) (0, ⟨O0, q0, c0⟩) (by simp) (by simp only [List.take_zero, List.flatMap_nil, List.append_nil]; exact Sub.au) (fun w' hw' => by simpa using hw'.thin (by exact Thin.au)) ?_
 rintro ⟨i, ⟨O1, q1, c1⟩⟩ hi
 simp only at hi ⊢
 apply W.sr
 apply obn; rfl; rfl; rfl; apply Bin.lss
 apply OL.nx
 apply W.seq
 (refine W.cnd (fun hlt => ?_) (fun hlt => ?_)) <;> (try (exfalso; first | omega | exact hlt trivial | contradiction))
 ·have hil : i < ps.length := by omega
  obtain ⟨a, u, hq, hab1, hu, hcell, hok⟩ := harr.get hil
  have hab1 : a.block < w.heap.size := hab1
  have hcell : CellsAt w (a.add (i * 2)) [.int .i64 u.1.tag, .slice u.2.1 u.1.binds.length u.2.2] := hcell
  have hub := habp u (List.mem_of_getElem? hu)
  have hi1 := hfl i
  have hsnoc : (L0 ++ (ps.take (i + 1)).flatMap fun p => p.1.binds) = (L0 ++ (ps.take i).flatMap fun p => p.1.binds) ++ u.1.binds := by
   rw [List.take_add_one, hu]
   simp
  have hll : (L0 ++ (ps.take i).flatMap fun p => p.1.binds).length ≤ 65552 := by rw [List.length_append]; omega
  rw [hq]
  apply W.sk
  apply W.sb
  apply W.sr
  apply oop; rfl; apply Pev.idx; rfl; exact yes; rfl; exact yes; rfl; rfl; intro hcond; omega
  apply oop; rfl; apply Pev.load_keptA; rfl; exact yes; exact .head _; rfl; intro hcond; assumption; rfl; intro hcond; (rw [add_block]; assumption); intro hcond; exact NotOwned.au
  apply OL.alloc; rfl; rfl; exact CellsL.agg; (intro bk hbk; simp only [AllLe, and_true] at hbk)
  apply OL.storeB; rfl; rfl; exact CellsL.agg; rfl; rfl; rfl; exact Swap.au; exact Put.au
  apply OL.nx
  apply W.reg
  apply omv; rfl; rfl
  apply ofa; rfl; rfl; rfl
  apply old; rfl; rfl; exact .head _; rfl; rfl
  (apply OL.appendK (news := ints u.1.binds)); rfl; rfl; rfl; rfl; (exact Hole.au); (exact fun w2 hw2 => (hok.2.2.at hw2 (.head _) (fun k hk => by exact NotOwned.au)).slAt); (rw [ints_length, Nat.mul_one]); (exact ints_oneL _); (exact ⟨w, .head _, Nat.le_refl _⟩); (omega); (intro O2 q2 c2)
  rw [← ints_append, ← hsnoc, ← List.length_append, ← hsnoc]
  apply oas; rfl; rfl
  apply OL.nil
  with_reducible apply At.in_normal
  with_reducible apply At.next
  apply W.reg
  apply obn; rfl; rfl; rfl; apply Bin.add_in; omega
  apply omv; rfl; rfl
  apply OL.nil
  refine At.again (i + 1, ⟨O2, q2, c2⟩) (by simp only; omega) (by simp only; omega) (by exact Sub.au) (fun w' hw' => hw'.thin (by exact Thin.au))
 ·obtain rfl : i = ps.length := by omega
  rw [List.take_length]
  refine W.xt ?_
  with_reducible apply At.next
  apply W.sr
  apply omv; rfl; rfl
  apply oas; rfl; rfl
  apply OL.nx
  apply W.ret
  ((with_reducible apply At.fin1); rfl; rfl; intro w' hw')
  exact ⟨_, _, rfl, by (exact hw'.fr), rowInts hw' (.head _) (Nat.le_refl _), row_cap (hw'.item (.head _))⟩
end Go.Proofs.YtkpjndhgicbjjaaDoor.co

/- The walks of the reference's parentsOf, Depth and binder. Conditions: none. -/
namespace Go.Co
open Go.Eng Go.RowKit
def neg1 (n i : Nat) : List Int := List.replicate i (-1) ++ List.replicate (n - i) 0
theorem neg1_length {n i : Nat} (h : i ≤ n) : (neg1 n i).length = n := by simp [neg1]; omega
theorem neg1_zero (n : Nat) : List.replicate n (Value.int .i64 0) = ints (neg1 n 0) := by simp [neg1, ints]
theorem neg1_end (n : Nat) : neg1 n n = List.replicate n (-1) := by simp [neg1]
theorem neg1_set {n i : Nat} (h : i < n) : (neg1 n i).set i (-1) = neg1 n (i + 1) := by
 refine List.ext_getElem? fun k => ?_
 rw [List.getElem?_set]
 have hl1 := neg1_length (n := n) (i := i) (by omega)
 have hl2 := neg1_length (n := n) (i := i + 1) (by omega)
 by_cases e : i = k
 ·subst e
  rw [if_pos rfl, if_pos (by omega)]
  unfold neg1
  rw [List.getElem?_append_left (by simp)]
  simp [List.getElem?_replicate]
 ·rw [if_neg e]
  unfold neg1
  by_cases h1 : k < i
  ·rw [List.getElem?_append_left (by simpa using h1), List.getElem?_append_left (by simp; omega)]
   simp [List.getElem?_replicate, h1, show k < i + 1 by omega]
  ·rw [List.getElem?_append_right (by simp; omega), List.getElem?_append_right (by simp; omega)]
   simp only [List.getElem?_replicate, List.length_replicate]
   by_cases h2 : k < n
   ·rw [if_pos (by omega), if_pos (by omega)]
   ·rw [if_neg (by omega), if_neg (by omega)]
end Go.Co
namespace Go.Proofs.YtkpjndhgicbjjaaDoor.co
open Go.RowKit Go.Eng Go.Co
set_option maxRecDepth 100000
theorem parentsOf_calls (es : List (Ex × ExY)) (q : Option Addr) (cap : Nat) (w : World) (he : Arr exR w (low w) es q) (hlen : es.length ≤ 4096) :
  Calls Tryd.prog 25 [.slice q es.length cap].toArray w fun e w' => ∃ q' n c b, e = .returned (.tuple #[.slice q' n c, .bool b]) ∧ Ext w w' ∧ (b = true ↔ TreeP (es.map Prod.fst)) ∧ (b = true → n = es.length ∧ ∃ P, Parents (es.map Prod.fst) P ∧ IntsO w' (low w') P q') := by
 obtain ⟨e, hee⟩ : ∃ e, es.map Prod.fst = e := ⟨_, rfl⟩
 have hel : e.length = es.length := by rw [← hee, List.length_map]
 rw [hee]
 have hget : ∀ {i : Nat}, i < es.length → ∃ a p, q = some a ∧ a.block < w.heap.size ∧ es[i]? = some p ∧ e[i]? = some p.1 ∧ CellsAt w (a.add (i * 5)) [.int .i64 p.1.op, .int .i64 p.1.n, .slice p.2.b.1 p.1.binds.length p.2.b.2, .slice p.2.k.1 p.1.kids.length p.2.k.2, .slice p.2.a.1 p.1.alts.length p.2.a.2] ∧ ExOk w (low w) p.1 p.2 := fun {i} hi => by
  obtain ⟨a, p, h1, h2, h3, h4, h5⟩ := he.get hi
  exact ⟨a, p, h1, h2, h3, by rw [← hee, List.getElem?_map, h3]; rfl, h4, h5⟩
 refine enter Tryd.func25 rfl Tryd.ntmps25 rfl (Cls.start w) ?_
 (simp only [argEnv, Nat.zero_add, Nat.reduceAdd])
 apply W.sr
 apply oas; rfl; rfl
 apply oas; rfl; rfl
 apply OL.nsr
 apply omv; rfl; rfl
 apply oop; rfl; apply Pev.len_slice; rfl; exact yes; rfl
 apply OL.makeSlice; rfl; rfl; rfl; rfl; rfl; rfl; rfl; omega; (intro bk hbk; simp only [AllLe, and_true] at hbk)
 apply oas; rfl; rfl
 apply OL.nx
 apply W.seq
 apply W.sr
 apply omv; rfl; rfl
 apply oop; rfl; apply Pev.len_slice; rfl; exact yes; rfl
 apply omv; rfl; rfl
 apply OL.nx
 apply W.block
 revert bk
 intro bp hbp
 refine W.loop (G := Nat) (fun i => i ≤ es.length) (fun i => es.length - i)
  (fun i => [(0, true, .slice q es.length cap), (4, true, .slice (some ⟨bp, 0, none⟩) es.length es.length), (15, true, .int .i64 (es.length : Int)), (16, true, .int .i64 (i : Int))])
  (fun i => Cls [blk bp 3 (ints (neg1 es.length i))] [w]) 0 (by omega) (by exact Sub.au) (fun w' hw' => by rw [← neg1_zero]; exact hw') ?_
 rintro i hi
 apply W.sr
 apply obn; rfl; rfl; rfl; apply Bin.lss
 apply OL.nx
 apply W.seq
 (refine W.cnd (fun hlt => ?_) (fun hlt => ?_)) <;> (try (exfalso; first | omega | exact hlt trivial | contradiction))
 ·have hil : i < es.length := by omega
  apply W.sk
  apply W.sb
  apply W.sr
  apply omv; rfl; rfl
  apply oas; rfl; rfl
  apply OL.nx
  apply W.reg
  apply omv; rfl; rfl
  apply omv; rfl; rfl
  apply oop; rfl; apply Pev.idxB; rfl; exact yes; rfl; exact yes; rfl; intro hcond; omega; rfl
  (apply OL.storeI); rfl; rfl; rfl; rfl; rfl; (exact Swap.au); (rw [ints_length, neg1_length hi]; omega)
  have hset : (ints (neg1 es.length i)).set (0 + (i : Int).toNat * 1) (.int .i64 (-1)) = ints (neg1 es.length (i + 1)) := by
   rw [show 0 + (i : Int).toNat * 1 = i by simp, ints_set, neg1_set hil]
  rw [hset]
  apply OL.nil
  with_reducible apply At.in_normal
  with_reducible apply At.next
  apply W.reg
  apply obn; rfl; rfl; rfl; apply Bin.add_in; omega
  apply omv; rfl; rfl
  apply OL.nil
  exact At.again (i + 1) (by omega) (by omega) (by exact Sub.au) (fun w' hw' => hw')
 obtain rfl : i = es.length := by omega
 rw [neg1_end]
 refine W.xt ?_
 with_reducible apply At.next
 apply W.seq
 apply W.sr
 apply omv; rfl; rfl
 apply oop; rfl; apply Pev.len_slice; rfl; exact yes; rfl
 apply omv; rfl; rfl
 apply OL.nx
 apply W.block
 refine W.loop (G := Nat × List Int) (fun g => g.1 ≤ es.length ∧ PI e g.2 g.1 0) (fun g => es.length - g.1)
  (fun g => [(0, true, .slice q es.length cap), (4, true, .slice (some ⟨bp, 0, none⟩) es.length es.length), (23, true, .slice q es.length cap), (24, true, .int .i64 (es.length : Int)), (25, true, .int .i64 (g.1 : Int))])
  (fun g => Cls [blk bp 3 (ints g.2)] [w]) (0, List.replicate es.length (-1)) ⟨by simp, by rw [← hel]; exact PI.start e⟩ (by exact Sub.au) (fun w' hw' => hw') ?_
 rintro ⟨i, P⟩ ⟨hi, hP⟩
 simp only at hi hP ⊢
 apply W.sr
 apply obn; rfl; rfl; rfl; apply Bin.lss
 apply OL.nx
 apply W.seq
 (refine W.cnd (fun hlt2 => ?_) (fun hlt2 => ?_)) <;> (try (exfalso; first | omega | exact hlt2 trivial | contradiction))
 ·have hil : i < es.length := by omega
  obtain ⟨a, p, rfl, hab, hp, hpe, hcell, hok⟩ := hget hil
  have hkl := hok.kl
  apply W.sk
  apply W.sb
  apply W.sr
  apply omv; rfl; rfl
  apply oop; rfl; apply Pev.idx; rfl; exact yes; rfl; exact yes; rfl; rfl; intro hcond; omega
  apply oop; rfl; apply Pev.load_keptA; rfl; exact yes; exact .head _; rfl; intro hcond; assumption; rfl; intro hcond; (rw [add_block]; assumption); intro hcond; exact NotOwned.au
  apply OL.alloc; rfl; rfl; exact CellsL.agg; (intro bk hbk; simp only [AllLe, and_true] at hbk)
  apply oas; rfl; rfl
  apply OL.storeB; rfl; rfl; exact CellsL.agg; rfl; rfl; rfl; exact Swap.au; exact Put.au
  apply OL.nsr
  apply ofa; rfl; rfl; rfl
  apply old; rfl; rfl; exact .head _; rfl; rfl
  apply oop; rfl; apply Pev.len_slice; rfl; exact yes; rfl
  apply omv; rfl; rfl
  apply OL.nx
  apply W.block
  revert bk
  intro bx hbx
  skip
  refine W.loop (G := Nat × List Int) (fun g => g.1 ≤ p.1.kids.length ∧ PI e g.2 i g.1 ∧ ∀ (m : Nat) (k : Int), m < g.1 → p.1.kids[m]? = some k → 0 ≤ k ∧ k < (i : Int)) (fun g => p.1.kids.length - g.1)
   (fun g => [(0, true, .slice (some a) es.length cap), (4, true, .slice (some ⟨bp, 0, none⟩) es.length es.length), (6, true, .int .i64 (i : Int)), (23, true, .slice (some a) es.length cap), (24, true, .int .i64 (es.length : Int)), (25, true, .int .i64 (i : Int)), (31, true, .slice p.2.k.1 p.1.kids.length p.2.k.2), (32, true, .int .i64 (p.1.kids.length : Int)), (33, true, .int .i64 (g.1 : Int))])
   (fun g => Cls [blk bp 3 (ints g.2)] [w]) (0, P) ⟨by simp, hP, fun m k hm => by simp at hm⟩ (by exact Sub.au) (fun w' hw' => hw'.thin (by exact Thin.au)) ?_
  rintro ⟨j, P2⟩ ⟨hj, hP2, hks⟩
  simp only at hj hP2 hks ⊢
  have hPl : P2.length = es.length := by rw [hP2.len, hel]
  apply W.sr
  apply obn; rfl; rfl; rfl; apply Bin.lss
  apply OL.nx
  apply W.seq
  (refine W.cnd (fun hlt3 => ?_) (fun hlt3 => ?_)) <;> (try (exfalso; first | omega | exact hlt3 trivial | contradiction))
  ·have hjl : j < p.1.kids.length := by omega
   obtain ⟨ak, k, hqk, habk, hk, hck⟩ := hok.k.get hjl
   have habk : ak.block < w.heap.size := habk
   rw [hqk]
   apply W.sk
   apply W.sb
   apply W.sr
   apply oop; rfl; apply Pev.idx; rfl; exact yes; rfl; exact yes; rfl; rfl; intro hcond; omega
   apply oop; rfl; apply Pev.load_kept; rfl; exact yes; exact .head _; rfl; intro hcond; assumption; intro hcond; (rw [add_block]; assumption); intro hcond; exact NotOwned.au
   apply oas; rfl; rfl
   apply OL.nx
   apply W.seq
   apply W.sr
   apply omv; rfl; rfl
   apply obn; rfl; rfl; rfl; apply Bin.lss
   apply omv; rfl; rfl
   apply ono; rfl; rfl; rfl; apply Pev.move; rfl; exact yes
   apply ono; rfl; rfl; rfl; apply Pev.move; rfl; exact yes
   apply ono; rfl; rfl; rfl; apply Pev.bin; rfl; exact fun h => h; rfl; exact fun h => h; intro hcond; apply Bin.geq
   apply oop; rfl; apply Pev.pick_or; rfl; exact yes; rfl; exact fun h => h
   apply omv; rfl; rfl
   apply ono; rfl; rfl; rfl; apply Pev.move; rfl; exact yes
   apply ono; rfl; rfl; rfl; apply Pev.move; rfl; exact yes
   by_cases hkr : k < 0 ∨ (i : Int) ≤ k
   ·apply OL.gateOff; exact Guard.no rfl rfl; (simp; omega); rfl
    apply OL.gateOff; exact Guard.no rfl rfl; (simp; omega); rfl
    apply OL.gateOff; exact Guard.no rfl rfl; (simp; omega); rfl
    apply oop; rfl; apply Pev.pick_on; rfl; exact yes; (intro hcond; simp; omega); rfl; exact yes
    apply OL.nx
    refine W.cond rfl (fun hb => ?_) (fun hb => by grind)
    apply W.sr
    apply oas; rfl; rfl
    apply oas; rfl; rfl
    apply OL.nx
    refine W.rt ?_
    ((with_reducible apply At.fin2); rfl; rfl; rfl; intro w' hw')
    refine ⟨none, 0, 0, false, rfl, by (exact hw'.fr), ⟨fun h => (by cases h), fun hg => ?_⟩, fun h => (by cases h)⟩
    have := hg.2.1 i _ hpe k (List.mem_of_getElem? hk)
    omega
   ·obtain ⟨kn, rfl⟩ : ∃ kn : Nat, k = (kn : Int) := ⟨k.toNat, by omega⟩
    have hki : kn < i := by omega
    obtain ⟨v, hv⟩ : ∃ v, P2[kn]? = some v := ⟨_, List.getElem?_eq_getElem (by omega)⟩
    have hpk : (ints P2)[0 + (kn : Int).toNat * 1]? = some (.int .i64 v) := by
     have h1 := ints_get hv
     simpa using h1
    apply ono; rfl; rfl; rfl; apply Pev.idxB; rfl; exact fun h => h; rfl; exact fun h => h; rfl; intro hcond; omega; rfl
    apply ono; rfl; rfl; rfl; apply Pev.load_blk; rfl; exact fun h => h; exact .head _; rfl; assumption
    apply ono; rfl; rfl; rfl; apply Pev.bin; rfl; exact fun h => h; rfl; exact yes; intro hcond; apply Bin.geq
    apply oop; rfl; apply Pev.pick_or; rfl; exact yes; rfl; exact fun h => h
    apply OL.nx
    refine W.cond rfl (fun hb => ?_) (fun hb => ?_)
    ·have hv0 : 0 ≤ v := by grind
     apply W.sr
     apply oas; rfl; rfl
     apply oas; rfl; rfl
     apply OL.nx
     refine W.rt ?_
     ((with_reducible apply At.fin2); rfl; rfl; rfl; intro w' hw')
     refine ⟨none, 0, 0, false, rfl, by (exact hw'.fr), ⟨fun h => (by cases h), fun hg => ?_⟩, fun h => (by cases h)⟩
     exact absurd hg (hP2.twice hpe hk (by omega) (by omega) (by simpa using hv) hv0)
    have hv0 : v < 0 := by grind
    apply W.sk
    apply W.reg
    apply omv; rfl; rfl
    apply omv; rfl; rfl
    apply omv; rfl; rfl
    apply oop; rfl; apply Pev.idxB; rfl; exact yes; rfl; exact yes; rfl; intro hcond; omega; rfl
    (apply OL.storeI); rfl; rfl; rfl; rfl; rfl; (exact Swap.au); (rw [ints_length]; omega)
    have hset : (ints P2).set (0 + (kn : Int).toNat * 1) (.int .i64 (i : Int)) = ints (P2.set kn (i : Int)) := by
     rw [show 0 + (kn : Int).toNat * 1 = kn by simp, ints_set]
    rw [hset]
    apply OL.nil
    with_reducible apply At.in_normal
    with_reducible apply At.next
    apply W.reg
    apply obn; rfl; rfl; rfl; apply Bin.add_in; omega
    apply omv; rfl; rfl
    apply OL.nil
    refine At.again (j + 1, P2.set kn (i : Int)) ⟨by simp only; omega, hP2.step hpe hk (by omega) (by omega) (by simpa using hv) hv0, fun m k2 hm hk2 => ?_⟩ (by simp only; omega) (by exact Sub.au) (fun w' hw' => by first | exact hw' | exact hw'.thin (by exact Thin.au))
    by_cases em : m = j
    ·subst em
     rw [hk] at hk2
     obtain rfl := Option.some.inj hk2
     omega
    ·exact hks m k2 (by simp only at hm; omega) hk2
  ·obtain rfl : j = p.1.kids.length := by omega
   have hkall2 : ∀ k ∈ p.1.kids, 0 ≤ k ∧ k < (i : Int) := fun k hk => by
    obtain ⟨m, hm⟩ := List.getElem?_of_mem hk
    exact hks m k (List.getElem?_eq_some_iff.1 hm).1 hm
   refine W.xt ?_
   with_reducible apply At.in_normal
   with_reducible apply At.next
   apply W.reg
   apply obn; rfl; rfl; rfl; apply Bin.add_in; omega
   apply omv; rfl; rfl
   apply OL.nil
   exact At.again (i + 1, P2) ⟨by simp only; omega, hP2.next hpe hkall2⟩ (by simp only; omega) (by exact Sub.au) (fun w' hw' => hw')
 ·obtain rfl : i = es.length := by omega
  have hP' : PI e P e.length 0 := by rw [hel]; exact hP
  have hPl : P.length = es.length := by rw [hP.len, hel]
  refine W.xt ?_
  with_reducible apply At.next
  apply W.seq
  apply W.sr
  apply omv; rfl; rfl
  apply oop; rfl; apply Pev.len_slice; rfl; exact yes; rfl
  apply obn; rfl; rfl; rfl; apply Bin.sub_in; omega
  apply omv; rfl; rfl
  apply OL.nx
  apply W.block
  refine W.loop (G := Nat) (fun i => (i : Int) ≤ max ((es.length : Int) - 1) 0 ∧ ∀ (k : Nat) (v : Int), k < i → P[k]? = some v → 0 ≤ v) (fun i => es.length - i)
   (fun i => [(0, true, .slice q es.length cap), (4, true, .slice (some ⟨bp, 0, none⟩) es.length es.length), (59, true, .int .i64 ((es.length : Int) - 1)), (60, true, .int .i64 (i : Int))])
   (fun _ => Cls [blk bp 3 (ints P)] [w]) 0 ⟨by omega, fun k v hk => by omega⟩ (by exact Sub.au) (fun w' hw' => hw') ?_
  rintro i ⟨hi, hall⟩
  apply W.sr
  apply obn; rfl; rfl; rfl; apply Bin.lss
  apply OL.nx
  apply W.seq
  (refine W.cnd (fun hlt3 => ?_) (fun hlt3 => ?_)) <;> (try (exfalso; first | omega | exact hlt3 trivial | contradiction))
  ·have hil : i + 1 < es.length := by omega
   obtain ⟨v, hv⟩ : ∃ v, P[i]? = some v := ⟨_, List.getElem?_eq_getElem (by omega)⟩
   have hpi : (ints P)[0 + (i : Int).toNat * 1]? = some (.int .i64 v) := by
    have h1 := ints_get hv
    simpa using h1
   apply W.sk
   apply W.sb
   apply W.sr
   apply omv; rfl; rfl
   apply oas; rfl; rfl
   apply OL.nsr
   apply omv; rfl; rfl
   apply omv; rfl; rfl
   apply oop; rfl; apply Pev.idxB; rfl; exact yes; rfl; exact yes; rfl; intro hcond; omega; rfl
   apply oop; rfl; apply Pev.load_blk; rfl; exact yes; exact .head _; rfl; assumption
   apply obn; rfl; rfl; rfl; apply Bin.lss
   apply OL.nx
   (refine W.cnd (fun hneg => ?_) (fun hneg => ?_)) <;> (try (exfalso; first | omega | exact hneg trivial | contradiction))
   ·apply W.sr
    apply oas; rfl; rfl
    apply oas; rfl; rfl
    apply OL.nx
    refine W.rt ?_
    ((with_reducible apply At.fin2); rfl; rfl; rfl; intro w' hw')
    refine ⟨none, 0, 0, false, rfl, by (exact hw'.fr), ⟨fun h => (by cases h), fun hg => ?_⟩, fun h => (by cases h)⟩
    exact absurd hg (hP'.bad (by omega) hv hneg)
   apply W.skip
   with_reducible apply At.in_normal
   with_reducible apply At.next
   apply W.reg
   apply obn; rfl; rfl; rfl; apply Bin.add_in; omega
   apply omv; rfl; rfl
   apply OL.nil
   refine At.again (i + 1) ⟨by omega, fun k u hk hu => ?_⟩ (by omega) (by exact Sub.au) (fun w' hw' => hw')
   by_cases em : k = i
   ·subst em
    rw [hv] at hu
    obtain rfl := Option.some.inj hu
    omega
   ·exact hall k u (by omega) hu
  ·refine W.xt ?_
   with_reducible apply At.next
   apply W.sr
   apply omv; rfl; rfl
   apply omv; rfl; rfl
   apply oop; rfl; apply Pev.len_slice; rfl; exact yes; rfl
   apply obn; rfl; rfl; rfl; apply Bin.gtr
   apply oas; rfl; rfl
   apply oas; rfl; rfl
   apply OL.nx
   apply W.ret
   ((with_reducible apply At.fin2); rfl; rfl; rfl; intro w' hw')
   have hgood : 0 < es.length → TreeP e := fun h0 => hP'.good (by omega) fun k v hk hv => hall k v (by omega) hv
   refine ⟨some ⟨bp, 0, none⟩, es.length, es.length, _, rfl, by (exact hw'.fr), ⟨fun h => hgood (by have := of_decide_eq_true h; omega), fun hg => decide_eq_true (by have := hg.1; omega)⟩, fun h => ⟨rfl, P, hP'.parents (hgood (by have := of_decide_eq_true h; omega)), fun hl => ?_⟩⟩
   have hb : (blk bp 3 (ints P)).holds w' := hw'.item (.head _)
   refine ⟨⟨bp, 0, none⟩, rfl, blk_lt hb, fun j v hj => ?_⟩
   rw [add_mid, blk_cell hb, Nat.zero_add]
   exact hj
end Go.Proofs.YtkpjndhgicbjjaaDoor.co

/- The walks of the reference's goodForm and goodKids. Conditions: none. (Printed by crc.py.) The walks of the reference's Depth and binder. Conditions: none. The walks of the reference's BodyFault and Fault. Conditions: none. -/
namespace Go.Proofs.YtkpjndhgicbjjaaDoor.co
open Go.RowKit Go.Eng Go.Co
set_option maxRecDepth 100000
theorem goodForm_calls (es : List (Ex × ExY)) (q : Option Addr) (cap : Nat) (x : Ex) (y : ExY) (flat : Bool) (w : World) (h : ExOk w (low w) x y) :
  Calls Tryd.prog 27 [.slice q es.length cap, .agg (exC x y).toArray, .bool flat].toArray w fun e w' => e = .returned (.bool (!flatBad flat x.op && formR x)) ∧ Ext w w' := by
 have hal := h.al
 have hkl := h.kl
 have hbl := h.bl
 refine enter Tryd.func27 rfl Tryd.ntmps27 rfl (Cls.start w) ?_
 (simp only [argEnv, Nat.zero_add, Nat.reduceAdd])
 simp only [exC]
 apply W.sr
 apply OL.box; rfl; rfl; exact CellsL.agg; (intro bk hbk; simp only [AllLe, and_true] at hbk)
 apply oas; rfl; rfl
 apply OL.nsr
 apply ofa; rfl; rfl; rfl
 apply old; rfl; rfl; exact .head _; rfl; rfl
 apply obn; rfl; rfl; rfl; apply Bin.eql
 apply omv; rfl; rfl
 apply ono; rfl; rfl; rfl; apply Pev.fld; rfl; exact yes; rfl
 apply ono; rfl; rfl; rfl; apply Pev.load_blk; rfl; exact fun h => h; exact .head _; rfl; rfl
 apply ono; rfl; rfl; rfl; apply Pev.bin; rfl; exact fun h => h; rfl; exact yes; intro hcond; apply Bin.eql
 apply oop; rfl; apply Pev.pick_or; rfl; exact yes; rfl; exact fun h => h
 apply omv; rfl; rfl
 apply ono; rfl; rfl; rfl; apply Pev.fld; rfl; exact yes; rfl
 apply ono; rfl; rfl; rfl; apply Pev.load_blk; rfl; exact fun h => h; exact .head _; rfl; rfl
 apply ono; rfl; rfl; rfl; apply Pev.bin; rfl; exact fun h => h; rfl; exact yes; intro hcond; apply Bin.eql
 apply oop; rfl; apply Pev.pick_or; rfl; exact yes; rfl; exact fun h => h
 apply oas; rfl; rfl
 apply OL.nsr
 apply ofa; rfl; rfl; rfl
 apply old; rfl; rfl; exact .head _; rfl; rfl
 apply obn; rfl; rfl; rfl; apply Bin.eql
 apply omv; rfl; rfl
 apply ono; rfl; rfl; rfl; apply Pev.fld; rfl; exact yes; rfl
 apply ono; rfl; rfl; rfl; apply Pev.load_blk; rfl; exact fun h => h; exact .head _; rfl; rfl
 apply ono; rfl; rfl; rfl; apply Pev.bin; rfl; exact fun h => h; rfl; exact yes; intro hcond; apply Bin.eql
 apply oop; rfl; apply Pev.pick_or; rfl; exact yes; rfl; exact fun h => h
 apply omv; rfl; rfl
 apply ono; rfl; rfl; rfl; apply Pev.fld; rfl; exact yes; rfl
 apply ono; rfl; rfl; rfl; apply Pev.load_blk; rfl; exact fun h => h; exact .head _; rfl; rfl
 apply ono; rfl; rfl; rfl; apply Pev.bin; rfl; exact fun h => h; rfl; exact yes; intro hcond; apply Bin.eql
 apply oop; rfl; apply Pev.pick_or; rfl; exact yes; rfl; exact fun h => h
 apply omv; rfl; rfl
 apply ono; rfl; rfl; rfl; apply Pev.fld; rfl; exact yes; rfl
 apply ono; rfl; rfl; rfl; apply Pev.load_blk; rfl; exact fun h => h; exact .head _; rfl; rfl
 apply ono; rfl; rfl; rfl; apply Pev.bin; rfl; exact fun h => h; rfl; exact yes; intro hcond; apply Bin.eql
 apply oop; rfl; apply Pev.pick_or; rfl; exact yes; rfl; exact fun h => h
 apply oas; rfl; rfl
 apply OL.nsr
 apply oop; rfl; apply Pev.load_blkA; rfl; exact yes; exact .head _; rfl; exact Take.au
 (((first | (with_reducible apply OL.op) | (with_reducible apply QL.op)); (exact Guard.au); rfl; rfl); (exact Pev.call rfl (by exact Args.au) (fun _ w2 hw2 => (kidsOf_calls x y w2 (h.at hw2 (by exact mau) (fun k hk => by exact NotOwned.au))).mono (fun e w3 h => ⟨h.1, hw2.ext h.2⟩))))
 apply omv; rfl; rfl
 apply oex; rfl; rfl; rfl
 apply oex; rfl; rfl; rfl
 apply oas; rfl; rfl
 apply oas; rfl; rfl
 apply OL.nx
 apply W.seq
 apply W.sr
 apply omv; rfl; rfl
 apply omv; rfl; rfl
 apply oy; rfl; rfl; rfl; apply Pev.move; rfl; exact yes
 apply oy; rfl; rfl; rfl; apply Pev.not; rfl; exact fun h => h
 apply oop; rfl; apply Pev.pick_and; rfl; exact yes; rfl; exact fun h => h
 apply omv; rfl; rfl
 apply ono; rfl; rfl; rfl; apply Pev.move; rfl; exact yes
 apply ono; rfl; rfl; rfl; apply Pev.move; rfl; exact fun h => h
 apply OL.op; exact Guard.cyes rfl rfl; rfl; rfl; apply Pev.move; rfl; exact yes
 apply ono; rfl; rfl; rfl; apply Pev.pick_and; rfl; exact fun h => h; rfl; exact fun h => h
 apply oop; rfl; apply Pev.pick_or; rfl; exact yes; rfl; exact fun h => h
 apply omv; rfl; rfl
 apply ono; rfl; rfl; rfl; apply Pev.move; rfl; exact yes
 apply ono; rfl; rfl; rfl; apply Pev.fld; rfl; exact yes; rfl
 apply ono; rfl; rfl; rfl; apply Pev.load_blk; rfl; exact fun h => h; exact .head _; rfl; rfl
 apply ono; rfl; rfl; rfl; apply Pev.len_slice; rfl; exact fun h => h; rfl
 apply ono; rfl; rfl; rfl; apply Pev.bin; rfl; exact fun h => h; rfl; exact fun h => h; intro hcond; apply Bin.neq
 apply oop; rfl; apply Pev.pick_or; rfl; exact yes; rfl; exact fun h => h
 apply omv; rfl; rfl
 apply ono; rfl; rfl; rfl; apply Pev.move; rfl; exact yes
 apply ono; rfl; rfl; rfl; apply Pev.not; rfl; exact fun h => h
 apply ono; rfl; rfl; rfl; apply Pev.move; rfl; exact fun h => h
 apply OL.op; exact Guard.cyes rfl rfl; rfl; rfl; apply Pev.fld; rfl; exact yes; rfl
 apply OL.op; exact Guard.cyes rfl rfl; rfl; rfl; apply Pev.load_blk; rfl; exact fun h => h; exact .head _; rfl; rfl
 apply OL.op; exact Guard.cyes rfl rfl; rfl; rfl; apply Pev.bin; rfl; exact fun h => h; rfl; exact yes; intro hcond; apply Bin.neq
 apply ono; rfl; rfl; rfl; apply Pev.pick_and; rfl; exact fun h => h; rfl; exact fun h => h
 apply oop; rfl; apply Pev.pick_or; rfl; exact yes; rfl; exact fun h => h
 apply omv; rfl; rfl
 apply ono; rfl; rfl; rfl; apply Pev.load_blkA; rfl; exact yes; exact .head _; rfl; exact Take.au
 (((first | (with_reducible apply OL.op) | (with_reducible apply QL.op)); (exact Guard.au); rfl; rfl); (exact Pev.call rfl (by exact Args.au) (fun _ w2 hw2 => (goodAlts_calls x y w2 (h.at hw2 (by exact mau) (fun k hk => by exact NotOwned.au))).mono (fun e w3 h => ⟨h.1, hw2.ext h.2⟩))))
 have hflat : flatBad flat x.op = (flat && (decide (x.op = 2) || decide (x.op = 5) || decide (x.op = 12) || decide (x.op = 13)) || !flat && (decide (x.op = 14) || decide (x.op = 15) || decide (x.op = 16))) := rfl
 have hform : formR x = (decide ((kidsR x).1 = (x.kids.length : Int)) && ((kidsR x).2 || decide (x.n = 0)) && altsR x && bindsR x) := rfl
 generalize kidsR x = kr at *
 obtain ⟨kn, ku⟩ := kr
 generalize altsR x = ar at *
 apply ono; rfl; rfl; rfl; apply Pev.not; rfl; exact fun h => h
 apply oop; rfl; apply Pev.pick_or; rfl; exact yes; rfl; exact fun h => h
 apply OL.nx
 refine W.cond rfl (fun hb => ?_) (fun hb => ?_)
 ·apply W.sr
  apply oas; rfl; rfl
  apply OL.nx
  refine W.rt ?_
  ((with_reducible apply At.fin1); rfl; rfl; intro w' hw')
  refine ⟨congrArg (fun b => Ending.returned (Value.bool b)) ?_, by (exact hw'.fr)⟩
  rw [hflat, hform]
  cases flat <;> cases ku <;> cases ar <;> simp only [Bool.and_eq_true, Bool.and_eq_false_iff, Bool.or_eq_false_iff, Bool.not_eq_true', Bool.not_eq_false', decide_eq_true_eq, decide_eq_false_iff_not, Bool.or_eq_true, Bool.not_eq_true] at hb ⊢ <;> simp at hb ⊢ <;> grind
 have hrest : (!flatBad flat x.op && formR x) = bindsR x := by
  rw [hflat, hform]
  cases flat <;> cases ku <;> cases ar <;> simp only [Bool.and_eq_true, Bool.and_eq_false_iff, Bool.or_eq_false_iff, Bool.not_eq_true', Bool.not_eq_false', decide_eq_true_eq, decide_eq_false_iff_not, Bool.or_eq_true, Bool.not_eq_true] at hb <;> simp at hb ⊢ <;> grind
 rw [hrest]
 clear hrest hform hflat hb
 apply W.sk
 apply W.seq
 apply W.sr
 apply ofa; rfl; rfl; rfl
 apply old; rfl; rfl; exact .head _; rfl; rfl
 apply OL.nx
 apply W.block
 apply W.seq
 apply W.sr
 apply obn; rfl; rfl; rfl; apply Bin.eql
 apply oas; rfl; rfl
 apply OL.nx
 (refine W.cnd (fun c1 => ?_) (fun c1 => ?_)) <;> (try (exfalso; first | omega | exact c1 trivial | contradiction))
 ·apply W.sk
  (refine W.cnd (fun c1b => ?_) (fun c1b => ?_)) <;> (try (exfalso; first | omega | exact c1b trivial | contradiction))
  apply W.sr
  apply oas; rfl; rfl
  apply OL.nx
  refine W.rt ?_
  ((with_reducible apply At.fin1); rfl; rfl; intro w' hw')
  exact ⟨by unfold bindsR; rw [if_pos (by omega)], by (exact hw'.fr)⟩
 apply W.reg
 apply obn; rfl; rfl; rfl; apply Bin.eql
 apply oas; rfl; rfl
 apply OL.nx
 (refine W.cnd (fun c2 => ?_) (fun c2 => ?_)) <;> (try (exfalso; first | omega | exact c2 trivial | contradiction))
 ·apply W.sr
  apply oas; rfl; rfl
  apply OL.nx
  refine W.rt ?_
  ((with_reducible apply At.fin1); rfl; rfl; intro w' hw')
  exact ⟨by unfold bindsR; rw [if_pos (by omega)], by (exact hw'.fr)⟩
 apply W.sr
 apply obn; rfl; rfl; rfl; apply Bin.eql
 apply oas; rfl; rfl
 apply OL.nx
 (refine W.cnd (fun c3 => ?_) (fun c3 => ?_)) <;> (try (exfalso; first | omega | exact c3 trivial | contradiction))
 ·apply W.sr
  apply ofa; rfl; rfl; rfl
  apply old; rfl; rfl; exact .head _; rfl; rfl
  apply oop; rfl; apply Pev.len_slice; rfl; exact yes; rfl
  apply obn; rfl; rfl; rfl; apply Bin.eql
  apply oas; rfl; rfl
  apply OL.nx
  refine W.rt ?_
  ((with_reducible apply At.fin1); rfl; rfl; intro w' hw')
  refine ⟨congrArg (fun b => Ending.returned (Value.bool b)) ?_, by (exact hw'.fr)⟩
  unfold bindsR
  rw [if_neg (by omega), if_pos (by omega)]
  grind
 apply W.sr
 apply obn; rfl; rfl; rfl; apply Bin.eql
 apply oas; rfl; rfl
 apply OL.nx
 (refine W.cnd (fun c4 => ?_) (fun c4 => ?_)) <;> (try (exfalso; first | omega | exact c4 trivial | contradiction))
 ·apply W.sr
  apply ofa; rfl; rfl; rfl
  apply old; rfl; rfl; exact .head _; rfl; rfl
  apply oop; rfl; apply Pev.len_slice; rfl; exact yes; rfl
  apply obn; rfl; rfl; rfl; apply Bin.gtr
  apply oas; rfl; rfl
  apply OL.nx
  refine W.rt ?_
  ((with_reducible apply At.fin1); rfl; rfl; intro w' hw')
  refine ⟨congrArg (fun b => Ending.returned (Value.bool b)) ?_, by (exact hw'.fr)⟩
  unfold bindsR
  rw [if_neg (by omega), if_neg (by omega), if_pos (by omega)]
  grind
 apply W.skip
 with_reducible apply At.in_normal
 with_reducible apply At.next
 apply W.sr
 apply ofa; rfl; rfl; rfl
 apply old; rfl; rfl; exact .head _; rfl; rfl
 apply oop; rfl; apply Pev.len_slice; rfl; exact yes; rfl
 apply obn; rfl; rfl; rfl; apply Bin.eql
 apply oas; rfl; rfl
 apply OL.nx
 apply W.ret
 ((with_reducible apply At.fin1); rfl; rfl; intro w' hw')
 refine ⟨congrArg (fun b => Ending.returned (Value.bool b)) ?_, by (exact hw'.fr)⟩
 unfold bindsR
 rw [if_neg (by omega), if_neg (by omega), if_neg (by omega)]
 grind
theorem goodKids_calls (es : List (Ex × ExY)) (q : Option Addr) (cap : Nat) (x : Ex) (y : ExY) (w : World) (h : ExOk w (low w) x y) (he : Arr exR w (low w) es q) (hlen : es.length ≤ 4096) (hkd : ∀ k ∈ x.kids, 0 ≤ k ∧ k < (es.length : Int)) (hk5 : x.op = 5 → x.kids.length = x.binds.length + 1) :
  Calls Tryd.prog 29 [.slice q es.length cap, .agg (exC x y).toArray].toArray w fun e w' => e = .returned (.bool (kidsB (es.map Prod.fst) x)) ∧ Ext w w' := by
 have hal := h.al
 have hkl := h.kl
 have hbl := h.bl
 refine enter Tryd.func29 rfl Tryd.ntmps29 rfl (Cls.start w) ?_
 (simp only [argEnv, Nat.zero_add, Nat.reduceAdd])
 simp only [exC]
 apply W.sr
 apply OL.box; rfl; rfl; exact CellsL.agg; (intro bk hbk; simp only [AllLe, and_true] at hbk)
 apply oas; rfl; rfl
 apply OL.nx
 apply W.seq
 apply W.sr
 apply ofa; rfl; rfl; rfl
 apply old; rfl; rfl; exact .head _; rfl; rfl
 apply oop; rfl; apply Pev.len_slice; rfl; exact yes; rfl
 apply omv; rfl; rfl
 apply OL.nx
 apply W.block
 refine W.loop (G := Nat) (fun i => i ≤ x.binds.length ∧ ∀ j, j < i → bindOk (es.map Prod.fst) x j = true) (fun i => x.binds.length - i)
  (fun i => [(0, true, .slice q es.length cap), (3, true, .pointer (some ⟨bk, 0, none⟩)), (8, true, .int .i64 (x.binds.length : Int)), (9, true, .int .i64 (i : Int))])
  (fun _ => Cls [blk bk 43 [.int .i64 x.op, .int .i64 x.n, .slice y.b.1 x.binds.length y.b.2, .slice y.k.1 x.kids.length y.k.2, .slice y.a.1 x.alts.length y.a.2]] [w]) 0 ⟨by omega, fun j hj => by omega⟩ (by exact Sub.au) (fun w' hw' => hw') ?_
 rintro i ⟨hi, hall⟩
 apply W.sr
 apply obn; rfl; rfl; rfl; apply Bin.lss
 apply OL.nx
 apply W.seq
 (refine W.cnd (fun hlt => ?_) (fun hlt => ?_)) <;> (try (exfalso; first | omega | exact hlt trivial | contradiction))
 ·have hil : i < x.binds.length := by omega
  have hbad : bindOk (es.map Prod.fst) x i = false → kidsB (es.map Prod.fst) x = false := fun hf => not_all_range hil hf
  have hagain : bindOk (es.map Prod.fst) x i = true → ∀ j, j < i + 1 → bindOk (es.map Prod.fst) x j = true := fun hf j hj => by
   by_cases e : j = i
   ·rw [e]; exact hf
   ·exact hall j (by omega)
  by_cases h5 : x.op = 5
  ·have hkl5 := hk5 h5
   obtain ⟨ak, kv, hqk, habk, hkv, hck⟩ := h.k.get (i := i) (by omega)
   have habk : ak.block < w.heap.size := habk
   have hkr := hkd kv (List.mem_of_getElem? hkv)
   obtain ⟨ae, p, hqe, habe, hp, hcell, hok⟩ := he.get (i := kv.toNat) (by omega)
   have habe : ae.block < w.heap.size := habe
   have hcell : CellsAt w (ae.add (kv.toNat * 5)) [.int .i64 p.1.op, .int .i64 p.1.n, .slice p.2.b.1 p.1.binds.length p.2.b.2, .slice p.2.k.1 p.1.kids.length p.2.k.2, .slice p.2.a.1 p.1.alts.length p.2.a.2] := hcell
   have hbk : bindOk (es.map Prod.fst) x i = decide (p.1.op = 2) := by
    have e1 : x.kids.getD i 0 = kv := by simp [List.getD, hkv]
    have e2 : (es.map Prod.fst).getD kv.toNat ⟨0, 0, [], [], []⟩ = p.1 := by simp [List.getD, hp]
    unfold bindOk
    rw [e1, e2]
    grind
   rw [hqk, hqe]
   apply W.sk
   apply W.sb
   apply W.sr
   apply omv; rfl; rfl
   apply oas; rfl; rfl
   apply OL.nx
   apply W.seq
   apply W.regd0; decide +kernel; kernel_rfl; decide +kernel; exact fun w hw => hw.drew
   apply qfa; rfl; rfl; rfl
   apply qld; rfl; rfl; exact .head _; rfl; rfl
   apply qbn; rfl; rfl; rfl; apply Bin.eql
   apply qmv; rfl; rfl
   apply qy; rfl; rfl; rfl; apply Pev.move; rfl; exact yes
   apply qy; rfl; rfl; rfl; apply Pev.fld; rfl; exact yes; rfl
   apply qy; rfl; rfl; rfl; apply Pev.load_blk; rfl; exact fun h => h; exact .head _; rfl; rfl
   apply qy; rfl; rfl; rfl; apply Pev.move; rfl; exact yes
   apply qy; rfl; rfl; rfl; apply Pev.idx; rfl; exact fun h => h; rfl; exact fun h => h; rfl; rfl; intro hcond; omega
   apply qy; rfl; rfl; rfl; apply Pev.load_kept; rfl; exact fun h => h; exact .head _; rfl; intro hcond; assumption; intro hcond; (rw [add_block]; assumption); intro hcond; exact NotOwned.au
   apply qy; rfl; rfl; rfl; apply Pev.idxI; rfl; exact fun h => h; rfl; exact fun h => h; rfl; intro hcond; omega
   apply qy; rfl; rfl; rfl; apply Pev.fldA; rfl; exact fun h => h; rfl
   apply qy; rfl; rfl; rfl; apply Pev.load_kept; rfl; exact fun h => h; exact .head _; rfl; intro hcond; apply CellsAt.at_ (by assumption) rfl; intro hcond; (simp only [add_block]; assumption); intro hcond; exact NotOwned.au
   apply qy; rfl; rfl; rfl; apply Pev.bin; rfl; exact fun h => h; rfl; exact yes; intro hcond; apply Bin.neq
   apply qop; rfl; apply Pev.pick_and; rfl; exact yes; rfl; exact fun h => h
   apply qmv; rfl; rfl
   apply qno; rfl; rfl; rfl; apply Pev.fld; rfl; exact yes; rfl
   apply qno; rfl; rfl; rfl; apply Pev.load_blk; rfl; exact fun h => h; exact .head _; rfl; rfl
   apply qno; rfl; rfl; rfl; apply Pev.bin; rfl; exact fun h => h; rfl; exact yes; intro hcond; apply Bin.eql
   apply qno; rfl; rfl; rfl; apply Pev.move; rfl; exact fun h => h
   apply QL.op; exact Guard.cyes rfl rfl; rfl; rfl; apply Pev.move; rfl; exact yes
   apply QL.op; exact Guard.cyes rfl rfl; rfl; rfl; apply Pev.bin; rfl; exact fun h => h; rfl; exact yes; intro hcond; apply Bin.gtr
   apply qno; rfl; rfl; rfl; apply Pev.pick_and; rfl; exact fun h => h; rfl; exact fun h => h
   apply qno; rfl; rfl; rfl; apply Pev.move; rfl; exact fun h => h
   apply QL.op; exact Guard.cyes rfl rfl; rfl; rfl; apply Pev.fld; rfl; exact yes; rfl
   apply QL.op; exact Guard.cyes rfl rfl; rfl; rfl; apply Pev.load_blk; rfl; exact fun h => h; exact .head _; rfl; rfl
   apply QL.op; exact Guard.cyes rfl rfl; rfl; rfl; apply Pev.move; rfl; exact yes
   apply QL.gateOff; exact Guard.cyes rfl rfl; (simp; omega); rfl
   apply QL.gateOff; exact Guard.cyes rfl rfl; (simp; omega); rfl
   apply QL.op; exact Guard.cyes rfl rfl; rfl; rfl; apply Pev.fld; rfl; exact yes; rfl
   apply QL.op; exact Guard.cyes rfl rfl; rfl; rfl; apply Pev.load_blk; rfl; exact fun h => h; exact .head _; rfl; rfl
   apply QL.op; exact Guard.cyes rfl rfl; rfl; rfl; apply Pev.move; rfl; exact yes
   apply QL.op; exact Guard.cyes rfl rfl; rfl; rfl; apply Pev.bin; rfl; exact fun h => h; rfl; exact yes; intro hcond; apply Bin.sub_in; omega
   apply QL.gateOff; exact Guard.cyes rfl rfl; (simp; omega); rfl
   apply QL.gateOff; exact Guard.cyes rfl rfl; (simp; omega); rfl
   apply QL.gateOff; exact Guard.cyes rfl rfl; (simp; omega); rfl
   apply qno; rfl; rfl; rfl; apply Pev.pick_off; rfl; exact fun h => h; (intro hcond; simp; omega); rfl; exact yes
   apply qop; rfl; apply Pev.pick_or; rfl; exact yes; rfl; exact fun h => h
   apply QL.nil
   with_reducible apply At.next
   refine W.cond rfl (fun hb => ?_) (fun hb => ?_)
   ·apply W.sr
    apply oas; rfl; rfl
    apply OL.nx
    refine W.rt ?_
    ((with_reducible apply At.fin1); rfl; rfl; intro w' hw')
    exact ⟨by rw [hbad (by rw [hbk]; grind)], by (exact hw'.fr)⟩
   ·apply W.skip
    with_reducible apply At.in_normal
    with_reducible apply At.next
    apply W.reg
    apply obn; rfl; rfl; rfl; apply Bin.add_in; omega
    apply omv; rfl; rfl
    apply OL.nil
    exact At.again (i + 1) ⟨by omega, hagain (by first | exact hbk | (rw [hbk]; grind))⟩ (by omega) (by exact Sub.au) (fun w' hw' => hw')
  ·by_cases h9 : x.op = 9
   ·obtain ⟨ab, vi, hqb, habb, hvi, hci⟩ := h.b.get hil
    have habb : ab.block < w.heap.size := habb
    have e1 : x.binds.getD i 0 = vi := by simp [List.getD, hvi]
    by_cases hi0 : i = 0
    ·subst hi0
     have hbk : bindOk (es.map Prod.fst) x 0 = true := by unfold bindOk; grind
     apply W.sk
     apply W.sb
     apply W.sr
     apply omv; rfl; rfl
     apply oas; rfl; rfl
     apply OL.nx
     apply W.seq
     apply W.regd0; decide +kernel; kernel_rfl; decide +kernel; exact fun w hw => hw.drew
     apply qfa; rfl; rfl; rfl
     apply qld; rfl; rfl; exact .head _; rfl; rfl
     apply qbn; rfl; rfl; rfl; apply Bin.eql
     apply qmv; rfl; rfl
     apply qy; rfl; rfl; rfl; apply Pev.move; rfl; exact yes
     apply qy; rfl; rfl; rfl; apply Pev.fld; rfl; exact yes; rfl
     apply qy; rfl; rfl; rfl; apply Pev.load_blk; rfl; exact fun h => h; exact .head _; rfl; rfl
     apply qy; rfl; rfl; rfl; apply Pev.move; rfl; exact yes
     apply QL.gateOff; exact Guard.yes rfl rfl; (simp; omega); rfl
     apply QL.gateOff; exact Guard.yes rfl rfl; (simp; omega); rfl
     apply QL.gateOff; exact Guard.yes rfl rfl; (simp; omega); rfl
     apply QL.gateOff; exact Guard.yes rfl rfl; (simp; omega); rfl
     apply QL.gateOff; exact Guard.yes rfl rfl; (simp; omega); rfl
     apply QL.gateOff; exact Guard.yes rfl rfl; (simp; omega); rfl
     apply qop; rfl; apply Pev.pick_off; rfl; exact yes; (intro hcond; simp; omega); rfl; exact yes
     apply qmv; rfl; rfl
     apply qno; rfl; rfl; rfl; apply Pev.fld; rfl; exact yes; rfl
     apply qno; rfl; rfl; rfl; apply Pev.load_blk; rfl; exact yes; exact .head _; rfl; rfl
     apply qno; rfl; rfl; rfl; apply Pev.bin; rfl; exact yes; rfl; exact yes; intro hcond; apply Bin.eql
     apply qno; rfl; rfl; rfl; apply Pev.move; rfl; exact yes
     apply qy; rfl; rfl; rfl; apply Pev.move; rfl; exact yes
     apply qy; rfl; rfl; rfl; apply Pev.bin; rfl; exact fun h => h; rfl; exact yes; intro hcond; apply Bin.gtr
     apply qno; rfl; rfl; rfl; apply Pev.pick_and; rfl; exact yes; rfl; exact fun h => h
     apply qno; rfl; rfl; rfl; apply Pev.move; rfl; exact yes
     apply qy; rfl; rfl; rfl; apply Pev.fld; rfl; exact yes; rfl
     apply qy; rfl; rfl; rfl; apply Pev.load_blk; rfl; exact fun h => h; exact .head _; rfl; rfl
     apply qy; rfl; rfl; rfl; apply Pev.move; rfl; exact yes
     apply QL.gateOff; exact Guard.yes rfl rfl; (focus (simp; done)); rfl
     apply QL.gateOff; exact Guard.yes rfl rfl; (focus (simp; done)); rfl
     apply qy; rfl; rfl; rfl; apply Pev.fld; rfl; exact yes; rfl
     apply qy; rfl; rfl; rfl; apply Pev.load_blk; rfl; exact fun h => h; exact .head _; rfl; rfl
     apply qy; rfl; rfl; rfl; apply Pev.move; rfl; exact yes
     apply qy; rfl; rfl; rfl; apply Pev.bin; rfl; exact fun h => h; rfl; exact yes; intro hcond; apply Bin.sub_in; omega
     apply QL.gateOff; exact Guard.yes rfl rfl; (focus (simp; done)); rfl
     apply QL.gateOff; exact Guard.yes rfl rfl; (focus (simp; done)); rfl
     apply QL.gateOff; exact Guard.yes rfl rfl; (focus (simp; done)); rfl
     apply qno; rfl; rfl; rfl; apply Pev.pick_off; rfl; exact yes; (focus (intro hcond; simp; done)); rfl; exact yes
     apply qop; rfl; apply Pev.pick_or; rfl; exact yes; rfl; exact yes
     apply QL.nil
     with_reducible apply At.next
     refine W.cond rfl (fun hb => ?_) (fun hb => ?_)
     ·apply W.sr
      apply oas; rfl; rfl
      apply OL.nx
      refine W.rt ?_
      ((with_reducible apply At.fin1); rfl; rfl; intro w' hw')
      exact ⟨by rw [hbad (by rw [hbk]; grind)], by (exact hw'.fr)⟩
     ·apply W.skip
      with_reducible apply At.in_normal
      with_reducible apply At.next
      apply W.reg
      apply obn; rfl; rfl; rfl; apply Bin.add_in; omega
      apply omv; rfl; rfl
      apply OL.nil
      exact At.again (0 + 1) ⟨by omega, hagain (by first | exact hbk | (rw [hbk]; grind))⟩ (by omega) (by exact Sub.au) (fun w' hw' => hw')
    ·obtain ⟨ab2, vm, hqb2, _, hvm, hcm⟩ := h.b.get (i := i - 1) (by omega)
     rw [hqb] at hqb2
     obtain rfl := Option.some.inj hqb2
     have e2 : x.binds.getD (i - 1) 0 = vm := by simp [List.getD, hvm]
     have hbk : bindOk (es.map Prod.fst) x i = decide (vm < vi) := by
      unfold bindOk
      rw [e1, e2]
      grind
     have hcm : w.cell? (ab.add (((i : Int) - 1).toNat * 1)) = some (.int .i64 vm) := by rw [show ((i : Int) - 1).toNat = i - 1 by omega]; exact hcm
     rw [hqb]
     apply W.sk
     apply W.sb
     apply W.sr
     apply omv; rfl; rfl
     apply oas; rfl; rfl
     apply OL.nx
     apply W.seq
     apply W.regd0; decide +kernel; kernel_rfl; decide +kernel; exact fun w hw => hw.drew
     apply qfa; rfl; rfl; rfl
     apply qld; rfl; rfl; exact .head _; rfl; rfl
     apply qbn; rfl; rfl; rfl; apply Bin.eql
     apply qmv; rfl; rfl
     apply qy; rfl; rfl; rfl; apply Pev.move; rfl; exact yes
     apply qy; rfl; rfl; rfl; apply Pev.fld; rfl; exact yes; rfl
     apply qy; rfl; rfl; rfl; apply Pev.load_blk; rfl; exact fun h => h; exact .head _; rfl; rfl
     apply qy; rfl; rfl; rfl; apply Pev.move; rfl; exact yes
     apply QL.gateOff; exact Guard.yes rfl rfl; (simp; omega); rfl
     apply QL.gateOff; exact Guard.yes rfl rfl; (simp; omega); rfl
     apply QL.gateOff; exact Guard.yes rfl rfl; (simp; omega); rfl
     apply QL.gateOff; exact Guard.yes rfl rfl; (simp; omega); rfl
     apply QL.gateOff; exact Guard.yes rfl rfl; (simp; omega); rfl
     apply QL.gateOff; exact Guard.yes rfl rfl; (simp; omega); rfl
     apply qop; rfl; apply Pev.pick_off; rfl; exact yes; (intro hcond; simp; omega); rfl; exact yes
     apply qmv; rfl; rfl
     apply qno; rfl; rfl; rfl; apply Pev.fld; rfl; exact yes; rfl
     apply qno; rfl; rfl; rfl; apply Pev.load_blk; rfl; exact yes; exact .head _; rfl; rfl
     apply qno; rfl; rfl; rfl; apply Pev.bin; rfl; exact yes; rfl; exact yes; intro hcond; apply Bin.eql
     apply qno; rfl; rfl; rfl; apply Pev.move; rfl; exact yes
     apply qy; rfl; rfl; rfl; apply Pev.move; rfl; exact yes
     apply qy; rfl; rfl; rfl; apply Pev.bin; rfl; exact fun h => h; rfl; exact yes; intro hcond; apply Bin.gtr
     apply qno; rfl; rfl; rfl; apply Pev.pick_and; rfl; exact yes; rfl; exact fun h => h
     apply qno; rfl; rfl; rfl; apply Pev.move; rfl; exact yes
     apply qy; rfl; rfl; rfl; apply Pev.fld; rfl; exact yes; rfl
     apply qy; rfl; rfl; rfl; apply Pev.load_blk; rfl; exact fun h => h; exact .head _; rfl; rfl
     apply qy; rfl; rfl; rfl; apply Pev.move; rfl; exact yes
     apply qy; rfl; rfl; rfl; apply Pev.idx; rfl; exact fun h => h; rfl; exact fun h => h; rfl; rfl; intro hcond; omega
     apply qy; rfl; rfl; rfl; apply Pev.load_kept; rfl; exact fun h => h; exact .head _; rfl; intro hcond; assumption; intro hcond; (rw [add_block]; assumption); intro hcond; exact NotOwned.au
     apply qy; rfl; rfl; rfl; apply Pev.fld; rfl; exact yes; rfl
     apply qy; rfl; rfl; rfl; apply Pev.load_blk; rfl; exact fun h => h; exact .head _; rfl; rfl
     apply qy; rfl; rfl; rfl; apply Pev.move; rfl; exact yes
     apply qy; rfl; rfl; rfl; apply Pev.bin; rfl; exact fun h => h; rfl; exact yes; intro hcond; apply Bin.sub_in; omega
     apply qy; rfl; rfl; rfl; apply Pev.idxI; rfl; exact fun h => h; rfl; exact fun h => h; rfl; intro hcond; omega
     apply qy; rfl; rfl; rfl; apply Pev.load_kept; rfl; exact fun h => h; exact .head _; rfl; intro hcond; assumption; intro hcond; (rw [add_block]; assumption); intro hcond; exact NotOwned.au
     apply qy; rfl; rfl; rfl; apply Pev.bin; rfl; exact fun h => h; rfl; exact fun h => h; intro hcond; apply Bin.leq
     apply qno; rfl; rfl; rfl; apply Pev.pick_and; rfl; exact yes; rfl; exact fun h => h
     apply qop; rfl; apply Pev.pick_or; rfl; exact yes; rfl; exact yes
     apply QL.nil
     with_reducible apply At.next
     refine W.cond rfl (fun hb => ?_) (fun hb => ?_)
     ·apply W.sr
      apply oas; rfl; rfl
      apply OL.nx
      refine W.rt ?_
      ((with_reducible apply At.fin1); rfl; rfl; intro w' hw')
      exact ⟨by rw [hbad (by rw [hbk]; grind)], by (exact hw'.fr)⟩
     ·apply W.skip
      with_reducible apply At.in_normal
      with_reducible apply At.next
      apply W.reg
      apply obn; rfl; rfl; rfl; apply Bin.add_in; omega
      apply omv; rfl; rfl
      apply OL.nil
      exact At.again (i + 1) ⟨by omega, hagain (by first | exact hbk | (rw [hbk]; grind))⟩ (by omega) (by exact Sub.au) (fun w' hw' => hw')
   ·have hbk : bindOk (es.map Prod.fst) x i = true := by unfold bindOk; grind
    apply W.sk
    apply W.sb
    apply W.sr
    apply omv; rfl; rfl
    apply oas; rfl; rfl
    apply OL.nx
    apply W.seq
    apply W.regd0; decide +kernel; kernel_rfl; decide +kernel; exact fun w hw => hw.drew
    apply qfa; rfl; rfl; rfl
    apply qld; rfl; rfl; exact .head _; rfl; rfl
    apply qbn; rfl; rfl; rfl; apply Bin.eql
    apply qmv; rfl; rfl
    apply qy; rfl; rfl; rfl; apply Pev.move; rfl; exact yes
    apply qy; rfl; rfl; rfl; apply Pev.fld; rfl; exact yes; rfl
    apply qy; rfl; rfl; rfl; apply Pev.load_blk; rfl; exact fun h => h; exact .head _; rfl; rfl
    apply qy; rfl; rfl; rfl; apply Pev.move; rfl; exact yes
    apply QL.gateOff; exact Guard.yes rfl rfl; (simp; omega); rfl
    apply QL.gateOff; exact Guard.yes rfl rfl; (simp; omega); rfl
    apply QL.gateOff; exact Guard.yes rfl rfl; (simp; omega); rfl
    apply QL.gateOff; exact Guard.yes rfl rfl; (simp; omega); rfl
    apply QL.gateOff; exact Guard.yes rfl rfl; (simp; omega); rfl
    apply QL.gateOff; exact Guard.yes rfl rfl; (simp; omega); rfl
    apply qop; rfl; apply Pev.pick_off; rfl; exact yes; (intro hcond; simp; omega); rfl; exact yes
    apply qmv; rfl; rfl
    apply qno; rfl; rfl; rfl; apply Pev.fld; rfl; exact yes; rfl
    apply qno; rfl; rfl; rfl; apply Pev.load_blk; rfl; exact yes; exact .head _; rfl; rfl
    apply qno; rfl; rfl; rfl; apply Pev.bin; rfl; exact yes; rfl; exact yes; intro hcond; apply Bin.eql
    apply qno; rfl; rfl; rfl; apply Pev.move; rfl; exact yes
    apply qy; rfl; rfl; rfl; apply Pev.move; rfl; exact yes
    apply qy; rfl; rfl; rfl; apply Pev.bin; rfl; exact fun h => h; rfl; exact yes; intro hcond; apply Bin.gtr
    apply qno; rfl; rfl; rfl; apply Pev.pick_and; rfl; exact yes; rfl; exact fun h => h
    apply qno; rfl; rfl; rfl; apply Pev.move; rfl; exact yes
    apply qy; rfl; rfl; rfl; apply Pev.fld; rfl; exact yes; rfl
    apply qy; rfl; rfl; rfl; apply Pev.load_blk; rfl; exact fun h => h; exact .head _; rfl; rfl
    apply qy; rfl; rfl; rfl; apply Pev.move; rfl; exact yes
    apply QL.gateOff; exact Guard.yes rfl rfl; (simp; omega); rfl
    apply QL.gateOff; exact Guard.yes rfl rfl; (simp; omega); rfl
    apply qy; rfl; rfl; rfl; apply Pev.fld; rfl; exact yes; rfl
    apply qy; rfl; rfl; rfl; apply Pev.load_blk; rfl; exact fun h => h; exact .head _; rfl; rfl
    apply qy; rfl; rfl; rfl; apply Pev.move; rfl; exact yes
    apply qy; rfl; rfl; rfl; apply Pev.bin; rfl; exact fun h => h; rfl; exact yes; intro hcond; apply Bin.sub_in; omega
    apply QL.gateOff; exact Guard.yes rfl rfl; (simp; omega); rfl
    apply QL.gateOff; exact Guard.yes rfl rfl; (simp; omega); rfl
    apply QL.gateOff; exact Guard.yes rfl rfl; (simp; omega); rfl
    apply qno; rfl; rfl; rfl; apply Pev.pick_off; rfl; exact yes; (intro hcond; simp; omega); rfl; exact yes
    apply qop; rfl; apply Pev.pick_or; rfl; exact yes; rfl; exact yes
    apply QL.nil
    with_reducible apply At.next
    refine W.cond rfl (fun hb => ?_) (fun hb => ?_)
    ·apply W.sr
     apply oas; rfl; rfl
     apply OL.nx
     refine W.rt ?_
     ((with_reducible apply At.fin1); rfl; rfl; intro w' hw')
     exact ⟨by rw [hbad (by rw [hbk]; grind)], by (exact hw'.fr)⟩
    ·apply W.skip
     with_reducible apply At.in_normal
     with_reducible apply At.next
     apply W.reg
     apply obn; rfl; rfl; rfl; apply Bin.add_in; omega
     apply omv; rfl; rfl
     apply OL.nil
     exact At.again (i + 1) ⟨by omega, hagain (by first | exact hbk | (rw [hbk]; grind))⟩ (by omega) (by exact Sub.au) (fun w' hw' => hw')
 ·obtain rfl : i = x.binds.length := by omega
  have hkb : kidsB (es.map Prod.fst) x = true := all_range hall
  refine W.xt ?_
  with_reducible apply At.next
  apply W.sr
  apply oas; rfl; rfl
  apply OL.nx
  apply W.ret
  ((with_reducible apply At.fin1); rfl; rfl; intro w' hw')
  exact ⟨by rw [hkb], by (exact hw'.fr)⟩
end Go.Proofs.YtkpjndhgicbjjaaDoor.co
namespace Go.Co
open Go.Eng Go.RowKit
theorem dep_small {e : List Ex} {P : List Int} (ht : IsTree e) (hP : Parents e P) {i : Nat} (hi : i < e.length) : dep e P i ≤ e.length := by
 obtain ⟨d, hu, hd⟩ := dep_under ht hP hi
 have := hu.le ht.down
 omega
theorem depths_small {e : List Ex} {P : List Int} (ht : IsTree e) (hP : Parents e P) : ∀ {n : Nat}, n ≤ e.length → depths e P n ≤ e.length
 | 0, _ => Nat.zero_le _
 | n + 1, h => by
  rw [depths_succ]
  have := depths_small ht hP (n := n) (by omega)
  have := dep_small ht hP (i := n) (by omega)
  omega
theorem Parents.cases {e : List Ex} {P : List Int} (hP : Parents e P) (ht : IsTree e) {c : Nat} (hc : c < e.length) : P[c]? = some (-1) ∨ ∃ p m : Nat, P[c]? = some (p : Int) ∧ c < p ∧ p < e.length ∧ Par e c p m := by
 by_cases h : c + 1 < e.length
 ·obtain ⟨p, m, hp⟩ := ht.one c h
  have hl := hp.lt ht.down
  exact .inr ⟨p, m, hP.par c p m hp, hl.1, hl.2, hp⟩
 ·rw [show c = e.length - 1 by omega]
  exact .inl hP.root
end Go.Co
namespace Go.Proofs.YtkpjndhgicbjjaaDoor.co
open Go.RowKit Go.Eng Go.Co
set_option maxRecDepth 100000
theorem Depth_calls (e : List Ex) (q qp : Option Addr) (cap cp : Nat) (P : List Int) (w : World) (ht : IsTree e) (hP : Parents e P) (hlen : e.length ≤ 4096) (hI : IntsO w (low w) P qp) :
  Calls Tryd.prog 26 [.slice q e.length cap, .slice qp e.length cp].toArray w fun e1 w' => e1 = .returned (.int .i64 (depths e P e.length : Int)) ∧ Ext w w' := by
 refine enter Tryd.func26 rfl Tryd.ntmps26 rfl (Cls.start w) ?_
 (simp only [argEnv, Nat.zero_add, Nat.reduceAdd])
 apply W.sr
 apply oas; rfl; rfl
 apply OL.nsr
 apply oas; rfl; rfl
 apply OL.nx
 apply W.seq
 apply W.sr
 apply omv; rfl; rfl
 apply oop; rfl; apply Pev.len_slice; rfl; exact yes; rfl
 apply omv; rfl; rfl
 apply OL.nx
 apply W.block
 refine W.loop (G := Nat) (fun i => i ≤ e.length) (fun i => e.length - i)
  (fun i => [(1, true, .slice qp e.length cp), (5, true, .int .i64 (depths e P i : Int)), (10, true, .int .i64 (e.length : Int)), (11, true, .int .i64 (i : Int))])
  (fun i => Cls [] [w]) 0 (by omega) (by exact Sub.au) (fun w' hw' => hw') ?_
 rintro i hi
 apply W.sr
 apply obn; rfl; rfl; rfl; apply Bin.lss
 apply OL.nx
 apply W.seq
 (refine W.cnd (fun hlt => ?_) (fun hlt => ?_)) <;> (try (exfalso; first | omega | exact hlt trivial | contradiction))
 ·have hil : i < e.length := by omega
  have hdi := dep_small ht hP hil
  have hds := depths_small ht hP hi
  apply W.sk
  apply W.sb
  apply W.sr
  apply omv; rfl; rfl
  apply oas; rfl; rfl
  apply OL.nsr
  apply oas; rfl; rfl
  apply OL.nx
  apply W.seq
  apply W.sr
  apply omv; rfl; rfl
  apply oas; rfl; rfl
  apply OL.nx
  apply W.block
  refine W.loop (G := Int × Nat) (fun g => (g.1 = -1 ∧ g.2 = dep e P i) ∨ (0 ≤ g.1 ∧ g.1.toNat < e.length ∧ g.2 + dep e P g.1.toNat = dep e P i)) (fun g => if g.1 < 0 then 0 else e.length - g.1.toNat)
   (fun g => [(1, true, .slice qp e.length cp), (5, true, .int .i64 (depths e P i : Int)), (7, true, .int .i64 (g.2 : Int)), (8, true, .int .i64 g.1), (10, true, .int .i64 (e.length : Int)), (11, true, .int .i64 (i : Int))])
   (fun i => Cls [] [w]) ((i : Int), 0) (.inr ⟨by simp, by simpa using hil, by simp⟩) (by exact Sub.au) (fun w' hw' => hw') ?_
  rintro ⟨k, n⟩ hk
  simp only at hk ⊢
  apply W.seq
  apply W.sr
  apply omv; rfl; rfl
  apply obn; rfl; rfl; rfl; apply Bin.geq
  apply OL.nx
  (refine W.cnd (fun hk0 => ?_) (fun hk0 => ?_)) <;> (try (exfalso; first | omega | exact hk0 trivial | contradiction))
  ·obtain ⟨c, rfl⟩ : ∃ c : Nat, k = (c : Int) := ⟨k.toNat, by omega⟩
   obtain ⟨hc, hn⟩ : c < e.length ∧ n + dep e P c = dep e P i := by
    rcases hk with ⟨h1, _⟩ | ⟨_, h2, h3⟩
    ·omega
    ·exact ⟨by simpa using h2, by simpa using h3⟩
   obtain ⟨a, u, hq, hab, hu, hcell⟩ := hI.get (i := c) (by rw [hP.len]; exact hc)
   have hab : a.block < w.heap.size := hab
   rw [hq]
   apply W.sk
   apply W.sb
   apply W.reg
   apply omv; rfl; rfl
   apply obn; rfl; rfl; rfl; apply Bin.add_in; omega
   apply oas; rfl; rfl
   apply OL.nil
   with_reducible apply At.in_normal
   with_reducible apply At.next
   apply W.reg
   apply omv; rfl; rfl
   apply omv; rfl; rfl
   apply oop; rfl; apply Pev.idx; rfl; exact yes; rfl; exact yes; rfl; rfl; intro hcond; omega
   apply oop; rfl; apply Pev.load_kept; rfl; exact yes; exact .head _; rfl; intro hcond; assumption; intro hcond; (rw [add_block]; assumption); intro hcond; exact NotOwned.au
   apply oas; rfl; rfl
   apply OL.nil
   rcases hP.cases ht hc with h1 | ⟨p, m, h1, h2, h3, _⟩
   ·rw [h1] at hu
    obtain rfl := Option.some.inj hu
    have := dep_root (e := e) h1
    exact At.again (-1, n + 1) (.inl ⟨rfl, by simp only; omega⟩) (by simp only; rw [if_pos (by omega), if_neg (by omega)]; simp; omega) (by exact Sub.au) (fun w' hw' => hw')
   ·rw [h1] at hu
    obtain rfl := Option.some.inj hu
    have := dep_up h1 ⟨by omega, by simpa using h2, by simpa using h3⟩
    simp only [Int.toNat_natCast] at this
    exact At.again ((p : Int), n + 1) (.inr ⟨by simp, by simpa using h3, by simp only [Int.toNat_natCast]; omega⟩) (by simp only; rw [if_neg (by omega), if_neg (by omega)]; simp; omega) (by exact Sub.au) (fun w' hw' => hw')
  ·have hn : n = dep e P i := by
    rcases hk with ⟨_, h1⟩ | ⟨h1, _⟩
    ·exact h1
    ·omega
   subst hn
   refine W.xt ?_
   with_reducible apply At.next
   apply W.reg
   apply omv; rfl; rfl
   apply omv; rfl; rfl
   apply oop; rfl; apply Pev.max2; rfl; exact yes; rfl; exact yes
   apply oas; rfl; rfl
   apply OL.nil
   with_reducible apply At.in_normal
   with_reducible apply At.next
   apply W.reg
   apply obn; rfl; rfl; rfl; apply Bin.add_in; omega
   apply omv; rfl; rfl
   apply OL.nil
   rw [maxIf, ← depths_succ]
   skip
   exact At.again (i + 1) (by omega) (by omega) (by exact Sub.au) (fun w' hw' => hw')
 ·obtain rfl : i = e.length := by omega
  refine W.xt ?_
  with_reducible apply At.next
  apply W.sr
  apply omv; rfl; rfl
  apply oas; rfl; rfl
  apply OL.nx
  apply W.ret
  ((with_reducible apply At.fin1); rfl; rfl; intro w' hw')
  exact ⟨rfl, by (exact hw'.fr)⟩
theorem binder_calls (es : List (Ex × ExY)) (q qp : Option Addr) (cap cp : Nat) (P : List Int) (at_ : Nat) (x0 : Ex) (w : World) (he : Arr exR w (low w) es q) (hlen : es.length ≤ 4096) (ht : IsTree (es.map Prod.fst)) (hP : Parents (es.map Prod.fst) P) (hI : IntsO w (low w) P qp)
  (hx0 : (es.map Prod.fst)[at_]? = some x0) (hk7 : ∀ p ∈ es, p.1.op = 7 ∨ p.1.op = 13 → p.1.kids.length = 1 + p.1.alts.length) (ha : ∀ p ∈ es, ¬ (p.1.op = 7 ∨ p.1.op = 13) → p.1.alts.length = 0) :
  Calls Tryd.prog 31 [.slice q es.length cap, .slice qp es.length cp, .int .i64 (at_ : Int)].toArray w fun e1 w' => e1 = .returned (.int .i64 (bnd (es.map Prod.fst) P x0.n at_)) ∧ Ext w w' := by
 obtain ⟨e, hee⟩ : ∃ e, es.map Prod.fst = e := ⟨_, rfl⟩
 have hel : e.length = es.length := by rw [← hee, List.length_map]
 rw [hee] at hx0 ht hP ⊢
 have hget : ∀ {i : Nat}, i < es.length → ∃ a p, q = some a ∧ a.block < w.heap.size ∧ es[i]? = some p ∧ e[i]? = some p.1 ∧ CellsAt w (a.add (i * 5)) [.int .i64 p.1.op, .int .i64 p.1.n, .slice p.2.b.1 p.1.binds.length p.2.b.2, .slice p.2.k.1 p.1.kids.length p.2.k.2, .slice p.2.a.1 p.1.alts.length p.2.a.2] ∧ ExOk w (low w) p.1 p.2 := fun {i} hi => by
  obtain ⟨a, p, h1, h2, h3, h4, h5⟩ := he.get hi
  exact ⟨a, p, h1, h2, h3, by rw [← hee, List.getElem?_map, h3]; rfl, h4, h5⟩
 have hat : at_ < es.length := by have := (List.getElem?_eq_some_iff.1 hx0).1; omega
 obtain ⟨a0, p0, hq0, hab0, hp0, hpe0, hcell0, hok0⟩ := hget hat
 rw [hx0] at hpe0
 obtain rfl := Option.some.inj hpe0
 refine enter Tryd.func31 rfl Tryd.ntmps31 rfl (Cls.start w) ?_
 (simp only [argEnv, Nat.zero_add, Nat.reduceAdd])
 apply W.sr
 apply oas; rfl; rfl
 apply OL.nx
 apply W.seq
 apply W.sr
 apply omv; rfl; rfl
 apply oas; rfl; rfl
 apply OL.nx
 apply W.block
 refine W.loop (G := Nat) (fun c => c < es.length ∧ bnd e P p0.1.n c = bnd e P p0.1.n at_) (fun c => es.length - c)
  (fun c => [(0, true, .slice q es.length cap), (1, true, .slice qp es.length cp), (2, true, .int .i64 (at_ : Int)), (7, true, .int .i64 (c : Int))])
  (fun c => Cls [] [w]) at_ ⟨hat, rfl⟩ (by exact Sub.au) (fun w' hw' => hw') ?_
 rintro c ⟨hc, hb⟩
 obtain ⟨a, u, hq, hab, hu, hcell⟩ := hI.get (i := c) (by rw [hP.len]; omega)
 have hab : a.block < w.heap.size := hab
 rw [hq]
 apply W.seq
 apply W.sr
 apply omv; rfl; rfl
 apply omv; rfl; rfl
 apply oop; rfl; apply Pev.idx; rfl; exact yes; rfl; exact yes; rfl; rfl; intro hcond; omega
 apply oop; rfl; apply Pev.load_kept; rfl; exact yes; exact .head _; rfl; intro hcond; assumption; intro hcond; (rw [add_block]; assumption); intro hcond; exact NotOwned.au
 apply obn; rfl; rfl; rfl; apply Bin.geq
 apply OL.nx
 rcases hP.cases ht (c := c) (by omega) with h1 | ⟨p, m0, h1, h2, h3, _⟩
 ·rw [h1] at hu
  obtain rfl := Option.some.inj hu
  refine W.cond rfl (fun hb => by cases hb) (fun _ => ?_)
  refine W.xt ?_
  with_reducible apply At.next
  apply W.sr
  apply oas; rfl; rfl
  apply OL.nx
  apply W.ret
  ((with_reducible apply At.fin1); rfl; rfl; intro w' hw')
  exact ⟨by rw [← hb, bnd_root h1], by (exact hw'.fr)⟩
 ·rw [h1] at hu
  obtain rfl := Option.some.inj hu
  obtain ⟨a1, x, hq1, hab1, hp1, hpe1, hcell1, hok1⟩ := hget (i := p) (by omega)
  rw [hq0] at hq1
  obtain rfl := Option.some.inj hq1
  have hkl := hok1.kl
  have hup := bnd_up (n := p0.1.n) h1 h2 hpe1
  rw [hq0]
  refine W.cond rfl (fun _ => ?_) (fun hb => by simp at hb)
  apply W.sk
  apply W.sb
  apply W.sr
  apply omv; rfl; rfl
  apply omv; rfl; rfl
  apply oop; rfl; apply Pev.idx; rfl; exact yes; rfl; exact yes; rfl; rfl; intro hcond; omega
  apply oop; rfl; apply Pev.load_kept; rfl; exact yes; exact .head _; rfl; intro hcond; assumption; intro hcond; (rw [add_block]; assumption); intro hcond; exact NotOwned.au
  apply oas; rfl; rfl
  apply OL.nsr
  apply omv; rfl; rfl
  apply omv; rfl; rfl
  apply oop; rfl; apply Pev.idx; rfl; exact yes; rfl; exact yes; rfl; rfl; intro hcond; omega
  apply oop; rfl; apply Pev.fldA; rfl; exact yes; rfl
  apply oop; rfl; apply Pev.load_kept; rfl; exact yes; exact .head _; rfl; intro hcond; apply CellsAt.at_ (by assumption) rfl; intro hcond; (simp only [add_block]; assumption); intro hcond; exact NotOwned.au
  apply oop; rfl; apply Pev.len_slice; rfl; exact yes; rfl
  apply omv; rfl; rfl
  apply OL.nx
  apply W.block
  refine W.loop (G := Nat) (fun m => m ≤ x.1.kids.length ∧ ∀ m', m' < m → hitK x.1 c p0.1.n m' = false) (fun m => x.1.kids.length - m)
   (fun m => [(0, true, .slice (some a0) es.length cap), (1, true, .slice (some a) es.length cp), (2, true, .int .i64 (at_ : Int)), (7, true, .int .i64 (c : Int)), (8, true, .int .i64 (p : Int)), (29, true, .slice x.2.k.1 x.1.kids.length x.2.k.2), (30, true, .int .i64 (x.1.kids.length : Int)), (31, true, .int .i64 (m : Int))])
   (fun m => Cls [] [w]) 0 ⟨by omega, fun m' h => by omega⟩ (by exact Sub.au) (fun w' hw' => hw') ?_
  rintro m ⟨hm, hno⟩
  apply W.sr
  apply obn; rfl; rfl; rfl; apply Bin.lss
  apply OL.nx
  apply W.seq
  (refine W.cnd (fun hlt => ?_) (fun hlt => ?_)) <;> (try (exfalso; first | omega | exact hlt trivial | contradiction))
  ·have hml : m < x.1.kids.length := by omega
   obtain ⟨ak, k, hqk, habk, hk, hck⟩ := hok1.k.get hml
   have habk : ak.block < w.heap.size := habk
   have hxm := List.mem_of_getElem? hp1
   rw [hqk]
   by_cases hkc : k = (c : Int)
   ·subst hkc
    obtain ⟨qs, cs, hIs, hsl, hcall⟩ := Scope_calls x.1 x.2 m w hok1 (fun h7 => by have := hk7 x hxm h7; omega) (ha x hxm) (by omega)
    simp only [exC] at hcall
    have hhk : hitK x.1 c p0.1.n m = decide (p0.1.n ∈ scopeX x.1 m) := by unfold hitK; rw [hk]; simp
    apply W.sk
    apply W.sb
    apply W.sr
    apply omv; rfl; rfl
    apply oop; rfl; apply Pev.idx; rfl; exact yes; rfl; exact yes; rfl; rfl; intro hcond; omega
    apply oop; rfl; apply Pev.load_kept; rfl; exact yes; exact .head _; rfl; intro hcond; assumption; intro hcond; (rw [add_block]; assumption); intro hcond; exact NotOwned.au
    apply oas; rfl; rfl
    apply oas; rfl; rfl
    apply OL.nx
    apply W.seq
    apply W.regd0; decide +kernel; kernel_rfl; decide +kernel; exact fun w hw => hw.drew
    apply qmv; rfl; rfl
    apply qmv; rfl; rfl
    apply qbn; rfl; rfl; rfl; apply Bin.eql
    apply qmv; rfl; rfl
    apply qy; rfl; rfl; rfl; apply Pev.move; rfl; exact yes
    apply qy; rfl; rfl; rfl; apply Pev.move; rfl; exact yes
    apply qy; rfl; rfl; rfl; apply Pev.idx; rfl; exact fun h => h; rfl; exact fun h => h; rfl; rfl; intro hcond; omega
    apply qy; rfl; rfl; rfl; apply Pev.load_keptA; rfl; exact fun h => h; exact .head _; rfl; intro hcond; assumption; rfl; intro hcond; (rw [add_block]; assumption); intro hcond; exact NotOwned.au
    apply qy; rfl; rfl; rfl; apply Pev.move; rfl; exact yes
    (((first | (with_reducible apply OL.op) | (with_reducible apply QL.op)); (exact Guard.au); rfl; rfl); (exact Pev.call rfl (by exact Args.au) (fun _ w2 hw2 => (hcall w2 (hw2.same (.head _) (fun k hk => by exact NotOwned.au)) (hw2.kp w (by exact mau)).size).mono (fun e w3 h => ⟨h.1, hw2.ext h.2⟩))))
    apply qy; rfl; rfl; rfl; apply Pev.move; rfl; exact yes
    apply qy; rfl; rfl; rfl; apply Pev.move; rfl; exact yes
    apply qy; rfl; rfl; rfl; apply Pev.idx; rfl; exact fun h => h; rfl; exact fun h => h; rfl; rfl; intro hcond; omega
    apply qy; rfl; rfl; rfl; apply Pev.fldA; rfl; exact fun h => h; rfl
    apply qy; rfl; rfl; rfl; apply Pev.load_kept; rfl; exact fun h => h; exact .head _; rfl; intro hcond; apply CellsAt.at_ (by assumption) rfl; intro hcond; (simp only [add_block]; assumption); intro hcond; exact NotOwned.au
    (((first | (with_reducible apply OL.op) | (with_reducible apply QL.op)); (exact Guard.au); rfl; rfl); (exact Pev.call rfl (by exact Args.au) (fun _ w2 hw2 => (In_calls qs cs (scopeX x.1 m) p0.1.n w2 (by omega) (hIs.at hw2 (by exact mau) (fun k hk => by exact NotOwned.au))).mono (fun e w3 h => ⟨h.1, hw2.ext h.2⟩))))
    apply qop; rfl; apply Pev.pick_and; rfl; exact yes; rfl; exact fun h => h
    apply QL.nil
    with_reducible apply At.next
    refine W.cond rfl (fun hb2 => ?_) (fun hb2 => ?_)
    ·have hin : p0.1.n ∈ scopeX x.1 m := by simpa using hb2
     apply W.sr
     apply omv; rfl; rfl
     apply oas; rfl; rfl
     apply OL.nx
     refine W.rt ?_
     ((with_reducible apply At.fin1); rfl; rfl; intro w' hw')
     refine ⟨?_, by (exact hw'.fr)⟩
     have hh : hit x.1 c p0.1.n = true := by
      unfold hit
      rw [List.any_eq_true]
      exact ⟨m, List.mem_range.2 hml, by rw [hhk]; simpa using hin⟩
     rw [← hb, hup, if_pos hh]
    ·have hnin : ¬ p0.1.n ∈ scopeX x.1 m := by simpa using hb2
     apply W.skip
     with_reducible apply At.in_normal
     with_reducible apply At.next
     apply W.reg
     apply obn; rfl; rfl; rfl; apply Bin.add_in; omega
     apply omv; rfl; rfl
     apply OL.nil
     refine At.again (m + 1) ⟨by omega, fun m' hm' => ?_⟩ (by omega) (by exact Sub.au) (fun w' hw' => hw')
     by_cases em : m' = m
     ·subst em
      rw [hhk]
      simpa using hnin
     ·exact hno m' (by omega)
   ·apply W.sk
    apply W.sb
    apply W.sr
    apply omv; rfl; rfl
    apply oop; rfl; apply Pev.idx; rfl; exact yes; rfl; exact yes; rfl; rfl; intro hcond; omega
    apply oop; rfl; apply Pev.load_kept; rfl; exact yes; exact .head _; rfl; intro hcond; assumption; intro hcond; (rw [add_block]; assumption); intro hcond; exact NotOwned.au
    apply oas; rfl; rfl
    apply oas; rfl; rfl
    apply OL.nx
    apply W.seq
    apply W.regd0; decide +kernel; kernel_rfl; decide +kernel; exact fun w hw => hw.drew
    apply qmv; rfl; rfl
    apply qmv; rfl; rfl
    apply qbn; rfl; rfl; rfl; apply Bin.eql
    apply qmv; rfl; rfl
    apply qy; rfl; rfl; rfl; apply Pev.move; rfl; exact yes
    apply qy; rfl; rfl; rfl; apply Pev.move; rfl; exact yes
    apply qy; rfl; rfl; rfl; apply Pev.idx; rfl; exact fun h => h; rfl; exact fun h => h; rfl; rfl; intro hcond; omega
    apply qy; rfl; rfl; rfl; apply Pev.load_keptA; rfl; exact fun h => h; exact .head _; rfl; intro hcond; assumption; rfl; intro hcond; (rw [add_block]; assumption); intro hcond; exact NotOwned.au
    apply qy; rfl; rfl; rfl; apply Pev.move; rfl; exact yes
    apply QL.gateOff; exact Guard.yes rfl rfl; (simp; omega); rfl
    apply qy; rfl; rfl; rfl; apply Pev.move; rfl; exact yes
    apply qy; rfl; rfl; rfl; apply Pev.move; rfl; exact yes
    apply qy; rfl; rfl; rfl; apply Pev.idx; rfl; exact fun h => h; rfl; exact fun h => h; rfl; rfl; intro hcond; omega
    apply qy; rfl; rfl; rfl; apply Pev.fldA; rfl; exact fun h => h; rfl
    apply qy; rfl; rfl; rfl; apply Pev.load_kept; rfl; exact fun h => h; exact .head _; rfl; intro hcond; apply CellsAt.at_ (by assumption) rfl; intro hcond; (simp only [add_block]; assumption); intro hcond; exact NotOwned.au
    apply QL.gateOff; exact Guard.yes rfl rfl; (simp; omega); rfl
    apply qop; rfl; apply Pev.pick_off; rfl; exact yes; (intro hcond; simp; omega); rfl; exact yes
    apply QL.nil
    with_reducible apply At.next
    refine W.cond rfl (fun hb2 => by simp [hkc] at hb2) (fun hb2 => ?_)
    apply W.skip
    with_reducible apply At.in_normal
    with_reducible apply At.next
    apply W.reg
    apply obn; rfl; rfl; rfl; apply Bin.add_in; omega
    apply omv; rfl; rfl
    apply OL.nil
    refine At.again (m + 1) ⟨by omega, fun m' hm' => ?_⟩ (by omega) (by exact Sub.au) (fun w' hw' => hw')
    by_cases em : m' = m
    ·subst em
     unfold hitK
     rw [hk]
     simp [hkc]
    ·exact hno m' (by omega)
  ·obtain rfl : m = x.1.kids.length := by omega
   have hh : ¬ hit x.1 c p0.1.n = true := by
    unfold hit
    rw [List.any_eq_true]
    rintro ⟨m', h4, h5⟩
    rw [hno m' (List.mem_range.1 h4)] at h5
    cases h5
   rw [if_neg hh] at hup
   refine W.xt ?_
   with_reducible apply At.in_normal
   with_reducible apply At.next
   apply W.reg
   apply omv; rfl; rfl
   apply omv; rfl; rfl
   apply oop; rfl; apply Pev.idx; rfl; exact yes; rfl; exact yes; rfl; rfl; intro hcond; omega
   apply oop; rfl; apply Pev.load_kept; rfl; exact yes; exact .head _; rfl; intro hcond; assumption; intro hcond; (rw [add_block]; assumption); intro hcond; exact NotOwned.au
   apply oas; rfl; rfl
   apply OL.nil
   refine At.again p ⟨by omega, by rw [← hb, hup]⟩ (by omega) (by exact Sub.au) (fun w' hw' => hw')
end Go.Proofs.YtkpjndhgicbjjaaDoor.co
namespace Go.Co
open Go.Eng Go.RowKit
theorem IntsO.part {w w' : World} {lo : Nat} {l : List Int} {q : Option Addr} {H : List Eng.Item} {S : List World} (h : IntsO w (fun k => lo ≤ k ∧ k < w.heap.size) l q) (hw : Cls H S w') (hs : w ∈ S) (hno : ∀ k, lo ≤ k → NotOwned H k) : IntsO w' (low w') l q :=
 IntsO.mono (fun k hk => Nat.lt_of_lt_of_le hk.2 (hw.kp w hs).size) (IntsO.stab (fun k hk => (hw.kp w hs).block k hk.2 (hno k hk.1).not) h)
theorem IntsO.take {w : World} {O : Nat → Prop} {l : List Int} {q : Option Addr} (h : IntsO w O l q) (i : Nat) : IntsO w O (l.take i) q := fun hl => by
 rw [List.length_take] at hl
 obtain ⟨a, h1, h2, h3⟩ := h (by omega)
 refine ⟨a, h1, h2, fun j v hj => ?_⟩
 unfold ints at hj
 rw [List.map_take] at hj
 by_cases hji : j < i
 ·rw [List.getElem?_take_of_lt hji] at hj
  exact h3 j v hj
 ·rw [List.getElem?_eq_none (by rw [List.length_take]; omega)] at hj
  cases hj
theorem oneR_zero {e : List Ex} {flat : Bool} {x : Ex} (h : oneE e flat x = 0) : nodeE e x = 0 := by
 unfold oneE at h
 split at h
 ·omega
 ·exact h
theorem shape_kids {x : Ex} (h : shapeB x = true) : (x.op = 7 ∨ x.op = 13 → x.kids.length = 1 + x.alts.length) ∧ (¬ (x.op = 7 ∨ x.op = 13) → x.alts.length = 0) ∧ (x.op = 5 → x.kids.length = x.binds.length + 1) := by
 unfold shapeB at h
 by_cases h7 : x.op = 7 ∨ x.op = 13
 ·rw [if_pos h7] at h
  simp only [Bool.and_eq_true, altsB, decide_eq_true_eq] at h
  exact ⟨fun _ => h.1.1.1.2, fun h8 => absurd h7 h8, fun h5 => by omega⟩
 ·rw [if_neg h7] at h
  split at h
  ·cases h
  ·rename_i k b u hs
   simp only [Bool.and_eq_true, decide_eq_true_eq] at h
   refine ⟨fun h8 => absurd h8 h7, fun _ => h.1.2, fun h5 => ?_⟩
   unfold sh at hs
   simp [h5] at hs
   omega
theorem free_ok {e : List Ex} {P : List Int} {ps : List Int} (ht : IsTree e) (hP : Parents e P) (h0 : 0 < e.length) (h : ∀ (j : Nat) (x : Ex), e[j]? = some x → x.op = 0 → bnd e P x.n j < 0 → x.n ∈ ps) : ∀ n ∈ fv (grow e (e.length - 1)) [], n ∈ ps := fun n hn => by
 obtain ⟨j, x, sc, h1, h2, h3, h4, h5⟩ := (mem_fv ht.down (e.length - 1) (by omega) []).1 hn
 subst h3
 refine h j x h1 h2 ((bnd_neg ht hP x.n (List.getElem?_eq_some_iff.1 h1).1).2 fun sc2 hu => ?_)
 rw [Under.uniq ht hu h4]
 simpa using h5
theorem free_bad {e : List Ex} {P : List Int} (ht : IsTree e) (hP : Parents e P) (h0 : 0 < e.length) {j : Nat} {x : Ex} (hx : e[j]? = some x) (hop : x.op = 0) (hb : bnd e P x.n j < 0) : x.n ∈ fv (grow e (e.length - 1)) [] := by
 have hj := (List.getElem?_eq_some_iff.1 hx).1
 obtain ⟨sc, hu⟩ := ht.root hj
 exact (mem_fv ht.down (e.length - 1) (by omega) []).2 ⟨j, x, sc, hx, hop, rfl, hu, by simpa using (bnd_neg ht hP x.n hj).1 hb sc hu⟩
theorem treeE_tree {e : List Ex} (h : e.length ≤ 4096) (hg : TreeP e) : treeE e = if 400 < high (grow e (e.length - 1)) then 2 else 0 := treeE_ok h hg.1 hg.2.1 hg.2.2
theorem binders_small {l : List Ex} (h : ∀ x ∈ l, Lim x) : (l.flatMap bindersX).length ≤ l.length * 65552 := by
 induction l with
 | nil => simp
 | cons x r ih =>
  have h1 := h x (.head _)
  have h2 := ih fun y hy => h y (.tail _ hy)
  have h3 := flat_len h1.ab
  have h4 := h1.a
  have h5 := h1.b
  have h6 : (bindersX x).length ≤ 65552 := by
   unfold bindersX
   have h8 : (if x.op = 2 ∨ x.op = 4 ∨ x.op = 5 then x.binds else []).length ≤ x.binds.length := by split <;> simp
   rw [List.length_append]
   omega
  rw [List.flatMap_cons, List.length_append, List.length_cons]
  omega
end Go.Co
namespace Go.Proofs.YtkpjndhgicbjjaaDoor.co
open Go.RowKit Go.Eng Go.Co
set_option maxRecDepth 100000
theorem BodyFault_calls (es : List (Ex × ExY)) (q qp : Option Addr) (cap cp : Nat) (ps : List Int) (flat : Bool) (w : World) (he : Arr exR w (low w) es q) (hlen : es.length ≤ 9223372036854775807) (hp : IntsO w (low w) ps qp) (hpl : ps.length ≤ 4096) :
  Calls Tryd.prog 18 [.slice q es.length cap, .slice qp ps.length cp, .bool flat].toArray w fun e w' => e = .returned (.int .i64 (bodyE (es.map Prod.fst) ps flat)) ∧ Ext w w' := by
 obtain ⟨e, hee⟩ : ∃ e, es.map Prod.fst = e := ⟨_, rfl⟩
 have hel : e.length = es.length := by rw [← hee, List.length_map]
 rw [hee]
 refine enter Tryd.func18 rfl Tryd.ntmps18 rfl (Cls.start w) ?_
 (simp only [argEnv, Nat.zero_add, Nat.reduceAdd])
 apply W.sr
 apply oas; rfl; rfl
 apply OL.nx
 apply W.seq
 apply W.sr
 apply omv; rfl; rfl
 apply oop; rfl; apply Pev.len_slice; rfl; exact yes; rfl
 apply obn; rfl; rfl; rfl; apply Bin.gtr
 apply OL.nx
 (refine W.cnd (fun hbig => ?_) (fun hbig => ?_)) <;> (try (exfalso; first | omega | exact hbig trivial | contradiction))
 ·apply W.sr
  apply oas; rfl; rfl
  apply OL.nx
  refine W.rt ?_
  ((with_reducible apply At.fin1); rfl; rfl; intro w' hw')
  have h2 := treeE_big (e := e) (by omega)
  exact ⟨by rw [bodyE_tree (by rw [h2]; simp), h2], by (exact hw'.fr)⟩
 have hl4 : es.length ≤ 4096 := by omega
 apply W.sk
 apply W.sr
 apply omv; rfl; rfl
 refine OL.callE (α := Option Addr × Nat × Nat × Bool × World) (fun z => .tuple #[.slice z.1 z.2.1 z.2.2.1, .bool z.2.2.2.1]) (fun z => (z.2.2.2.1 = true ↔ TreeP e) ∧ (z.2.2.2.1 = true → z.2.1 = es.length ∧ ∃ P, Parents e P ∧ IntsO z.2.2.2.2 (low z.2.2.2.2) P z.1) ∧ w.heap.size ≤ z.2.2.2.2.heap.size) (fun z => Cls [] [z.2.2.2.2, w]) rfl rfl (by exact Args.au) (fun w2 hw2 => (parentsOf_calls es q cap w2 (he.at hw2 (by exact mau) (fun k hk => by exact NotOwned.au)) hl4).mono (fun e1 w3 ⟨q', n, c, b, h1, h2, h3, h4⟩ => ⟨(q', n, c, b, w3), h1, ⟨by rw [hee] at h3; exact h3, by rw [hee] at h4; exact h4, Nat.le_trans (hw2.kp w (by exact mau)).size h2.size⟩, (hw2.ext h2).note⟩)) ?_
 rintro ⟨qr, n, cr, b, w1⟩ ⟨hbt, hbP, hsz1⟩
 simp only at hbt hbP hsz1 ⊢
 apply omv; rfl; rfl
 apply oex; rfl; rfl; rfl
 apply oex; rfl; rfl; rfl
 apply oas; rfl; rfl
 apply oas; rfl; rfl
 apply OL.nx
 apply W.seq
 apply W.sr
 apply omv; rfl; rfl
 apply oop; rfl; apply Pev.not; rfl; exact yes
 apply OL.nx
 (refine W.cnd (fun hnt => ?_) (fun hnt => ?_)) <;> (try (exfalso; first | omega | exact hnt trivial | contradiction))
 ·have hnot : ¬ TreeP e := fun h => by have := hbt.2 h; simp_all
  have h3 : treeE e = 3 := treeE_bad (by omega) hnot
  apply W.sr
  apply oas; rfl; rfl
  apply OL.nx
  refine W.rt ?_
  ((with_reducible apply At.fin1); rfl; rfl; intro w' hw')
  exact ⟨by rw [bodyE_tree (by rw [h3]; simp), h3], by (exact hw'.fr)⟩
 have hb1 : b = true := by simpa using hnt
 have hT : TreeP e := hbt.1 hb1
 obtain ⟨rfl, P, hP, hPI⟩ := hbP hb1
 have ht := hT.tree
 have hpos := hT.1
 have hte := treeE_tree (by omega) hT
 rw [← depths_high ht hP hpos] at hte
 apply W.sk
 apply W.seq
 apply W.sr
 apply omv; rfl; rfl
 apply omv; rfl; rfl
 (((first | (with_reducible apply OL.op) | (with_reducible apply QL.op)); (exact Guard.au); rfl; rfl); (refine Pev.call (v := .int .i64 (depths e P e.length : Int)) rfl (by exact Args.au) (fun _ w2 hw2 => ?_)))
 ·have h5 := Depth_calls e q qr cap cr P w2 ht hP (by omega) (hPI.at hw2 (by exact mau) (fun k hk => by exact NotOwned.au))
  rw [hel] at h5 ⊢
  exact h5.mono (fun e w3 h => ⟨h.1, hw2.ext h.2⟩)
 apply obn; rfl; rfl; rfl; apply Bin.gtr
 apply OL.nx
 (refine W.cnd (fun hdeep => ?_) (fun hdeep => ?_)) <;> (try (exfalso; first | omega | exact hdeep trivial | contradiction))
 ·rw [if_pos (by omega)] at hte
  apply W.sr
  apply oas; rfl; rfl
  apply OL.nx
  refine W.rt ?_
  ((with_reducible apply At.fin1); rfl; rfl; intro w' hw')
  exact ⟨by rw [bodyE_tree (by rw [hte]; simp), hte], by (exact hw'.fr)⟩
 rw [if_neg (by omega)] at hte
 have hkd : ∀ p ∈ es, ∀ k ∈ p.1.kids, 0 ≤ k ∧ k < (es.length : Int) := fun p hp k hk => by
  obtain ⟨i, hi⟩ := List.getElem?_of_mem hp
  have hx : e[i]? = some p.1 := by rw [← hee, List.getElem?_map, hi]; rfl
  have := ht.down i p.1 hx k hk
  have := (List.getElem?_eq_some_iff.1 hx).1
  omega
 apply W.sk
 apply W.seq
 apply W.sr
 apply omv; rfl; rfl
 apply oop; rfl; apply Pev.len_slice; rfl; exact yes; rfl
 apply omv; rfl; rfl
 apply OL.nx
 apply W.block
 refine W.loop (G := Nat) (fun i => i ≤ es.length ∧ firstE (oneE e flat) (e.drop i) = firstE (oneE e flat) e) (fun i => es.length - i)
  (fun i => [(0, true, .slice q es.length cap), (1, true, .slice qp ps.length cp), (2, true, .bool flat), (7, true, .slice qr es.length cr), (33, true, .slice q es.length cap), (34, true, .int .i64 (es.length : Int)), (35, true, .int .i64 (i : Int))])
  (fun i => Cls [] [w1, w]) 0 ⟨by omega, rfl⟩ (by exact Sub.au) (fun w' hw' => hw') ?_
 rintro i ⟨hi, hrest⟩
 apply W.sr
 apply obn; rfl; rfl; rfl; apply Bin.lss
 apply OL.nx
 apply W.seq
 (refine W.cnd (fun hlt => ?_) (fun hlt => ?_)) <;> (try (exfalso; first | omega | exact hlt trivial | contradiction))
 ·have hil : i < es.length := by omega
  obtain ⟨a, p, rfl, hab, hpi, hcell, hok⟩ := he.get hil
  have hab : a.block < w.heap.size := hab
  have hcell : CellsAt w (a.add (i * 5)) [.int .i64 p.1.op, .int .i64 p.1.n, .slice p.2.b.1 p.1.binds.length p.2.b.2, .slice p.2.k.1 p.1.kids.length p.2.k.2, .slice p.2.a.1 p.1.alts.length p.2.a.2] := hcell
  have hx : e[i]? = some p.1 := by rw [← hee, List.getElem?_map, hpi]; rfl
  rw [firstE_drop hx] at hrest
  have hone : oneE e flat p.1 = oneR e flat p.1 := (oneR_eq e flat p.1).symm
  apply W.sk
  apply W.sb
  apply W.sr
  apply oop; rfl; apply Pev.idx; rfl; exact yes; rfl; exact yes; rfl; rfl; intro hcond; omega
  apply oop; rfl; apply Pev.load_keptA; rfl; exact yes; exact .tail _ (.head _); rfl; intro hcond; assumption; rfl; intro hcond; (rw [add_block]; assumption); intro hcond; exact NotOwned.au
  apply OL.alloc; rfl; rfl; exact CellsL.agg; (intro bk hbk; simp only [AllLe, and_true] at hbk)
  apply OL.storeB; rfl; rfl; exact CellsL.agg; rfl; rfl; rfl; exact Swap.au; exact Put.au
  apply OL.nx
  apply W.seq
  apply W.sr
  apply omv; rfl; rfl
  apply oop; rfl; apply Pev.load_blkA; rfl; exact yes; exact .head _; rfl; exact Take.au
  apply omv; rfl; rfl
  (((first | (with_reducible apply OL.op) | (with_reducible apply QL.op)); (exact Guard.au); rfl; rfl); (exact Pev.call rfl (by exact Args.au) (fun _ w2 hw2 => (goodForm_calls es (some a) cap p.1 p.2 flat w2 (hok.at hw2 (by exact mau) (fun k hk => by exact NotOwned.au))).mono (fun e w3 h => ⟨h.1, hw2.ext h.2⟩))))
  apply oop; rfl; apply Pev.not; rfl; exact yes
  apply OL.nx
  (refine W.cnd (fun hgf => ?_) (fun hgf => ?_)) <;> (try (exfalso; first | omega | exact hgf trivial | contradiction))
  ·have h3 : oneE e flat p.1 = 3 := by rw [hone]; unfold oneR; rw [if_pos (by cases h1 : flatBad flat p.1.op <;> cases h2 : formR p.1 <;> simp_all)]
   rw [h3] at hrest
   apply W.sr
   apply oas; rfl; rfl
   apply OL.nx
   refine W.rt ?_
   ((with_reducible apply At.fin1); rfl; rfl; intro w' hw')
   exact ⟨by rw [bodyE_one hte (by rw [← hrest]; simp), ← hrest]; simp, by (exact hw'.fr)⟩
  have hgf' : (!flatBad flat p.1.op && formR p.1) = true := by cases h1 : flatBad flat p.1.op <;> cases h2 : formR p.1 <;> simp_all
  have hsh : shapeB p.1 = true := by rw [← formR_eq]; exact (Bool.and_eq_true _ _ ▸ hgf' : _ ∧ _).2
  have hskk := shape_kids hsh
  apply W.sk
  apply W.seq
  apply W.sr
  apply oop; rfl; apply Pev.load_blkA; rfl; exact yes; exact .head _; rfl; exact Take.au
  (((first | (with_reducible apply OL.op) | (with_reducible apply QL.op)); (exact Guard.au); rfl; rfl); (exact Pev.call rfl (by exact Args.au) (fun _ w2 hw2 => (numbersError_calls p.1 p.2 w2 (hok.at hw2 (by exact mau) (fun k hk => by exact NotOwned.au))).mono (fun e w3 h => ⟨h.1, hw2.ext h.2⟩))))
  apply oas; rfl; rfl
  apply OL.nsr
  apply omv; rfl; rfl
  apply obn; rfl; rfl; rfl; apply Bin.neq
  apply OL.nx
  (refine W.cnd (fun hne => ?_) (fun hne => ?_)) <;> (try (exfalso; first | omega | exact hne trivial | contradiction))
  ·have h3 : oneE e flat p.1 = numE p.1 := by rw [hone]; unfold oneR; rw [if_neg (by rw [hgf']; simp), if_pos (by simpa using hne)]
   rw [h3, if_neg (by simpa using hne)] at hrest
   apply W.sr
   apply omv; rfl; rfl
   apply oas; rfl; rfl
   apply OL.nx
   refine W.rt ?_
   ((with_reducible apply At.fin1); rfl; rfl; intro w' hw')
   exact ⟨by rw [bodyE_one hte (by rw [← hrest]; simpa using hne), ← hrest], by (exact hw'.fr)⟩
  apply W.sk
  apply W.sr
  apply omv; rfl; rfl
  apply oop; rfl; apply Pev.load_blkA; rfl; exact yes; exact .head _; rfl; exact Take.au
  (((first | (with_reducible apply OL.op) | (with_reducible apply QL.op)); (exact Guard.au); rfl; rfl); (exact Pev.call rfl (by exact Args.au) (fun _ w2 hw2 => (goodKids_calls es (some a) cap p.1 p.2 w2 (hok.at hw2 (by exact mau) (fun k hk => by exact NotOwned.au)) (he.at hw2 (by exact mau) (fun k hk => by exact NotOwned.au)) hl4 (hkd p (List.mem_of_getElem? hpi)) hskk.2.2).mono (fun e w3 h => ⟨h.1, hw2.ext h.2⟩))))
  rw [hee]
  apply oop; rfl; apply Pev.not; rfl; exact yes
  apply OL.nx
  (refine W.cnd (fun hgk => ?_) (fun hgk => ?_)) <;> (try (exfalso; first | omega | exact hgk trivial | contradiction))
  ·have h3 : oneE e flat p.1 = 3 := by rw [hone]; unfold oneR; rw [if_neg (by rw [hgf']; simp), if_neg (by simpa using hne), if_pos (by simpa using hgk)]
   rw [h3] at hrest
   apply W.sr
   apply oas; rfl; rfl
   apply OL.nx
   refine W.rt ?_
   ((with_reducible apply At.fin1); rfl; rfl; intro w' hw')
   exact ⟨by rw [bodyE_one hte (by rw [← hrest]; simp), ← hrest]; simp, by (exact hw'.fr)⟩
  have h3 : oneE e flat p.1 = 0 := by rw [hone]; unfold oneR; rw [if_neg (by rw [hgf']; simp), if_neg (by simpa using hne), if_neg (by simpa using hgk)]
  rw [h3, if_pos rfl] at hrest
  apply W.skip
  with_reducible apply At.in_normal
  with_reducible apply At.next
  apply W.reg
  apply obn; rfl; rfl; rfl; apply Bin.add_in; omega
  apply omv; rfl; rfl
  apply OL.nil
  exact At.again (i + 1) ⟨by omega, hrest⟩ (by omega) (by exact Sub.au) (fun w' hw' => hw'.thin (by exact Thin.au))
 obtain rfl : i = es.length := by omega
 rw [← hel, List.drop_length] at hrest
 have hall : firstE (oneE e flat) e = 0 := hrest.symm
 have hzero : ∀ x ∈ e, nodeE e x = 0 ∧ x.kids.length ≤ 4096 := fun x hx => by
  obtain ⟨i, hi⟩ := List.getElem?_of_mem hx
  have h2 := kids_len ht hi
  exact ⟨oneR_zero (firstE_zero.1 hall x hx), by omega⟩
 have hlim : ∀ x ∈ e, Lim x := fun x hx => by
  obtain ⟨h1, h2⟩ := hzero x hx
  obtain ⟨h3, h4⟩ := nodeE_zero h1
  exact lim_of h3 h4 h2
 have hmem : ∀ p ∈ es, p.1 ∈ e := fun p hp => by rw [← hee]; exact List.mem_map_of_mem hp
 have hskk : ∀ p ∈ es, shapeB p.1 = true := fun p hp => (nodeE_zero (hzero p.1 (hmem p hp)).1).1
 clear hrest
 refine W.xt ?_
 with_reducible apply At.next
 apply W.sr
 apply omv; rfl; rfl
 refine OL.cls (C' := Cls [row w1.heap.size (fun _ => False) none 0 0 3 1 []] [w1, w]) (fun w' hw' => hw'.row_nil w1.heap.size 3 1) ?_
 skip
 (apply OL.appendK (news := ints ps)); rfl; rfl; rfl; rfl; (exact Hole.au); (exact fun w2 hw2 => (hp.at hw2 (.tail _ (.head _)) (fun k hk => by exact NotOwned.au)).slAt); (rw [ints_length, Nat.mul_one]); (exact ints_oneL _); (exact ⟨w1, .head _, Nat.le_refl _⟩); (omega); (intro O1 q1 c1)
 simp only [Nat.zero_add, List.nil_append]
 obtain ⟨all, hal⟩ : ∃ f : Nat → List Int, f = fun i => ps ++ (e.take i).flatMap bindersX := ⟨_, rfl⟩
 have hbnd : ∀ i, (all i).length ≤ 4096 + 4096 * 65552 := fun i => by
  have h1 := binders_small (l := e.take i) fun x hx => hlim x (List.mem_of_mem_take hx)
  rw [hal]
  simp only [List.length_append]
  have h2 : (e.take i).length ≤ 4096 := by rw [List.length_take]; omega
  have h3 : (e.take i).length * 65552 ≤ 4096 * 65552 := Nat.mul_le_mul_right _ h2
  omega
 have hall0 : all 0 = ps := by rw [hal]; simp
 have hallE : all es.length = ps ++ e.flatMap bindersX := by rw [hal]; simp only; rw [← hel, List.take_length]
 have hsnoc : ∀ {i : Nat} {x : Ex}, e[i]? = some x → all (i + 1) = all i ++ bindersX x := fun {i x} hx => by
  rw [hal]
  simp only
  rw [List.take_add_one, hx]
  simp
 clear hal
 apply oas; rfl; rfl
 apply OL.nx
 apply W.seq
 apply W.sr
 apply omv; rfl; rfl
 apply oop; rfl; apply Pev.len_slice; rfl; exact yes; rfl
 apply omv; rfl; rfl
 apply OL.nx
 apply W.block
 refine W.loop (G := Nat × GR) (fun g => g.1 ≤ es.length) (fun g => es.length - g.1)
  (fun g => [(0, true, .slice q es.length cap), (1, true, .slice qp ps.length cp), (7, true, .slice qr es.length cr), (12, true, .slice g.2.q (all g.1).length g.2.c), (56, true, .slice q es.length cap), (57, true, .int .i64 (es.length : Int)), (58, true, .int .i64 (g.1 : Int))])
  (fun g => Cls [row w1.heap.size g.2.O g.2.q (all g.1).length g.2.c 3 1 (ints (all g.1))] [w1, w]) (0, ⟨O1, q1, c1⟩) (by simp) (by rw [hall0]; exact Sub.au) (fun w' hw' => by rw [hall0]; exact hw') ?_
 rintro ⟨i, ⟨O2, q2, c2⟩⟩ hi2
 simp only at hi2 ⊢
 apply W.sr
 apply obn; rfl; rfl; rfl; apply Bin.lss
 apply OL.nx
 apply W.seq
 (refine W.cnd (fun hlt2 => ?_) (fun hlt2 => ?_)) <;> (try (exfalso; first | omega | exact hlt2 trivial | contradiction))
 ·have hil : i < es.length := by omega
  obtain ⟨a, p, hqa, hab, hpi, hcell, hok⟩ := he.get hil
  have hab : a.block < w.heap.size := hab
  have hcell : CellsAt w (a.add (i * 5)) [.int .i64 p.1.op, .int .i64 p.1.n, .slice p.2.b.1 p.1.binds.length p.2.b.2, .slice p.2.k.1 p.1.kids.length p.2.k.2, .slice p.2.a.1 p.1.alts.length p.2.a.2] := hcell
  have hx : e[i]? = some p.1 := by rw [← hee, List.getElem?_map, hpi]; rfl
  have hL := hlim p.1 (List.mem_of_getElem? hx)
  have hb1 := hbnd i
  have hb2 := hbnd (i + 1)
  rw [hsnoc hx, List.length_append] at hb2
  rw [hqa]
  apply W.sk
  apply W.sb
  apply W.sr
  apply oop; rfl; apply Pev.idx; rfl; exact yes; rfl; exact yes; rfl; rfl; intro hcond; omega
  apply oop; rfl; apply Pev.load_keptA; rfl; exact yes; exact .tail _ (.head _); rfl; intro hcond; assumption; rfl; intro hcond; (rw [add_block]; assumption); intro hcond; exact NotOwned.au
  apply OL.alloc; rfl; rfl; exact CellsL.agg; (intro bk hbk; simp only [AllLe, and_true] at hbk)
  apply OL.storeB; rfl; rfl; exact CellsL.agg; rfl; rfl; rfl; exact Swap.au; exact Put.au
  apply OL.nx
  apply W.reg
  apply omv; rfl; rfl
  apply oop; rfl; apply Pev.load_blkA; rfl; exact yes; exact .head _; rfl; exact Take.au
  refine OL.callE (α := World × Nat × Option Addr × Nat) (fun x => .slice x.2.2.1 (bindersX p.1).length x.2.2.2) (fun x => w1.heap.size ≤ x.1.heap.size ∧ (∀ k, w1.heap.size ≤ k → O2 k → k < x.2.1) ∧ bk < x.2.1 ∧ w1.heap.size ≤ x.2.1 ∧ IntsO x.1 (fun k => x.2.1 ≤ k ∧ k < x.1.heap.size) (bindersX p.1) x.2.2.1) (fun x => Cls [blk bk 43 [.int .i64 p.1.op, .int .i64 p.1.n, .slice p.2.b.1 p.1.binds.length p.2.b.2, .slice p.2.k.1 p.1.kids.length p.2.k.2, .slice p.2.a.1 p.1.alts.length p.2.a.2], row w1.heap.size O2 q2 (all i).length c2 3 1 (ints (all i))] [x.1, w1, w]) rfl rfl (by exact Args.au) (fun w2 hw2 => ?_) ?_
  ·have hlt3 := hw2.lt _ (.head _) bk rfl
   have hrow : ∀ k, w1.heap.size ≤ k → O2 k → k < w2.heap.size := fun k h1 h2 => hw2.lt _ (.tail _ (.head _)) k ⟨h1, h2⟩
   have hkw := (hw2.kp w1 (by exact mau)).size
   refine (Binds_calls p.1 p.2 w2 (hok.at hw2 (by exact mau) (fun k hk => by exact NotOwned.au)) hL.b hL.a hL.ab).mono fun e1 w3 ⟨q3, c3, h1, h2, h3, h4⟩ => ?_
   exact ⟨(w3, w2.heap.size, q3, c3), h1, ⟨Nat.le_trans hkw h2.size, hrow, hlt3, hkw, h3⟩, (hw2.ext h2).note⟩
  rintro ⟨w3, lo, q3, c3⟩ ⟨hsz3, hrow, hblo, hwlo, hI3⟩
  simp only at hsz3 hrow hblo hwlo hI3 ⊢
  have hb3 := hsnoc hx
  generalize hbi : bindersX p.1 = bs at *
  (apply OL.appendK (news := ints bs)); rfl; rfl; rfl; rfl; (exact Hole.au); (exact fun w4 hw4 => (hI3.part hw4 (.head _) (fun k hk => NotOwned.blk (by omega) (NotOwned.any (fun hm => by have := hrow k hm.1 hm.2; omega) NotOwned.nil))).slAt); (rw [ints_length, Nat.mul_one]); (exact ints_oneL _); (exact ⟨w1, .tail _ (.head _), Nat.le_refl _⟩); (omega); (intro O4 q4 c4)
  rw [← ints_append, ← List.length_append, ← hb3]
  apply oas; rfl; rfl
  apply OL.nil
  with_reducible apply At.in_normal
  with_reducible apply At.next
  apply W.reg
  apply obn; rfl; rfl; rfl; apply Bin.add_in; omega
  apply omv; rfl; rfl
  apply OL.nil
  refine At.again (i + 1, ⟨O4, q4, c4⟩) (by simp only; omega) (by simp only; omega) (by exact Sub.au) (fun w' hw' => (hw'.forget (by simp)).thin (by exact Thin.au))
 obtain rfl : i = es.length := by omega
 have hb1 := hbnd es.length
 rw [hallE] at hb1 ⊢
 clear hbnd hsnoc hall0
 refine W.exx (X := { x : World // IntsO x (low x) (ps ++ e.flatMap bindersX) q2 ∧ w1.heap.size ≤ x.heap.size ∧ (ps ++ e.flatMap bindersX).length ≤ c2 }) (C' := fun x => Cls [] [x.1, w1, w]) (fun w2 hw2 => ⟨⟨w2, IntsO.mono (fun k hk => hk.2) (rowInts hw2 (.head _) (Nat.le_refl _)), (hw2.kp w1 (by exact mau)).size, row_cap (hw2.item (.head _))⟩, (hw2.thin (Thin.any (fun k hk => ⟨hk.1, Nat.le_trans hsz1 hk.1, trivial⟩) Thin.nil)).note⟩) ?_
 rintro ⟨w5, hI5, hsz5, hcap5⟩
 simp only
 have hbt2 := bodyE_twice (ps := ps) hte hall
 have hbf2 := fun n => bodyE_free (ps := ps) (n := n) hte hall
 have hbo2 := bodyE_ok (ps := ps) hte hall
 generalize ps ++ e.flatMap bindersX = L at *
 refine W.xt ?_
 with_reducible apply At.next
 apply W.seq
 apply W.sr
 apply omv; rfl; rfl
 apply oop; rfl; apply Pev.len_slice; rfl; exact yes; rfl
 apply omv; rfl; rfl
 apply OL.nx
 apply W.block
 refine W.loop (G := Nat) (fun i => i ≤ L.length ∧ (L.take i).Nodup) (fun i => L.length - i)
  (fun i => [(0, true, .slice q es.length cap), (1, true, .slice qp ps.length cp), (7, true, .slice qr es.length cr), (12, true, .slice q2 L.length c2), (67, true, .slice q2 L.length c2), (68, true, .int .i64 (L.length : Int)), (69, true, .int .i64 (i : Int))])
  (fun _ => Cls [] [w5, w1, w]) 0 ⟨by omega, by simp⟩ (by exact Sub.au) (fun w' hw' => hw') ?_
 rintro i ⟨hi, hnd⟩
 apply W.sr
 apply obn; rfl; rfl; rfl; apply Bin.lss
 apply OL.nx
 apply W.seq
 (refine W.cnd (fun hlt3 => ?_) (fun hlt3 => ?_)) <;> (try (exfalso; first | omega | exact hlt3 trivial | contradiction))
 ·have hil : i < L.length := by omega
  obtain ⟨a, v, rfl, hab, hv, hcell⟩ := hI5.get hil
  have hab : a.block < w5.heap.size := hab
  have hlT : (L.take i).length = i := by rw [List.length_take]; omega
  have hsplit : L = L.take i ++ v :: L.drop (i + 1) := by
   obtain ⟨h1, rfl⟩ := List.getElem?_eq_some_iff.1 hv
   rw [← List.drop_eq_getElem_cons h1, List.take_append_drop]
  have htake : L.take (i + 1) = L.take i ++ [v] := by rw [List.take_add_one, hv]; rfl
  apply W.sk
  apply W.sb
  apply W.sr
  apply omv; rfl; rfl
  apply oop; rfl; apply Pev.idx; rfl; exact yes; rfl; exact yes; rfl; rfl; intro hcond; omega
  apply oop; rfl; apply Pev.load_kept; rfl; exact yes; exact .head _; rfl; intro hcond; assumption; intro hcond; (rw [add_block]; assumption); intro hcond; exact NotOwned.au
  apply oas; rfl; rfl
  apply oas; rfl; rfl
  apply OL.nsr
  apply omv; rfl; rfl
  apply omv; rfl; rfl
  apply oop; rfl; apply Pev.slice_hi; rfl; exact yes; rfl; exact yes; rfl; rfl; intro hcond; omega
  apply omv; rfl; rfl
  (((first | (with_reducible apply OL.op) | (with_reducible apply QL.op)); (exact Guard.au); rfl; rfl); (refine Pev.call (v := .bool (decide (v ∈ L.take i))) rfl (by exact Args.au) (fun _ w2 hw2 => ?_)))
  ·have h5 := In_calls (some a) c2 (L.take i) v w2 (by omega) ((hI5.take i).at hw2 (by exact mau) (fun k hk => by exact NotOwned.au))
   rw [hlT] at h5
   exact h5.mono (fun e w3 h => ⟨h.1, hw2.ext h.2⟩)
  apply OL.nx
  (refine W.cnd (fun hin => ?_) (fun hin => ?_)) <;> (try (exfalso; first | omega | exact hin trivial | contradiction))
  ·apply W.sr
   apply oas; rfl; rfl
   apply OL.nx
   refine W.rt ?_
   ((with_reducible apply At.fin1); rfl; rfl; intro w' hw')
   have hnn : ¬ L.Nodup := by
    rw [hsplit]
    exact not_nodup hin
   exact ⟨by rw [hbt2 hnn], by (exact hw'.fr)⟩
  apply W.skip
  with_reducible apply At.in_normal
  with_reducible apply At.next
  apply W.reg
  apply obn; rfl; rfl; rfl; apply Bin.add_in; omega
  apply omv; rfl; rfl
  apply OL.nil
  exact At.again (i + 1) ⟨by omega, by rw [htake]; exact nodup_snoc hnd hin⟩ (by omega) (by exact Sub.au) (fun w' hw' => hw')
 obtain rfl : i = L.length := by omega
 rw [List.take_length] at hnd
 refine W.xt ?_
 with_reducible apply At.next
 apply W.seq
 apply W.sr
 apply omv; rfl; rfl
 apply oop; rfl; apply Pev.len_slice; rfl; exact yes; rfl
 apply omv; rfl; rfl
 apply OL.nx
 apply W.block
 refine W.loop (G := Nat) (fun i => i ≤ es.length ∧ ∀ (j : Nat) (x : Ex), j < i → e[j]? = some x → x.op = 0 → bnd e P x.n j < 0 → x.n ∈ ps) (fun i => es.length - i)
  (fun i => [(0, true, .slice q es.length cap), (1, true, .slice qp ps.length cp), (7, true, .slice qr es.length cr), (80, true, .slice q es.length cap), (81, true, .int .i64 (es.length : Int)), (82, true, .int .i64 (i : Int))])
  (fun _ => Cls [] [w1, w]) 0 ⟨by omega, fun j x hj => by omega⟩ (by exact Sub.au) (fun w' hw' => hw'.forget (by simp)) ?_
 rintro i ⟨hi, hfr⟩
 apply W.sr
 apply obn; rfl; rfl; rfl; apply Bin.lss
 apply OL.nx
 apply W.seq
 (refine W.cnd (fun hlt4 => ?_) (fun hlt4 => ?_)) <;> (try (exfalso; first | omega | exact hlt4 trivial | contradiction))
 ·have hil : i < es.length := by omega
  obtain ⟨a, p, hqa, hab, hpi, hcell, hok⟩ := he.get hil
  have hab : a.block < w.heap.size := hab
  have hcell : CellsAt w (a.add (i * 5)) [.int .i64 p.1.op, .int .i64 p.1.n, .slice p.2.b.1 p.1.binds.length p.2.b.2, .slice p.2.k.1 p.1.kids.length p.2.k.2, .slice p.2.a.1 p.1.alts.length p.2.a.2] := hcell
  have hx : e[i]? = some p.1 := by rw [← hee, List.getElem?_map, hpi]; rfl
  rw [hqa]
  apply W.sk
  apply W.sb
  apply W.sr
  apply omv; rfl; rfl
  apply oop; rfl; apply Pev.idx; rfl; exact yes; rfl; exact yes; rfl; rfl; intro hcond; omega
  apply oop; rfl; apply Pev.load_keptA; rfl; exact yes; exact .tail _ (.head _); rfl; intro hcond; assumption; rfl; intro hcond; (rw [add_block]; assumption); intro hcond; exact NotOwned.au
  apply OL.alloc; rfl; rfl; exact CellsL.agg; (intro bk hbk; simp only [AllLe, and_true] at hbk)
  apply oas; rfl; rfl
  apply OL.storeB; rfl; rfl; exact CellsL.agg; rfl; rfl; rfl; exact Swap.au; exact Put.au
  apply OL.nsr
  apply ofa; rfl; rfl; rfl
  apply old; rfl; rfl; exact .head _; rfl; rfl
  apply obn; rfl; rfl; rfl; apply Bin.eql
  apply omv; rfl; rfl
  apply oy; rfl; rfl; rfl; apply Pev.move; rfl; exact yes
  apply oy; rfl; rfl; rfl; apply Pev.move; rfl; exact yes
  apply oy; rfl; rfl; rfl; apply Pev.move; rfl; exact yes
  (((first | (with_reducible apply OL.op) | (with_reducible apply QL.op)); (exact Guard.au); rfl; rfl); (exact Pev.call (v := .int .i64 (bnd e P p.1.n i)) rfl (by exact Args.au) (fun _ w2 hw2 => by
   have h5 := binder_calls es (some a) qr cap cr P i p.1 w2 (hqa ▸ he.at hw2 (by exact mau) (fun k hk => by exact NotOwned.au)) hl4 (by rw [hee]; exact ht) (by rw [hee]; exact hP) (hPI.at hw2 (by exact mau) (fun k hk => by exact NotOwned.au)) (by rw [hee]; exact hx) (fun p hp => (shape_kids (hskk p hp)).1) (fun p hp => (shape_kids (hskk p hp)).2.1)
   rw [hee] at h5
   exact h5.mono (fun e w3 h => ⟨h.1, hw2.ext h.2⟩))))
  apply oy; rfl; rfl; rfl; apply Pev.bin; rfl; exact fun h => h; rfl; exact yes; intro hcond; apply Bin.lss
  apply oop; rfl; apply Pev.pick_and; rfl; exact yes; rfl; exact fun h => h
  apply omv; rfl; rfl
  apply oy; rfl; rfl; rfl; apply Pev.move; rfl; exact yes
  apply oy; rfl; rfl; rfl; apply Pev.fld; rfl; exact yes; rfl
  apply oy; rfl; rfl; rfl; apply Pev.load_blk; rfl; exact fun h => h; exact .head _; rfl; rfl
  (((first | (with_reducible apply OL.op) | (with_reducible apply QL.op)); (exact Guard.au); rfl; rfl); (exact Pev.call rfl (by exact Args.au) (fun _ w2 hw2 => (In_calls qp cp ps p.1.n w2 (by omega) (hp.at hw2 (by exact mau) (fun k hk => by exact NotOwned.au))).mono (fun e w3 h => ⟨h.1, hw2.ext h.2⟩))))
  apply oy; rfl; rfl; rfl; apply Pev.not; rfl; exact fun h => h
  apply oop; rfl; apply Pev.pick_and; rfl; exact yes; rfl; exact fun h => h
  apply OL.nx
  refine W.cond rfl (fun hb => ?_) (fun hb => ?_)
  ·simp only [Bool.and_eq_true, decide_eq_true_eq, Bool.not_eq_true', decide_eq_false_iff_not] at hb
   apply W.sr
   apply oas; rfl; rfl
   apply OL.nx
   refine W.rt ?_
   ((with_reducible apply At.fin1); rfl; rfl; intro w' hw')
   exact ⟨by rw [hbf2 p.1.n hnd (free_bad ht hP hpos hx hb.1.1 hb.1.2) hb.2], by (exact hw'.fr)⟩
  ·simp only [Bool.and_eq_false_iff, decide_eq_false_iff_not, Bool.not_eq_false', decide_eq_true_eq] at hb
   apply W.skip
   with_reducible apply At.in_normal
   with_reducible apply At.next
   apply W.reg
   apply obn; rfl; rfl; rfl; apply Bin.add_in; omega
   apply omv; rfl; rfl
   apply OL.nil
   refine At.again (i + 1) ⟨by omega, fun j x hj hxj hop hbn => ?_⟩ (by omega) (by exact Sub.au) (fun w' hw' => hw'.thin (by exact Thin.au))
   by_cases ej : j = i
   ·subst ej
    rw [hx] at hxj
    obtain rfl := Option.some.inj hxj
    rcases hb with (hb | hb) | hb
    ·exact absurd hop hb
    ·omega
    ·exact hb
   ·exact hfr j x (by omega) hxj hop hbn
 ·obtain rfl : i = es.length := by omega
  refine W.xt ?_
  with_reducible apply At.next
  apply W.sr
  apply oas; rfl; rfl
  apply OL.nx
  apply W.ret
  ((with_reducible apply At.fin1); rfl; rfl; intro w' hw')
  exact ⟨by rw [hbo2 hnd (free_ok ht hP hpos fun j x hx => hfr j x (by have := (List.getElem?_eq_some_iff.1 hx).1; omega) hx)], by (exact hw'.fr)⟩
theorem Fault_calls (es : List (Ex × ExY)) (q : Option Addr) (cap : Nat) (w : World) (he : Arr exR w (low w) es q) (hlen : es.length ≤ 9223372036854775807) :
  Calls Tryd.prog 11 [.slice q es.length cap].toArray w fun e w' => e = .returned (.int .i64 (bodyE (es.map Prod.fst) [] false)) ∧ Ext w w' := by
 refine enter Tryd.func11 rfl Tryd.ntmps11 rfl (Cls.start w) ?_
 (simp only [argEnv, Nat.zero_add, Nat.reduceAdd])
 apply W.sr
 apply oas; rfl; rfl
 apply OL.nsr
 apply omv; rfl; rfl
 (((first | (with_reducible apply OL.op) | (with_reducible apply QL.op)); (exact Guard.au); rfl; rfl); (exact Pev.call rfl (by exact Args.au) (fun _ w2 hw2 => (BodyFault_calls es q none cap 0 [] false w2 (he.at hw2 (by exact mau) (fun k hk => by exact NotOwned.au)) hlen IntsO.nil (by simp)).mono (fun e w3 h => ⟨h.1, hw2.ext h.2⟩))))
 apply oas; rfl; rfl
 apply OL.nx
 apply W.ret
 ((with_reducible apply At.fin1); rfl; rfl; intro w' hw')
 exact ⟨rfl, by (exact hw'.fr)⟩
end Go.Proofs.YtkpjndhgicbjjaaDoor.co
