/- The walk of core's FreeOf: what the library's sort does to a row of ints. Conditions: none. -/
import Derived.Test.YtlboppiogeaicaaDoorCoI
import Derived.Test.YtlboppiogeaicaaDoorSrt
import Derived.Test.YtlboppiogeaicaaDoorSh
import Derived.Shelf.Sort.Plain
import Derived.Shelf.Slices.In.SortNone
namespace Go.Co
open Go.Eng Go.RowKit
set_option linter.unusedVariables false
set_option linter.unusedSimpArgs false
def isrt (l : List Int) : List Int := l.mergeSort fun x y => decide (x ≤ y)
theorem isrt_perm (l : List Int) : (isrt l).Perm l := List.mergeSort_perm l _
theorem isrt_len (l : List Int) : (isrt l).length = l.length := (isrt_perm l).length_eq
theorem isrt_mem {l : List Int} {n : Int} : n ∈ isrt l ↔ n ∈ l := (isrt_perm l).mem_iff
theorem isrt_nodup {l : List Int} (h : l.Nodup) : (isrt l).Nodup := (isrt_perm l).symm.nodup h
theorem isrt_sorted (l : List Int) : (isrt l).Pairwise (· ≤ ·) := by
  have := List.pairwise_mergeSort (le := fun x y : Int => decide (x ≤ y)) (fun a b c h1 h2 => by simp at *; omega) (fun a b => by simp; omega) l
  exact this.imp fun h => by simpa using h
/-- a list without repetitions whose members lie in another one is no longer -/
theorem nodup_le : ∀ {l m : List Int}, l.Nodup → (∀ x ∈ l, x ∈ m) → l.length ≤ m.length
  | [], _, _, _ => by simp
  | x :: r, m, hn, hs => by
    have hx := hs x (.head _)
    obtain ⟨m1, m2, rfl⟩ := List.append_of_mem hx
    rw [List.nodup_cons] at hn
    have := nodup_le (l := r) (m := m1 ++ m2) hn.2 (fun y hy => by
      have h1 := hs y (.tail _ hy)
      have h2 : y ≠ x := fun e => hn.1 (e ▸ hy)
      simp at h1 ⊢
      rcases h1 with h1 | h1 | h1
      · exact .inl h1
      · exact absurd h1 h2
      · exact .inr h1)
    simp at this ⊢
    omega
theorem nodup_inj {α : Type} {l : List α} (h : l.Nodup) {i j : Nat} {x : α} (hi : l[i]? = some x) (hj : l[j]? = some x) : i = j := by
  have hp := List.pairwise_iff_getElem.1 h
  obtain ⟨h1, h2⟩ := List.getElem?_eq_some_iff.1 hi
  obtain ⟨h3, h4⟩ := List.getElem?_eq_some_iff.1 hj
  rcases Nat.lt_trichotomy i j with h5 | h5 | h5
  · exact absurd (h2.trans h4.symm) (hp i j h1 h3 h5)
  · exact h5
  · exact absurd (h4.trans h2.symm) (hp j i h3 h1 h5)
/-- the entries of a set's map -/
theorem set_key {es : Array MapEntry} {clock : Nat} {l : List Int} (h : MapIs es clock (setM l)) {i : Nat} {e : MapEntry} (he : es.toList[i]? = some e) : ∃ n, l[i]? = some n ∧ e.key = .int .i64 n := by
  have h1 := congrArg (fun z => z[i]?) h.es_
  simp only [icells, setM, List.map_map, List.getElem?_map, he, Option.map_some] at h1
  cases hl : l[i]? with
  | none => simp [hl] at h1
  | some n =>
    rw [hl] at h1
    simp at h1
    exact ⟨n, rfl, h1.1⟩
theorem set_len {es : Array MapEntry} {clock : Nat} {l : List Int} (h : MapIs es clock (setM l)) : es.toList.length = l.length := by
  have h1 := congrArg List.length h.es_
  simpa [icells, setM] using h1
theorem left_mem {es : Array MapEntry} {seen : Array Nat} {e : MapEntry} : e ∈ (leftOf es seen).toList ↔ e ∈ es.toList ∧ ¬ e.born ∈ seen := by
  unfold leftOf
  simp
/-- what has been taken out so far -/
def Taken (es : Array MapEntry) (seen : Array Nat) (xs : List Int) : Prop := xs.Nodup ∧ ∀ n, n ∈ xs ↔ ∃ e ∈ es.toList, e.key = .int .i64 n ∧ e.born ∈ seen
theorem Taken.step {es : Array MapEntry} {clock : Nat} {l : List Int} {seen : Array Nat} {xs : List Int} (hm : MapIs es clock (setM l)) (hl : l.Nodup) (h : Taken es seen xs) {e : MapEntry} {n : Int} (he : e ∈ (leftOf es seen).toList) (hk : e.key = .int .i64 n) : Taken es (seen.push e.born) (xs ++ [n]) := by
  obtain ⟨he1, he2⟩ := left_mem.1 he
  refine ⟨nodup_snoc h.1 fun hin => ?_, fun k => ?_⟩
  · obtain ⟨e', he', hk', hb'⟩ := (h.2 n).1 hin
    obtain ⟨i, hi⟩ := List.getElem?_of_mem he1
    obtain ⟨j, hj⟩ := List.getElem?_of_mem he'
    obtain ⟨a, ha, hka⟩ := set_key hm hi
    obtain ⟨b, hb, hkb⟩ := set_key hm hj
    rw [hk] at hka
    rw [hk'] at hkb
    simp only [Value.int.injEq, true_and] at hka hkb
    subst hka
    subst hkb
    have hij : i = j := nodup_inj hl ha hb
    subst hij
    rw [hi] at hj
    obtain rfl := Option.some.inj hj
    exact he2 hb'
  · rw [List.mem_append, h.2, List.mem_singleton]
    constructor
    · rintro (⟨e', h1, h2, h3⟩ | rfl)
      · exact ⟨e', h1, h2, by simp [h3]⟩
      · exact ⟨e, he1, hk, by simp⟩
    · rintro ⟨e', h1, h2, h3⟩
      rw [Array.mem_push] at h3
      rcases h3 with h3 | h3
      · exact .inl ⟨e', h1, h2, h3⟩
      · right
        by_cases hs : e'.born ∈ seen
        · exact absurd (h3 ▸ hs) he2
        · have hee : e' = e := by
            obtain ⟨i, hi⟩ := List.getElem?_of_mem he1
            obtain ⟨j, hj⟩ := List.getElem?_of_mem h1
            have hij : j = i := by
              have hnd := hm.nd
              have e1 : (es.toList.map (·.born))[i]? = some e.born := by rw [List.getElem?_map, hi]; rfl
              have e2 : (es.toList.map (·.born))[j]? = some e.born := by rw [List.getElem?_map, hj]; exact congrArg some h3
              exact nodup_inj hnd e2 e1
            subst hij
            rw [hi] at hj
            exact (Option.some.inj hj).symm
          rw [hee, hk] at h2
          simp at h2
          exact h2.symm
theorem Taken.done {es : Array MapEntry} {clock : Nat} {l : List Int} {seen : Array Nat} {xs : List Int} (hm : MapIs es clock (setM l)) (h : Taken es seen xs) (h0 : (leftOf es seen).size = 0) (n : Int) : n ∈ xs ↔ n ∈ l := by
  rw [h.2]
  constructor
  · rintro ⟨e, h1, h2, _⟩
    obtain ⟨i, hi⟩ := List.getElem?_of_mem h1
    obtain ⟨a, ha, hka⟩ := set_key hm hi
    rw [h2] at hka
    simp only [Value.int.injEq, true_and] at hka
    subst hka
    exact List.mem_of_getElem? ha
  · intro hn
    obtain ⟨i, hi⟩ := List.getElem?_of_mem hn
    have hil := (List.getElem?_eq_some_iff.1 hi).1
    obtain ⟨e, hes⟩ : ∃ e, es.toList[i]? = some e := ⟨_, List.getElem?_eq_getElem (by rw [set_len hm]; exact hil)⟩
    obtain ⟨a, ha, hka⟩ := set_key hm hes
    rw [hi] at ha
    obtain rfl := Option.some.inj ha
    refine ⟨_, List.mem_of_getElem? hes, hka, ?_⟩
    by_cases hs : e.born ∈ seen
    · exact hs
    · have := left_mem.2 ⟨List.mem_of_getElem? hes, hs⟩
      have h1 : (leftOf es seen).toList.length = 0 := h0
      rw [List.length_eq_zero_iff.1 h1] at this
      cases this
theorem Taken.nil (es : Array MapEntry) : Taken es #[] [] := ⟨by simp, fun n => by simp⟩
theorem Taken.sub {es : Array MapEntry} {clock : Nat} {l : List Int} {seen : Array Nat} {xs : List Int} (hm : MapIs es clock (setM l)) (h : Taken es seen xs) {n : Int} (hn : n ∈ xs) : n ∈ l := by
  obtain ⟨e, h1, h2, _⟩ := (h.2 n).1 hn
  obtain ⟨i, hi⟩ := List.getElem?_of_mem h1
  obtain ⟨a, ha, hka⟩ := set_key hm hi
  rw [h2] at hka
  simp only [Value.int.injEq, true_and] at hka
  subst hka
  exact List.mem_of_getElem? ha
end Go.Co
namespace Go.Proofs.YtlboppiogeaicaaDoor.co
open Go.RowKit Go.Eng Go.Co Go.Shelf Go.Sort
set_option linter.unusedVariables false
set_option linter.unusedSimpArgs false
set_option maxRecDepth 100000
theorem SortI_calls {p : Nat} {H : List Eng.Item} {S : List World} {w : World} {base cap : Nat} {O : Nat → Prop} {q : Option Addr} {xs : List Int} {F : Eng.Item → List Eng.Item}
    (hh : Hole p H (Eng.row base O q xs.length cap 3 1 (ints xs)) F) (h : Cls H S w) (hlen : xs.length < 4611686018427387904) :
    Calls Tryd.prog 76 #[.slice q xs.length cap] w fun e w' => e = .returned (.tuple #[]) ∧ Cls (F (Eng.row base O q xs.length cap 3 1 (ints (isrt xs)))) S w' := by
  by_cases h0 : xs.length = 0
  · obtain rfl : xs = [] := List.eq_nil_of_length_eq_zero h0
    refine (Any.slices_Sort_int_none Tryd.lays189 q cap w).mono fun e w' he => ⟨he.1, ?_⟩
    rw [he.2]
    have e2 : isrt [] = [] := by simp [isrt]
    rw [e2, hh.eq.2, set_same hh.eq.1]
    exact h
  · have hi := h.holds _ (List.mem_of_getElem? hh.eq.1)
    obtain ⟨g, rfl⟩ : ∃ g, q = some ⟨g, 0, none⟩ := by
      rcases hi.2.2 with ⟨h3, h4⟩ | ⟨g', cap', cur, h3, _⟩
      · omega
      · exact ⟨g', by simp only [Value.slice.injEq] at h3; exact h3.1⟩
    obtain ⟨h1, h2⟩ := row_holds (enc := Value.int .i64) (d := xs.toArray) hi
    have hc := Any.slices_Sort_int Tryd.lays189 g 0 cap xs w h1 h2 hlen
    refine hc.mono fun e w' he => ⟨he.1, ?_⟩
    obtain ⟨n, os, hw⟩ := he.2
    have hp := Cls.rowPut hh h (isrt xs).toArray (by simp [isrt_len]) hw
    exact hp
structure FO where
  seen : Array Nat
  xs : List Int
  O : Nat → Prop
  q : Option Addr
  c : Nat
theorem FreeOf_calls (t : Tr) (b : Nat) (L : List Int) (w : World) (ht : TrO w (low w) t b) (hh : 16 * high t ≤ 1000000) (hL : ∀ n ∈ fv t [], n ∈ L) (hLl : L.length ≤ 1000000) :
    Calls Tryd.prog 44 [.pointer (some ⟨b, 0, none⟩)].toArray w fun e w' => ∃ (l : List Int) (q : Option Addr) (c : Nat), e = .returned (.slice q l.length c) ∧ l.length ≤ 1000000 ∧ l.length ≤ c ∧ l.Pairwise (· ≤ ·) ∧ l.Nodup ∧ (∀ n, n ∈ l ↔ n ∈ fv t []) ∧ IntsO w' (low w') l q ∧ Ext w w' := by
  have hcnt0 : Cnt [] [] := fun k => by simp [cf, lget]
  have hlen0 : ([] : List Int).length + 16 * high t ≤ 1000000 := by rw [List.length_nil, Nat.zero_add]; exact hh
  refine enter Tryd.func44 rfl Tryd.ntmps44 rfl (Cls.start w) ?_
  (simp only [argEnv, Nat.zero_add, Nat.reduceAdd])
  apply W.seq
  apply W.reg
  apply oas; rfl; rfl
  apply OL.nil
  with_reducible apply At.next
  apply W.seq
  apply W.reg
  apply OL.imakeMap; rfl; rfl; (intro bk hbk; simp only [AllLe, and_true] at hbk)
  apply oas; rfl; rfl
  apply OL.nil
  with_reducible apply At.next
  apply W.seq
  apply W.reg
  apply omv; rfl; rfl
  apply OL.imakeMap; rfl; rfl; (intro bk hbk; simp only [AllLe, and_true] at hbk)
  apply omv; rfl; rfl
  revert bk
  intro bb hbb
  revert bk
  intro bo hbo
  refine OL.callE (α := FG) (fun _ => .tuple #[]) (fun z => (∀ n, n ∈ z.l ↔ n ∈ fv t []) ∧ z.l.Nodup) (fun z => Cls (mapI bo (setM z.l) :: []) [w]) rfl rfl (by (repeat (first | exact Args.nil | (apply Args.cons rfl; ((first | exact fun _ => rfl | exact fun h => h | (intro h; simp_all; done))))))) (fun w2 hw2 => ?_) ?_
  · have hfr := free_calls w bb bo hbb hbo (tsz t) t b [] [] [] [] [] w2 (Nat.le_refl _) ht hcnt0 hlen0 (fun k hk => NotOwned.nil) hw2
    refine Calls.mono hfr ?_
    rintro e w3 ⟨h1, bm', l', h2, h3, h4, h5⟩
    have hl' : ∀ n, n ∈ l' ↔ n ∈ fv t [] := fun n => by rw [h3]; simp
    have hn' : l'.Nodup := h4 List.nodup_nil
    refine ⟨⟨[], l'⟩, h1, ⟨hl', hn'⟩, ?_⟩
    exact h5.thin (Thin.any (fun k hk => hk ▸ ⟨hbb, trivial⟩) (by (repeat (first | exact Thin.nil | exact Thin.same | apply Thin.keep | (refine Thin.blk (by assumption) ?_) | (refine Thin.blk (by simp only [AllLe, and_true]; omega) ?_)))))
  rintro ⟨_, l0⟩ ⟨hl0, hn0⟩
  simp only at hl0 hn0 ⊢
  refine OL.exx (X := { x : Array MapEntry × Nat // MapIs x.1 x.2 (setM l0) }) (C' := fun x => Cls [mapX bo x.1.1 x.1.2] [w]) (fun w' hw' => by
    obtain ⟨x, h1, h2⟩ := Cls.mapX_of .z hw'
    exact ⟨⟨x, h1⟩, h2⟩) ?_
  rintro ⟨⟨es, clock⟩, hm⟩
  simp only at hm ⊢
  have hnd := hm.nd
  apply OL.nil
  with_reducible apply At.next
  apply W.seq
  apply W.reg
  apply oas; rfl; rfl
  apply OL.nil
  with_reducible apply At.next
  apply W.seq
  apply W.seq
  apply W.reg
  apply omv; rfl; rfl
  apply OL.rangeMap; rfl; rfl; rfl; (intro w' hw'; exact hw'.item (.head _)); (intro r hr; simp only [AllLe, and_true] at hr)
  apply OL.nil
  with_reducible apply At.next
  apply W.block
  refine W.loop (G := FO) (fun g => Taken es g.seen g.xs) (fun g => (leftOf es g.seen).size) (fun g => [(4, true, .slice g.q g.xs.length g.c), (12, true, .pointer (some ⟨r, 0, none⟩))])
    (fun g => Cls [row w.heap.size g.O g.q g.xs.length g.c 3 1 (ints g.xs), itI r bo clock g.seen clock, mapX bo es clock] [w]) ⟨#[], [], fun _ => False, none, 0⟩ (Taken.nil es) (by (repeat (first | exact Sub.nil | apply Sub.cons rfl | (refine Sub.cons_eq rfl (congrArg (Value.int .i64) (by first | omega | (simp only; omega))) ?_)))) (fun w' hw' => hw'.row_nil w.heap.size _ 1) ?_
  rintro ⟨seen, xs, O, qx, cx⟩ hT
  simp only at hT ⊢
  have hxl : xs.length ≤ 1000000 := Nat.le_trans (nodup_le hT.1 fun n hn => hL n ((hl0 n).1 (hT.sub hm hn))) hLl
  apply W.seq
  apply W.reg
  apply OL.nextMap; rfl; rfl; (intro w' hw'; exact hw'.item (.tail _ (.tail _ (.head _)))); (exact hm.lt); (exact Nat.le_refl _); (exact .s .z)
  · intro h0
    have hall : ∀ n, n ∈ xs ↔ n ∈ fv t [] := fun n => (hT.done hm h0 n).trans (hl0 n)
    apply oex; rfl; rfl; rfl
    apply OL.nil
    with_reducible apply At.next
    apply W.seq
    refine W.cond rfl (fun hb => by cases hb) (fun hb => ?_)
    apply W.exit
    with_reducible apply At.then_exit
    with_reducible apply At.then_exit
    with_reducible apply At.in_exit
    with_reducible apply At.next
    apply W.seq
    apply W.reg
    apply omv; rfl; rfl
    refine OL.callE (α := Unit) (fun _ => .tuple #[]) (fun _ => True) (fun _ => Cls [row w.heap.size O qx xs.length cx 3 1 (ints (isrt xs)), itI r bo clock seen clock, mapX bo es clock] [w]) rfl rfl (by (repeat (first | exact Args.nil | (apply Args.cons rfl; ((first | exact fun _ => rfl | exact fun h => h | (intro h; simp_all; done))))))) (fun w2 hw2 => (SortI_calls .z hw2 (by omega)).mono fun e w3 h => ⟨(), h.1, trivial, h.2⟩) ?_
    rintro _ _
    apply OL.nil
    with_reducible apply At.next
    apply W.seq
    apply W.reg
    apply omv; rfl; rfl
    apply oas; rfl; rfl
    apply OL.nil
    with_reducible apply At.next
    apply W.ret
    ((with_reducible apply At.fin1); rfl; rfl; intro w' hw')
    have hi := hw'.item (.head _)
    have hcap := row_le hi
    refine ⟨isrt xs, qx, cx, by rw [isrt_len], by rw [isrt_len]; exact hxl, by rw [isrt_len]; exact hcap, isrt_sorted xs, isrt_nodup hT.1, fun n => isrt_mem.trans (hall n), fun hl => ?_, by (exact hw'.toExt (by (repeat (first | exact List.Mem.head _ | apply List.Mem.tail))) (fun k hk => by (focus ((try simp only [add_block]); (repeat (first | exact NotOwned.nil | exact hno _ (by omega) | refine NotOwned.nothing ?_ | refine NotOwned.nds (hlow _ (by omega)) ?_ | refine NotOwned.mapS (by omega) ?_ | apply NotOwned.bif | refine NotOwned.blk (by omega) ?_ | refine NotOwned.row (by omega) ?_ | refine NotOwned.grid (by assumption) (by omega) ?_ | refine NotOwned.pile (by omega) ?_ | refine NotOwned.pool (by omega) ?_ | refine NotOwned.mapI (by omega) ?_ | refine NotOwned.mapX (by omega) ?_ | refine NotOwned.itI (by omega) ?_)); done))))⟩
    exact SlAt.of_row hi (by rw [ints_length]; exact hl)
  · intro e he
    obtain ⟨n, hk⟩ : ∃ n, e.key = .int .i64 n := by
      obtain ⟨i, hi⟩ := List.getElem?_of_mem (left_mem.1 he).1
      obtain ⟨n, _, h⟩ := set_key hm hi
      exact ⟨n, h⟩
    have hT2 := hT.step hm hn0 he hk
    have hsh := left_shrinks es seen e he
    apply oex; rfl; rfl; rfl
    apply OL.nil
    with_reducible apply At.next
    apply W.seq
    refine W.cond rfl (fun hb => ?_) (fun hb => by cases hb)
    apply W.skip
    with_reducible apply At.next
    apply W.block
    apply W.seq
    apply W.reg
    (((first | (with_reducible apply OL.op) | (with_reducible apply QL.op)); ((first | exact Guard.none | exact Guard.yes rfl rfl | exact Guard.no rfl rfl | exact Guard.cyes rfl rfl | exact Guard.cno rfl rfl)); rfl; rfl); (apply Pev.entryMap); rfl; (intro hb2; exact hb2); (intro w' hw'; exact hw'.item (.tail _ (.tail _ (.head _)))); (exact .tail _ (.head _)); (exact (left_mem.1 he).1); (exact hnd))
    rw [hk]
    apply oex; rfl; rfl; rfl
    apply oas; rfl; rfl
    apply OL.nil
    with_reducible apply At.next
    apply W.reg
    apply omv; rfl; rfl
    apply omv; rfl; rfl
    apply OL.buildSlice; rfl; rfl; rfl; apply Elems.cons rfl; exact CellsL.one rfl; rfl; apply Elems.nil; apply App.cons; apply App.nil; rfl; rfl; (intro bk hbk; simp only [AllLe, and_true] at hbk)
    apply OL.append; rfl; rfl; rfl; rfl; apply Hole.s; apply Hole.z; exact .head _; apply Take.succ; apply Take.zero; rfl; rfl; exact ⟨_, .head _, Nat.le_refl _⟩; omega; intro O1 g1 cap1
    apply oas; rfl; rfl
    apply OL.nil
    with_reducible apply At.in_normal
    rw [show ints xs ++ [Value.int .i64 n] = ints (xs ++ [n]) by simp [ints], show xs.length + 1 = (xs ++ [n]).length by simp]
    exact At.again ⟨seen.push e.born, xs ++ [n], O1, some ⟨g1, 0, none⟩, cap1⟩ hT2 hsh (by (repeat (first | exact Sub.nil | apply Sub.cons rfl | (refine Sub.cons_eq rfl (congrArg (Value.int .i64) (by first | omega | (simp only; omega))) ?_)))) (fun w' hw' => hw'.thin (by (repeat (first | exact Thin.nil | exact Thin.same | apply Thin.keep | (refine Thin.blk (by assumption) ?_) | (refine Thin.blk (by simp only [AllLe, and_true]; omega) ?_)))))
end Go.Proofs.YtlboppiogeaicaaDoor.co
