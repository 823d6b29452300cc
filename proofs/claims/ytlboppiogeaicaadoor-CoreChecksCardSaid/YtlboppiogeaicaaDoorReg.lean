/- A region that draws its order, whose first operations are quiet and whose last ones write memory, one behind another. General. No condition. -/
import Derived.Test.YtlboppiogeaicaaDoorMem
import Derived.Deep.Quiet
namespace Go.Eng
open Go.RowKit
set_option linter.unusedVariables false
set_option linter.unusedSimpArgs false

section
variable {P : Program} {ops : Array Oper} {C : World → Prop} {Q : Exit → Act → World → Prop} {m : Nat}

def allB (m : Nat) (listed : Array Bool) : Bool := (List.range m).all fun j => listed.getD j false
theorem allB_no {m i : Nat} {listed : Array Bool} (hi : i < m) (h : listed.getD i true = false) : allB m listed = false := by
  rw [Bool.eq_false_iff]
  intro ht
  have := List.all_eq_true.1 ht i (List.mem_range.2 hi)
  rcases Nat.lt_or_ge i listed.size with h' | h'
  · simp [h'] at h this; rw [h] at this; cases this
  · simp [Array.getElem?_eq_none h'] at h

def wpH (P : Program) (ops : Array Oper) (C : World → Prop) (Q : Exit → Act → World → Prop) (m : Nat) : Nat → Array Bool → Act → Prop
  | 0, listed, a => allB m listed = true ∧ ∀ w, C w → wpAny P .any ops Q 0 listed a w
  | f + 1, listed, a => (allB m listed = true → ∀ w, C w → wpAny P .any ops Q (f + 1) listed a w) ∧
      (allB m listed = false → Region.ready .any ops listed ≠ [] ∧ ∀ i ∈ Region.ready .any ops listed, qOp P ops C i (wpH P ops C Q m f (listed.setIfInBounds i true)) a)
theorem wpH_all {f : Nat} {listed : Array Bool} {a : Act} (ht : allB m listed = true) (h : ∀ w, C w → wpAny P .any ops Q f listed a w) : wpH P ops C Q m f listed a := by
  cases f with
  | zero => exact ⟨ht, h⟩
  | succ f => exact ⟨fun _ => h, fun h0 => by rw [ht] at h0; cases h0⟩
theorem wpAny_of_H : ∀ (f : Nat) (listed : Array Bool) (a : Act) (w : World), C w → wpH P ops C Q m f listed a → wpAny P .any ops Q f listed a w
  | 0, _, _, w, hw, h => h.2 w hw
  | f + 1, listed, a, w, hw, h => by
    cases ht : allB m listed with
    | true => exact h.1 ht w hw
    | false => exact ⟨fun h0 => absurd h0 (h.2 ht).1, fun i hi => wpOp_of_qOp hw (fun a' w' hw' => wpAny_of_H f _ a' w' hw') ((h.2 ht).2 i hi)⟩

/-- does j wait for i, directly or through others? -/
def waitsB (ops : Array Oper) : Nat → Nat → Nat → Bool
  | 0, _, _ => false
  | f + 1, j, i => match ops[j]? with
    | some o => o.after.any fun e => Region.binds .any e && (Nat.beq e.on i || waitsB ops f e.on i)
    | none => false
def waitB (ops : Array Oper) (m : Nat) : Bool := (List.range ops.size).all fun j => Nat.blt j m || (List.range m).all fun i => waitsB ops ops.size j i
theorem waitB_spec (h : waitB ops m = true) {j : Nat} {o : Oper} (hj : ops[j]? = some o) (hm : m ≤ j) {i : Nat} (hi : i < m) : waitsB ops ops.size j i = true := by
  have hlt := (Array.getElem?_eq_some_iff.1 hj).1
  have h1 := List.all_eq_true.1 h j (List.mem_range.2 hlt)
  simp only [Bool.or_eq_true] at h1
  rcases h1 with h1 | h1
  · have : j < m := Nat.le_of_ble_eq_true h1
    omega
  · exact List.all_eq_true.1 h1 i (List.mem_range.2 hi)
/-- whatever is done, all that it waits for is done -/
def Dn (ops : Array Oper) (listed : Array Bool) : Prop := ∀ j o, ops[j]? = some o → listed.getD j false = true → ∀ e ∈ o.after, Region.binds .any e = true → listed.getD e.on false = true
theorem getD_ft {listed : Array Bool} {i : Nat} (h : listed.getD i true = false) : listed.getD i false = false := by
  rcases Nat.lt_or_ge i listed.size with h' | h'
  · simp [h'] at h ⊢; exact h
  · simp [Array.getElem?_eq_none h'] at h
theorem waits_done {listed : Array Bool} (hD : Dn ops listed) {i : Nat} : ∀ (f j : Nat) (o : Oper), ops[j]? = some o → (∀ e ∈ o.after, Region.binds .any e = true → listed.getD e.on false = true) → waitsB ops f j i = true → listed.getD i false = true
  | 0, _, _, _, _, h => by cases h
  | f + 1, j, o, hj, hall, h => by
    rw [waitsB, hj] at h
    simp only at h
    rw [Array.any_eq_true] at h
    obtain ⟨k, hk, h3⟩ := h
    simp only [Bool.and_eq_true, Bool.or_eq_true, Nat.beq_eq] at h3
    have h4 := hall _ (Array.getElem_mem hk) h3.1
    rcases h3.2 with h5 | h5
    · rw [← h5]; exact h4
    · cases ho : ops[(o.after[k]).on]? with
      | none =>
        cases f with
        | zero => cases h5
        | succ f => rw [waitsB, ho] at h5; cases h5
      | some o2 => exact waits_done hD f _ o2 ho (fun e he hb => hD _ o2 ho h4 e he hb) h5
theorem Dn.set {listed : Array Bool} (hD : Dn ops listed) {j : Nat} (hj : j ∈ Region.ready .any ops listed) : Dn ops (listed.setIfInBounds j true) := by
  obtain ⟨hjun, oj, hoj, hall⟩ := mem_ready.1 hj
  have hjlt : j < listed.size := by
    rcases Nat.lt_or_ge j listed.size with h' | h'
    · exact h'
    · simp [Array.getElem?_eq_none h'] at hjun
  have up : ∀ k, listed.getD k false = true → (listed.setIfInBounds j true).getD k false = true := fun k hk => by
    by_cases e : j = k
    · subst e
      simp [Array.getElem?_setIfInBounds, hjlt]
    · rw [getD_set_ne false e]; exact hk
  intro k o ho hk e he hb
  by_cases ek : j = k
  · subst ek
    rw [hoj] at ho
    obtain rfl := Option.some.inj ho
    exact up _ (hall e he hb)
  · rw [getD_set_ne false ek] at hk
    exact up _ (hD k o ho hk e he hb)

theorem wpH_first {i : Nat} {oi : Oper} {v : Value} (hi : ops[i]? = some oi) (him : i < m) (hwait : waitB ops m = true) (hsel : ∀ (j : Nat) (o : Oper) cs b, ops[j]? = some o → o.op ≠ .select cs b) :
    ∀ (fuel : Nat) (listed : Array Bool) (a : Act),
      Dn ops listed → (∀ j oj, ops[j]? = some oj → j ≠ i → listed.getD j true = false → (∀ e ∈ oj.after, Region.binds .any e = true → e.on ≠ i) → oi.apart ops oj = true) →
      i ∈ Region.ready .any ops listed → YieldsIn P ops C oi v a →
      wpH P ops C Q m fuel (listed.setIfInBounds i true) (a.put oi.dst v) → wpH P ops C Q m (fuel + 1) listed a := by
  intro fuel
  induction fuel with
  | zero =>
    intro listed a hD _ hr hy H
    have hT := allB_no him (mem_ready.1 hr).1
    refine ⟨fun h => (by rw [hT] at h; cases h), fun _ => ⟨fun h => (by rw [h] at hr; cases hr), fun j hj => ?_⟩⟩
    by_cases hji : j = i
    · subst hji; exact hy.qOp hi H
    · exfalso
      obtain ⟨hjun, oj, hoj, hall⟩ := mem_ready.1 hj
      have hjm : j < m := by
        rcases Nat.lt_or_ge j m with h | h
        · exact h
        · have h1 := waits_done hD _ j oj hoj hall (waitB_spec hwait hoj h him)
          rw [getD_ft (mem_ready.1 hr).1] at h1
          cases h1
      have := allB_no hjm (by rw [getD_set_ne true (Ne.symm hji)]; exact hjun : (listed.setIfInBounds i true).getD j true = false)
      rw [H.1] at this
      cases this
  | succ fuel ih =>
    intro listed a hD hfree hr hy H
    have hT := allB_no him (mem_ready.1 hr).1
    refine ⟨fun h => (by rw [hT] at h; cases h), fun _ => ⟨fun h => (by rw [h] at hr; cases hr), fun j hj => ?_⟩⟩
    by_cases hji : j = i
    · subst hji; exact hy.qOp hi H
    · obtain ⟨hjun, oj, hoj, hall⟩ := mem_ready.1 hj
      have hnot : ∀ e ∈ oj.after, Region.binds .any e = true → e.on ≠ i := fun e he hb heq => by
        have h1 := hall e he hb
        have h0 := (mem_ready.1 hr).1
        rw [heq] at h1
        rcases Nat.lt_or_ge i listed.size with h' | h'
        · simp [h'] at h0 h1; rw [h0] at h1; cases h1
        · simp [Array.getElem?_eq_none h'] at h1
      have hjm : j < m := by
        rcases Nat.lt_or_ge j m with h | h
        · exact h
        · have h1 := waits_done hD _ j oj hoj hall (waitB_spec hwait hoj h him)
          rw [getD_ft (mem_ready.1 hr).1] at h1
          cases h1
      have hT' := allB_no hjm (by rw [getD_set_ne true (Ne.symm hji)]; exact hjun : (listed.setIfInBounds i true).getD j true = false)
      have h1 := (H.2 hT').2 j (ready_mono hj hji)
      have h2 := qOp_put hoj (hfree j oj hoj hji hjun hnot) (fun cs b => hsel i oi cs b hi) (fun cs b => hsel j oj cs b hoj) hy h1
      have hfree' : ∀ k ok, ops[k]? = some ok → k ≠ i → (listed.setIfInBounds j true).getD k true = false →
          (∀ e ∈ ok.after, Region.binds .any e = true → e.on ≠ i) → oi.apart ops ok = true := fun k ok hk hki hun hno => by
        refine hfree k ok hk hki ?_ hno
        by_cases hjk : j = k
        · subst hjk; exact hjun
        · rw [getD_set_ne true hjk] at hun; exact hun
      refine qOp_mono (fun a' h3 => ih (listed.setIfInBounds j true) a' (hD.set hj) hfree' (ready_mono hr (Ne.symm hji)) h3.1 ?_) h2
      rw [Array.setIfInBounds_comm _ _ hji]
      exact h3.2

theorem getD_rep (n j : Nat) : (Array.replicate n false).getD j false = false := by
  rw [Array.getD_eq_getD_getElem?, Array.getElem?_replicate]
  split <;> rfl
def runL : Nat → Nat → Array Bool → Array Bool
  | 0, _, li => li
  | n + 1, k, li => runL n (k + 1) (li.setIfInBounds k true)
def preB (ops : Array Oper) : Nat → Nat → Array Bool → Bool
  | 0, _, _ => true
  | n + 1, k, li => (Region.ready .any ops li).contains k && Region.free .any ops li k && preB ops n (k + 1) (li.setIfInBounds k true)
def seqB (ops : Array Oper) : Nat → Nat → Array Bool → Bool
  | 0, _, li => (Region.ready .any ops li).isEmpty
  | n + 1, k, li => (Region.ready .any ops li == [k]) && seqB ops n (k + 1) (li.setIfInBounds k true)

theorem wpAny_seq : ∀ (l : List Oper) (k : Nat) (li : Array Bool) (a : Act) (w : World), (∀ j, l[j]? = ops[k + j]?) → seqB ops l.length k li = true → wpList P ops Q l a w → wpAny P .any ops Q l.length li a w
  | [], k, li, a, w, _, hB, h => ⟨by simpa [seqB] using hB, h⟩
  | o :: l, k, li, a, w, hl, hB, h => by
    simp only [List.length_cons, seqB, Bool.and_eq_true, beq_iff_eq] at hB
    have h0 : ops[k]? = some o := by simpa using (hl 0).symm
    refine ⟨fun h' => (by rw [hB.1] at h'; cases h'), fun i hi => ?_⟩
    rw [hB.1, List.mem_singleton] at hi
    subst hi
    have h2 : wpOp P ops Q i (wpList P ops Q l) a w := by unfold wpOp; simp only [h0]; exact h
    exact wpOp_mono (fun a' w' h3 => wpAny_seq l (i + 1) _ a' w' (fun j => by have := hl (j + 1); simpa [Nat.add_assoc, Nat.add_comm 1 j] using this) hB.2 h3) h2

theorem wpH_lex (hs : Region.noSelect ops = true) (hwait : waitB ops m = true) {K : Act → Prop} {f : Nat} : ∀ (l : List Oper) (k : Nat) (li : Array Bool) (a : Act), Dn ops li → k + l.length = m → (∀ j, j < l.length → l[j]? = ops[k + j]?) →
    preB ops l.length k li = true → allB m (runL l.length k li) = true → wpQuiet P ops C K l a → (∀ a, K a → ∀ w, C w → wpAny P .any ops Q f (runL l.length k li) a w) → wpH P ops C Q m (l.length + f) li a
  | [], k, li, a, _, _, _, _, hA, h, hK => by
    rw [List.length_nil, Nat.zero_add]
    exact wpH_all hA (hK a h)
  | o :: l, k, li, a, hD, hk, hl, hB, hA, h, hK => by
    have h0 : ops[k]? = some o := by simpa using (hl 0 (by simp)).symm
    simp only [List.length_cons, preB, Bool.and_eq_true] at hB
    obtain ⟨⟨hr, hf⟩, hB'⟩ := hB
    have hst : qOp P ops C k (wpQuiet P ops C K l) a := by unfold qOp; simp only [h0]; exact h
    obtain ⟨v, hy, hK'⟩ := yieldsIn_of_qOp h0 hst
    rw [List.length_cons, show l.length + 1 + f = (l.length + f) + 1 by omega]
    exact wpH_first h0 (by simp only [List.length_cons] at hk; omega) hwait (Region.noSelect_spec hs) _ li a hD (Region.free_spec h0 hf) (by simpa using hr) hy
      (wpH_lex hs hwait l (k + 1) _ _ (hD.set (by simpa using hr)) (by simp only [List.length_cons] at hk; omega) (fun j hj => by have := hl (j + 1) (by simp only [List.length_cons]; omega); simpa [Nat.add_assoc, Nat.add_comm 1 j] using this) hB' hA hK' hK)

def tailB (ops : Array Oper) (m t : Nat) : Bool := Region.noSelect ops && (waitB ops m && (preB ops m 0 (Array.replicate ops.size false) && (allB m (runL m 0 (Array.replicate ops.size false)) && (seqB ops t m (runL m 0 (Array.replicate ops.size false)) && Nat.beq (m + t) ops.size))))

theorem wp_region_tail {id : Nat} {l0 l1 : List Oper} {a : Act} {w : World} (hm : P.follows .mixedOrders = true) (hB : tailB (l0 ++ l1).toArray l0.length l1.length = true) (hC : C { w with drawn := w.drawn + 1 })
    (h : wpQuiet P (l0 ++ l1).toArray C (fun a' => ∀ w', C w' → wpList P (l0 ++ l1).toArray Q l1 a' w') l0 a) : (Code.region id (l0 ++ l1).toArray true).wp P Q a w := by
  simp only [tailB, Bool.and_eq_true] at hB
  obtain ⟨h1, h2, h3, h4, h5, h6⟩ := hB
  refine wp_region_any hm (wpAny_of_H (m := l0.length) _ _ _ _ hC ?_)
  have key := wpH_lex (Q := Q) (f := l1.length) h1 h2 l0 0 (Array.replicate (l0 ++ l1).toArray.size false) a (fun j o _ hj => by rw [getD_rep] at hj; cases hj) (by omega) (fun j hj => by simp [List.getElem?_append_left hj]) h3 h4 h (fun a' hK w' hw' => wpAny_seq l1 l0.length _ a' w' (fun j => by simp [List.getElem?_append_right]) h5 (hK w' hw'))
  have e : l0.length + l1.length = (l0 ++ l1).toArray.size := by simp
  exact (congrArg (fun s => wpH P (l0 ++ l1).toArray C Q l0.length s (Array.replicate (l0 ++ l1).toArray.size false) a) e).mp key
end

/-- does an operation make or write memory? -/
def memB (o : Oper) : Bool := match o.op with
  | .store .. => true
  | .alloc .. => true
  | .box .. => true
  | .buildSlice .. => true
  | .makeSlice .. => true
  | .makeMap .. => true
  | .mapUpdate .. => true
  | .call c => match c.callee with
    | .builtin .append => true
    | .builtin .delete => true
    | _ => false
  | _ => false
inductive Split : List Oper → List Oper → List Oper → Prop where
  | z {o : Oper} {r : List Oper} (h : memB o = true) : Split (o :: r) [] (o :: r)
  | s {o : Oper} {r x y : List Oper} (h : memB o = false) (k : Split r x y) : Split (o :: r) (o :: x) y
theorem Split.eq {l x y : List Oper} (h : Split l x y) : l = x ++ y := by
  induction h with
  | z h => rfl
  | s h k ih => rw [List.cons_append, ih]
section
variable {P : Program} {n : Nat} {l : Env} {C : World → Prop} {Q : Exit → Act → World → Prop}
theorem W.regq {id : Nat} {l0 x y : List Oper} (hs : Split l0 x y) (hm : P.follows .mixedOrders = true) (hB : tailB (x ++ y).toArray x.length y.length = true) (hC : ∀ w, C w → C { w with drawn := w.drawn + 1 })
    (h : QL P n l0.toArray C (fun a' => ∀ w', C w' → wpList P l0.toArray Q y a' w') x l) : W P n (.region id l0.toArray true) Q l C := ⟨fun a w hs' hc => by
  have := hs.eq
  subst this
  exact wp_region_tail (C := C) hm hB (hC w hc) (h.run a hs')⟩
/-- the first k operations are quiet -/
inductive SplitN : Nat → List Oper → List Oper → List Oper → Prop where
  | z {r : List Oper} : SplitN 0 r [] r
  | s {k : Nat} {o : Oper} {r x y : List Oper} (h : SplitN k r x y) : SplitN (k + 1) (o :: r) (o :: x) y
theorem SplitN.eq {k : Nat} {l x y : List Oper} (h : SplitN k l x y) : l = x ++ y := by
  induction h with
  | z => rfl
  | s h ih => rw [List.cons_append, ih]
theorem W.regn (k : Nat) {id : Nat} {l0 x y : List Oper} (hs : SplitN k l0 x y) (hm : P.follows .mixedOrders = true) (hB : tailB (x ++ y).toArray x.length y.length = true) (hC : ∀ w, C w → C { w with drawn := w.drawn + 1 })
    (h : QL P n l0.toArray C (fun a' => ∀ w', C w' → wpList P l0.toArray Q y a' w') x l) : W P n (.region id l0.toArray true) Q l C := ⟨fun a w hs' hc => by
  have := hs.eq
  subst this
  exact wp_region_tail (C := C) hm hB (hC w hc) (h.run a hs')⟩
/-- a drawn region whose operations write no memory -/
theorem W.regd0 {id : Nat} {l0 : List Oper} (hq : (l0.all fun o => !memB o) = true) (hm : P.follows .mixedOrders = true) (hB : Region.lexB .any l0.toArray = true) (hC : ∀ w, C w → C { w with drawn := w.drawn + 1 })
    (h : QL P n l0.toArray C (fun a' => ∀ w', C w' → Q .normal a' w') l0 l) : W P n (.region id l0.toArray true) Q l C := W.regd hm hB hC h
theorem QL.tail {ops : Array Oper} {y : List Oper} (h : OL P n ops Q y l C) : QL P n ops C (fun a' => ∀ w', C w' → wpList P ops Q y a' w') [] l := ⟨fun a hs w hc => h.run a w hs hc⟩
end
end Go.Eng
