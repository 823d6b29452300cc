/- Texts of the proof of LiveRanges, part 4: rules of a calculus for walking, plain laws, and walks of the functions that the law reaches. No condition. -/
import Derived.Test.YtehelljmaiophaaLiveRanges3
/- Plain: which values are live where, by iteration backwards. No program in sight. No condition. -/
namespace Go.Ss
set_option linter.unusedVariables false
set_option linter.unusedSimpArgs false
def On (s : List Bool) (v : Nat) : Prop := s[v]? = some true
theorem On.lt {s : List Bool} {v : Nat} (h : On s v) : v < s.length := (List.getElem?_eq_some_iff.1 h).1
theorem on_set {s : List Bool} {i v : Nat} {b : Bool} (hi : i < s.length) : On (s.set i b) v ↔ (v = i ∧ b = true) ∨ (v ≠ i ∧ On s v) := by
  unfold On
  rw [List.getElem?_set]
  by_cases e : i = v
  · subst e
    simp [hi]
  · rw [if_neg e]
    have : v ≠ i := fun h => e h.symm
    simp [this]
theorem on_nil {v : Nat} : ¬ On [] v := fun h => by simp [On] at h
theorem on_ext {s t : List Bool} (hl : s.length = t.length) (h : ∀ v, On s v ↔ On t v) : s = t := by
  apply List.ext_getElem? 
  intro v
  by_cases hv : v < s.length
  · have h1 := h v
    unfold On at h1
    rw [List.getElem?_eq_getElem hv, List.getElem?_eq_getElem (hl ▸ hv)] at h1 ⊢
    simp only [Option.some.injEq] at h1 ⊢
    cases hx : s[v] <;> cases hy : t[v]'(hl ▸ hv) <;> simp_all
  · rw [List.getElem?_eq_none (by omega), List.getElem?_eq_none (by omega)]
/-- marks -/
def marks (l : List Int) (s : List Bool) : List Bool := l.foldl (fun s a => s.set a.toNat true) s
theorem marks_length : ∀ (l : List Int) (s : List Bool), (marks l s).length = s.length
  | [], s => rfl
  | a :: l, s => by
    have := marks_length l (s.set a.toNat true)
    rw [List.length_set] at this
    exact this
theorem marks_on : ∀ {l : List Int} {s : List Bool} {v : Nat}, (∀ a ∈ l, 0 ≤ a ∧ a < (s.length : Int)) → (On (marks l s) v ↔ (v : Int) ∈ l ∨ On s v)
  | [], s, v, h => by simp [marks]
  | a :: l, s, v, h => by
    have h0 := h a (.head _)
    have h1 := marks_on (l := l) (s := s.set a.toNat true) (v := v) (fun b hb => by rw [List.length_set]; exact h b (.tail _ hb))
    show On (marks l (s.set a.toNat true)) v ↔ _
    rw [h1, on_set (by omega), List.mem_cons]
    constructor
    · rintro (h2 | ⟨rfl, _⟩ | ⟨_, h2⟩)
      · exact .inl (.inr h2)
      · exact .inl (.inl (by omega))
      · exact .inr h2
    · rintro ((h2 | h2) | h2)
      · exact .inr (.inl ⟨by omega, rfl⟩)
      · exact .inl h2
      · by_cases e : v = a.toNat
        · exact .inr (.inl ⟨e, rfl⟩)
        · exact .inr (.inr ⟨e, h2⟩)
/-- one instruction backwards -/
def stepS (i : In) (s : List Bool) : List Bool := marks i.args (s.set i.to_.toNat false)
def backS (l : List In) (s : List Bool) : List Bool := l.foldr stepS s
theorem stepS_length (i : In) (s : List Bool) : (stepS i s).length = s.length := by rw [stepS, marks_length, List.length_set]
theorem backS_length : ∀ (l : List In) (s : List Bool), (backS l s).length = s.length
  | [], s => rfl
  | i :: l, s => by
    show (stepS i (backS l s)).length = _
    rw [stepS_length, backS_length l s]
theorem backS_drop {l : List In} {n : Nat} {i : In} (h : l[n]? = some i) (s : List Bool) : backS (l.drop n) s = stepS i (backS (l.drop (n + 1)) s) := by
  obtain ⟨h1, rfl⟩ := List.getElem?_eq_some_iff.1 h
  rw [List.drop_eq_getElem_cons h1]
  rfl
/-- the numbers of an instruction lie below m -/
def InLt (m : Nat) (i : In) : Prop := (0 ≤ i.to_ ∧ i.to_ < (m : Int)) ∧ ∀ a ∈ i.args, 0 ≤ a ∧ a < (m : Int)
theorem stepS_on {i : In} {s : List Bool} {v : Nat} (h : InLt s.length i) : On (stepS i s) v ↔ (v : Int) ∈ i.args ∨ (i.to_ ≠ (v : Int) ∧ On s v) := by
  unfold stepS
  rw [marks_on (by rw [List.length_set]; exact h.2), on_set (by have := h.1; omega)]
  have := h.1
  constructor
  · rintro (h1 | ⟨_, h1⟩ | ⟨h1, h2⟩)
    · exact .inl h1
    · cases h1
    · exact .inr ⟨by omega, h2⟩
  · rintro (h1 | ⟨h1, h2⟩)
    · exact .inl h1
    · exact .inr (.inr ⟨by omega, h2⟩)
theorem backS_on : ∀ {l : List In} {s : List Bool} {v : Nat}, (∀ i ∈ l, InLt s.length i) → (On (backS l s) v ↔ scanI (v : Int) l = some true ∨ (scanI (v : Int) l = none ∧ On s v))
  | [], s, v, h => by simp [backS, scanI]
  | i :: l, s, v, h => by
    have ih := backS_on (l := l) (s := s) (v := v) fun j hj => h j (.tail _ hj)
    show On (stepS i (backS l s)) v ↔ _
    rw [stepS_on (by rw [backS_length]; exact h i (.head _)), ih, scanI]
    by_cases h1 : (v : Int) ∈ i.args
    · simp [h1]
    · by_cases h2 : i.to_ = (v : Int)
      · simp [h1, h2]
      · simp [h1, h2]
/-- what is live at the end of a block, given what is live at the heads -/
def lastG (bs : List Bk) (F : List (List Bool)) (t : Tm) (v : Nat) : Bool := decide ((v : Int) ∈ operT t) || t.to_.any fun e => (F.getD e.block.toNat []).getD v false && !decide ((v : Int) ∈ (bs.getD e.block.toNat noB).params)
def tab (m : Nat) (g : Nat → Bool) : List Bool := (List.range m).map g
theorem tab_length (m : Nat) (g : Nat → Bool) : (tab m g).length = m := by simp [tab]
theorem tab_get {m : Nat} {g : Nat → Bool} {v : Nat} (h : v < m) : (tab m g)[v]? = some (g v) := by simp [tab, h]
theorem tab_on {m : Nat} {g : Nat → Bool} {v : Nat} : On (tab m g) v ↔ v < m ∧ g v = true := by
  unfold On
  by_cases h : v < m
  · rw [tab_get h]; simp [h]
  · rw [List.getElem?_eq_none (by rw [tab_length]; omega)]; simp [h]
theorem tab_set {m : Nat} {g : Nat → Bool} {i : Nat} {b : Bool} : (tab m g).set i b = tab m fun v => if v = i then b else g v := by
  apply List.ext_getElem?
  intro v
  rw [List.getElem?_set]
  by_cases h : v < m
  · rw [tab_get h, tab_get h]
    by_cases e : i = v
    · subst e
      rw [if_pos rfl, if_pos (by rw [tab_length]; exact h), if_pos rfl]
    · rw [if_neg e, if_neg (fun x => e x.symm)]
  · rw [List.getElem?_eq_none (l := tab m _) (by rw [tab_length]; omega), List.getElem?_eq_none (l := tab m _) (by rw [tab_length]; omega)]
    split
    · rw [if_neg (by rw [tab_length]; omega)]
    · rfl
theorem tab_congr {m : Nat} {g h : Nat → Bool} (e : ∀ v, v < m → g v = h v) : tab m g = tab m h := by
  unfold tab
  exact List.map_congr_left fun v hv => e v (List.mem_range.1 hv)
theorem tab_zero (m : Nat) : List.replicate m false = tab m fun _ => false := by
  unfold tab
  rw [List.map_const', List.length_range]
theorem on_getD {s : List Bool} {v : Nat} : On s v ↔ s.getD v false = true := by
  unfold On
  rw [List.getD_eq_getElem?_getD]
  cases h : s[v]? with
  | none => simp
  | some b => simp
theorem lastG_on {bs : List Bk} {F : List (List Bool)} {t : Tm} {v : Nat} : lastG bs F t v = true ↔ (v : Int) ∈ operT t ∨ ∃ e ∈ t.to_, On (F.getD e.block.toNat []) v ∧ ¬ (v : Int) ∈ (bs.getD e.block.toNat noB).params := by
  unfold lastG
  simp only [Bool.or_eq_true, decide_eq_true_eq, List.any_eq_true, Bool.and_eq_true, Bool.not_eq_true', decide_eq_false_iff_not, ← on_getD]
/-- everything that is used or defined lies below m; edges lead to blocks -/
structure Bnd (bs : List Bk) (m : Nat) : Prop where
  ins : ∀ b ∈ bs, ∀ i ∈ b.ins, InLt m i
  term : ∀ b ∈ bs, ∀ v ∈ operT b.term, 0 ≤ v ∧ v < (m : Int)
  edge : ∀ b ∈ bs, ∀ e ∈ b.term.to_, 0 ≤ e.block ∧ e.block < (bs.length : Int)
theorem getD_noB {bs : List Bk} {k : Nat} (h : k < bs.length) : bs[k]? = some (bs.getD k noB) := by
  rw [List.getD_eq_getElem?_getD, List.getElem?_eq_getElem h]; rfl
/-- the state of the iteration -/
structure LSt (bs : List Bk) (m : Nat) (B F : List (List Bool)) : Prop where
  bl : B.length = bs.length
  fl : F.length = bs.length
  ok : ∀ (k : Nat) (b : Bk) s, bs[k]? = some b → B[k]? = some s → (s = [] ∧ F[k]? = some []) ∨ (s.length = m ∧ F[k]? = some (backS b.ins s))
  low : ∀ (k : Nat) (b : Bk) s v, bs[k]? = some b → B[k]? = some s → On s v → lastG bs F b.term v = true
  snd : ∀ (k : Nat) (b : Bk) s v, bs[k]? = some b → B[k]? = some s → On s v → LiveS bs (v : Int) k b.ins.length
theorem LSt.fsnd {bs : List Bk} {m : Nat} {B F : List (List Bool)} (hb : Bnd bs m) (h : LSt bs m B F) {k : Nat} {v : Nat} (ho : On (F.getD k []) v) : LiveS bs (v : Int) k 0 := by
  have hk : k < bs.length := by
    rcases Nat.lt_or_ge k bs.length with h1 | h1
    · exact h1
    · rw [List.getD_eq_getElem?_getD, List.getElem?_eq_none (by rw [h.fl]; exact h1)] at ho
      exact absurd ho on_nil
  have hbk := getD_noB hk
  have hbm := List.mem_of_getElem? hbk
  have hsk : B[k]? = some (B[k]'(by rw [h.bl]; exact hk)) := List.getElem?_eq_getElem _
  rcases h.ok k _ _ hbk hsk with ⟨_, h2⟩ | ⟨h1, h2⟩
  · rw [List.getD_eq_getElem?_getD, h2] at ho
    exact absurd ho on_nil
  · rw [List.getD_eq_getElem?_getD, h2] at ho
    have h3 := (backS_on (s := B[k]'(by rw [h.bl]; exact hk)) (fun i hi => by rw [h1]; exact hb.ins _ hbm i hi)).1 ho
    rcases h3 with h3 | ⟨h3, h4⟩
    · exact .hit (n := 0) hbk h3
    · have h5 := h.snd k _ _ v hbk hsk h4
      rw [LiveS.last hbk (Nat.le_refl _)] at h5
      rw [LiveS.cases hbk]
      exact .inr ⟨h3, h5⟩
def mu1 (m : Nat) (s : List Bool) : Nat := if s = [] then m + 1 else m - cntT s
def muL (m : Nat) (B : List (List Bool)) : Nat := (B.map (mu1 m)).sum
theorem sum_set : ∀ {l : List Nat} {k a x : Nat}, l[k]? = some a → x < a → (l.set k x).sum < l.sum
  | [], k, a, x, h, _ => by simp at h
  | b :: l, 0, a, x, h, hx => by
    simp only [List.getElem?_cons_zero, Option.some.injEq] at h
    subst h
    simp only [List.set_cons_zero, List.sum_cons]
    omega
  | b :: l, k + 1, a, x, h, hx => by
    have := sum_set (l := l) (k := k) (a := a) (x := x) (by simpa using h) hx
    simp only [List.set_cons_succ, List.sum_cons]
    omega
theorem lastG_mono {bs : List Bk} {F F' : List (List Bool)} (h : ∀ k v, On (F.getD k []) v → On (F'.getD k []) v) {t : Tm} {v : Nat} (hl : lastG bs F t v = true) : lastG bs F' t v = true := by
  rw [lastG_on] at hl ⊢
  exact hl.imp id fun ⟨e, he, h1, h2⟩ => ⟨e, he, h _ _ h1, h2⟩
theorem getD_set_on {F : List (List Bool)} {k j : Nat} {s : List Bool} {v : Nat} : On ((F.set k s).getD j []) v ↔ (j = k ∧ k < F.length ∧ On s v) ∨ (j ≠ k ∧ On (F.getD j []) v) := by
  rw [List.getD_eq_getElem?_getD, List.getD_eq_getElem?_getD, List.getElem?_set]
  by_cases e : k = j
  · subst e
    rw [if_pos rfl]
    by_cases hk : k < F.length
    · simp [hk]
    · rw [if_neg hk]
      simp only [Option.getD_none, on_nil, false_iff, not_or]
      exact ⟨fun h => hk h.2.1, fun h => h.1 rfl⟩
  · rw [if_neg e]
    have : j ≠ k := fun h => e h.symm
    simp [this]
/-- one block is looked at again -/
theorem LSt.step {bs : List Bk} {m : Nat} {B F : List (List Bool)} (hb : Bnd bs m) (hm : 0 < m) (h : LSt bs m B F) {k : Nat} {b : Bk} {s : List Bool} (hk : bs[k]? = some b) (hs : B[k]? = some s) (hne : s = [] ∨ tab m (lastG bs F b.term) ≠ s) :
    LSt bs m (B.set k (tab m (lastG bs F b.term))) (F.set k (backS b.ins (tab m (lastG bs F b.term)))) ∧ muL m (B.set k (tab m (lastG bs F b.term))) < muL m B := by
  obtain ⟨nx, hnx⟩ : ∃ nx, tab m (lastG bs F b.term) = nx := ⟨_, rfl⟩
  have hnl : nx.length = m := by rw [← hnx, tab_length]
  have hno : ∀ v, On nx v ↔ v < m ∧ lastG bs F b.term v = true := fun v => by rw [← hnx, tab_on]
  rw [hnx] at hne ⊢
  have hkl := (List.getElem?_eq_some_iff.1 hk).1
  have hins : ∀ i ∈ b.ins, InLt m i := hb.ins b (List.mem_of_getElem? hk)
  have hsub : ∀ v, On s v → On nx v := fun v hv => by
    rw [hno]
    refine ⟨?_, h.low k b s v hk hs hv⟩
    rcases h.ok k b s hk hs with ⟨h1, _⟩ | ⟨h1, _⟩
    · rw [h1] at hv; exact absurd hv on_nil
    · have := hv.lt
      omega
  have hFm : ∀ j v, On (F.getD j []) v → On ((F.set k (backS b.ins nx)).getD j []) v := fun j v hv => by
    rw [getD_set_on]
    by_cases e : j = k
    · subst e
      refine .inl ⟨rfl, by rw [h.fl]; exact hkl, ?_⟩
      rcases h.ok j b s hk hs with ⟨h1, h2⟩ | ⟨h1, h2⟩
      · rw [List.getD_eq_getElem?_getD, h2] at hv
        exact absurd hv on_nil
      · rw [List.getD_eq_getElem?_getD, h2] at hv
        have h3 := (backS_on (s := s) (v := v) (fun i hi => by rw [h1]; exact hins i hi)).1 hv
        exact (backS_on (fun i hi => by rw [hnl]; exact hins i hi)).2 (h3.imp id fun h4 => ⟨h4.1, hsub v h4.2⟩)
    · exact .inr ⟨e, hv⟩
  refine ⟨⟨by rw [List.length_set]; exact h.bl, by rw [List.length_set]; exact h.fl, fun j c t hj ht => ?_, fun j c t v hj ht hv => ?_, fun j c t v hj ht hv => ?_⟩, ?_⟩
  · rw [List.getElem?_set] at ht ⊢
    by_cases e : k = j
    · subst e
      rw [if_pos rfl, if_pos (by rw [h.bl]; exact hkl)] at ht
      rw [hk] at hj
      obtain rfl := Option.some.inj hj
      obtain rfl := Option.some.inj ht
      right
      exact ⟨hnl, by rw [if_pos rfl, if_pos (by rw [h.fl]; exact hkl)]⟩
    · rw [if_neg e] at ht ⊢
      exact h.ok j c t hj ht
  · refine lastG_mono hFm ?_
    rw [List.getElem?_set] at ht
    by_cases e : k = j
    · subst e
      rw [if_pos rfl, if_pos (by rw [h.bl]; exact hkl)] at ht
      rw [hk] at hj
      obtain rfl := Option.some.inj hj
      obtain rfl := Option.some.inj ht
      exact ((hno v).1 hv).2
    · rw [if_neg e] at ht
      exact h.low j c t v hj ht hv
  · rw [List.getElem?_set] at ht
    by_cases e : k = j
    · subst e
      rw [if_pos rfl, if_pos (by rw [h.bl]; exact hkl)] at ht
      rw [hk] at hj
      obtain rfl := Option.some.inj hj
      obtain rfl := Option.some.inj ht
      rw [LiveS.last hk (Nat.le_refl _)]
      refine (lastG_on.1 ((hno v).1 hv).2).imp id fun ⟨e, he, h1, h2⟩ => ?_
      have hee := hb.edge _ (List.mem_of_getElem? hk) e he
      exact ⟨e, he, _, getD_noB (by omega), h2, h.fsnd hb h1⟩
    · rw [if_neg e] at ht
      exact h.snd j c t v hj ht hv
  · unfold muL
    rw [List.map_set]
    refine sum_set (a := mu1 m s) (by rw [List.getElem?_map, hs]; rfl) ?_
    have hnn : nx ≠ [] := fun e => by rw [e] at hnl; simp at hnl; omega
    unfold mu1
    rw [if_neg hnn]
    rcases h.ok k b s hk hs with ⟨h1, _⟩ | ⟨h1, _⟩
    · rw [if_pos h1]; omega
    · have hsn : s ≠ [] := fun e => by rw [e] at h1; simp at h1; omega
      rw [if_neg hsn]
      have hle : Le s nx := ⟨h1.trans hnl.symm, hsub⟩
      have h2 := le_count hle
      have h3 := cntT_le nx
      have h4 : cntT s ≠ cntT nx := fun e => by
        rcases hne with h5 | h5
        · exact hsn h5
        · exact h5 (h2.2 e).symm
      omega
/-- nothing changes any more -/
def Stable (bs : List Bk) (m : Nat) (B F : List (List Bool)) (k : Nat) : Prop := ∀ (j : Nat) (b : Bk) s, k ≤ j → bs[j]? = some b → B[j]? = some s → s ≠ [] ∧ tab m (lastG bs F b.term) = s
theorem live_bound {bs : List Bk} {m : Nat} (hb : Bnd bs m) {v : Int} {k n : Nat} (h : LiveS bs v k n) : 0 ≤ v ∧ v < (m : Int) := by
  have hscan : ∀ l : List In, (∀ i ∈ l, InLt m i) → scanI v l = some true → 0 ≤ v ∧ v < (m : Int) := by
    intro l
    induction l with
    | nil => intro _ h; cases h
    | cons i l ih =>
      intro hl hs
      rw [scanI] at hs
      split at hs
      · exact (hl i (.head _)).2 v (by assumption)
      · split at hs
        · cases hs
        · exact ih (fun j hj => hl j (.tail _ hj)) hs
  induction h with
  | @hit k n b hk hs => exact hscan _ (fun i hi => hb.ins b (List.mem_of_getElem? hk) i (List.mem_of_mem_drop hi)) hs
  | @term k n b hk hs hv => exact hb.term b (List.mem_of_getElem? hk) v hv
  | edge _ _ _ _ _ _ ih => exact ih
theorem live_done {bs : List Bk} {m : Nat} {B F : List (List Bool)} (hb : Bnd bs m) (h : LSt bs m B F) (hst : Stable bs m B F 0) {k n : Nat} {b : Bk} {s : List Bool} (hk : bs[k]? = some b) (hs : B[k]? = some s) (hn : n ≤ b.ins.length) (v : Nat) :
    On (backS (b.ins.drop n) s) v ↔ LiveS bs (v : Int) k n := by
  have hlen : ∀ {k : Nat} {b : Bk} {s : List Bool}, bs[k]? = some b → B[k]? = some s → s.length = m ∧ F[k]? = some (backS b.ins s) := fun {k b s} hk hs => by
    rcases h.ok k b s hk hs with ⟨h1, _⟩ | h1
    · exact absurd h1 (hst k b s (Nat.zero_le _) hk hs).1
    · exact h1
  have hon : ∀ {k : Nat} {b : Bk} {s : List Bool} (n v : Nat), bs[k]? = some b → B[k]? = some s → (On (backS (b.ins.drop n) s) v ↔ scanI (v : Int) (b.ins.drop n) = some true ∨ (scanI (v : Int) (b.ins.drop n) = none ∧ On s v)) := fun {k b s} n v hk hs =>
    backS_on fun i hi => by rw [(hlen hk hs).1]; exact hb.ins b (List.mem_of_getElem? hk) i (List.mem_of_mem_drop hi)
  constructor
  · intro ho
    rw [LiveS.cases hk]
    refine ((hon n v hk hs).1 ho).imp id fun ⟨h1, h2⟩ => ⟨h1, ?_⟩
    exact (LiveS.last hk (Nat.le_refl _)).1 (h.snd k b s v hk hs h2)
  · intro hl
    generalize hvv : (v : Int) = vv at hl
    induction hl generalizing b s with
    | @hit k n b2 hk2 h2 =>
      rw [hk] at hk2
      obtain rfl := Option.some.inj hk2
      subst hvv
      exact (hon n v hk hs).2 (.inl h2)
    | @term k n b2 hk2 h2 h3 =>
      rw [hk] at hk2
      obtain rfl := Option.some.inj hk2
      subst hvv
      refine (hon n v hk hs).2 (.inr ⟨h2, ?_⟩)
      rw [← (hst k b s (Nat.zero_le _) hk hs).2, tab_on]
      have := hb.term b (List.mem_of_getElem? hk) _ h3
      exact ⟨by omega, lastG_on.2 (.inl h3)⟩
    | @edge k n b2 b' e hk2 h2 he hb' hp h3 ih =>
      rw [hk] at hk2
      obtain rfl := Option.some.inj hk2
      subst hvv
      have hjl := (List.getElem?_eq_some_iff.1 hb').1
      obtain ⟨s', hs'⟩ : ∃ s', B[e.block.toNat]? = some s' := ⟨_, List.getElem?_eq_getElem (by rw [h.bl]; exact hjl)⟩
      have h4 := ih hb' hs' (Nat.zero_le _)
      have h5 := live_bound hb h3
      refine (hon n v hk hs).2 (.inr ⟨h2, ?_⟩)
      rw [← (hst k b s (Nat.zero_le _) hk hs).2, tab_on]
      refine ⟨by omega, lastG_on.2 (.inr ⟨e, he, ?_, ?_⟩)⟩
      · rw [List.getD_eq_getElem?_getD, (hlen hb' hs').2]
        exact h4
      · rw [List.getD_eq_getElem?_getD, hb']
        exact hp
theorem LSt.init {bs : List Bk} {m : Nat} : LSt bs m (List.replicate bs.length []) (List.replicate bs.length []) where
  bl := by simp
  fl := by simp
  ok := fun k b s hk hs => by
    have hkl := (List.getElem?_eq_some_iff.1 hk).1
    rw [List.getElem?_replicate, if_pos hkl] at hs
    obtain rfl := Option.some.inj hs
    exact .inl ⟨rfl, by rw [List.getElem?_replicate, if_pos hkl]⟩
  low := fun k b s v hk hs ho => by
    have hkl := (List.getElem?_eq_some_iff.1 hk).1
    rw [List.getElem?_replicate, if_pos hkl] at hs
    obtain rfl := Option.some.inj hs
    exact absurd ho on_nil
  snd := fun k b s v hk hs ho => by
    have hkl := (List.getElem?_eq_some_iff.1 hk).1
    rw [List.getElem?_replicate, if_pos hkl] at hs
    obtain rfl := Option.some.inj hs
    exact absurd ho on_nil
end Go.Ss

/- Plain: the depth-first search by recursion and by a stack. No program in sight. No condition. -/
namespace Go.Ss
set_option linter.unusedVariables false
set_option linter.unusedSimpArgs false
abbrev VS := List Bool × List Int
/-- the blocks that follow a block -/
def nxt (G : List (List Int)) (k : Nat) : List Int := G.getD k []
def vis (G : List (List Int)) : Nat → Nat → VS → VS
  | 0, _, st => st
  | f + 1, k, st =>
    (((nxt G k).foldl (fun st e => if st.1.getD e.toNat true then st else vis G f e.toNat st) (st.1.set k true, st.2)).1,
     ((nxt G k).foldl (fun st e => if st.1.getD e.toNat true then st else vis G f e.toNat st) (st.1.set k true, st.2)).2 ++ [(k : Int)])
def vstep (G : List (List Int)) (f : Nat) (st : VS) (e : Int) : VS := if st.1.getD e.toNat true then st else vis G f e.toNat st
def vfold (G : List (List Int)) (f : Nat) (st : VS) (l : List Int) : VS := l.foldl (vstep G f) st
theorem vis_succ (G : List (List Int)) (f k : Nat) (st : VS) : vis G (f + 1) k st = ((vfold G f (st.1.set k true, st.2) (nxt G k)).1, (vfold G f (st.1.set k true, st.2) (nxt G k)).2 ++ [(k : Int)]) := rfl
theorem vfold_nil (G : List (List Int)) (f : Nat) (st : VS) : vfold G f st [] = st := rfl
theorem vfold_cons (G : List (List Int)) (f : Nat) (st : VS) (e : Int) (l : List Int) : vfold G f st (e :: l) = vfold G f (vstep G f st e) l := rfl
def unseen (S : List Bool) : Nat := S.count false
theorem unseen_set : ∀ {S : List Bool} {k : Nat}, S[k]? = some false → unseen (S.set k true) + 1 = unseen S
  | [], k, h => by simp at h
  | b :: S, 0, h => by
    simp at h
    subst h
    simp [unseen]
  | b :: S, k + 1, h => by
    have := unseen_set (S := S) (k := k) (by simpa using h)
    simp only [unseen, List.set_cons_succ, List.count_cons] at this ⊢
    omega
theorem unseen_le (S : List Bool) : unseen S ≤ S.length := List.count_le_length
theorem getD_false {S : List Bool} {k : Nat} (h : ¬ S.getD k true = true) : S[k]? = some false := by
  rw [List.getD_eq_getElem?_getD] at h
  cases hk : S[k]? with
  | none => rw [hk] at h; exact absurd rfl h
  | some b => rw [hk] at h; cases b <;> simp_all
theorem unseen_pos {S : List Bool} {k : Nat} (h : S[k]? = some false) : 0 < unseen S := by
  have := unseen_set h
  omega
/-- marks are only added; the length stays -/
structure VLe (s t : VS) : Prop where
  len : t.1.length = s.1.length
  un : unseen t.1 ≤ unseen s.1
  le : ∀ i : Nat, s.1[i]? = some true → t.1[i]? = some true
  pre : ∃ r, t.2 = s.2 ++ r
theorem VLe.refl (s : VS) : VLe s s := ⟨rfl, Nat.le_refl _, fun _ h => h, [], by simp⟩
theorem VLe.trans {s t u : VS} (h : VLe s t) (h' : VLe t u) : VLe s u := ⟨h'.len.trans h.len, Nat.le_trans h'.un h.un, fun i hi => h'.le i (h.le i hi), by
  obtain ⟨r, hr⟩ := h.pre
  obtain ⟨r', hr'⟩ := h'.pre
  exact ⟨r ++ r', by rw [hr', hr, List.append_assoc]⟩⟩
theorem VLe.mark {S : List Bool} {out : List Int} (k : Nat) : VLe (S, out) (S.set k true, out) := by
  refine ⟨by simp, ?_, fun i hi => ?_, [], by simp⟩
  · show unseen (S.set k true) ≤ unseen S
    cases h : S[k]? with
    | none =>
      rw [List.set_eq_of_length_le (List.getElem?_eq_none_iff.1 h)]
      exact Nat.le_refl _
    | some b =>
      cases b with
      | false => have := unseen_set h; omega
      | true =>
        have : S.set k true = S := by
          apply List.ext_getElem?
          intro j
          rw [List.getElem?_set]
          split
          · rename_i e
            subst e
            rw [h, if_pos (List.getElem?_eq_some_iff.1 h).1]
          · rfl
        rw [this]
        exact Nat.le_refl _
  · show (S.set k true)[i]? = some true
    rw [List.getElem?_set]
    split
    · rename_i e
      subst e
      rw [if_pos (List.getElem?_eq_some_iff.1 hi).1]
    · exact hi
theorem vis_le (G : List (List Int)) : ∀ (f k : Nat) (st : VS), VLe st (vis G f k st)
  | 0, k, st => .refl st
  | f + 1, k, st => by
    have hf : ∀ (l : List Int) (s : VS), VLe s (vfold G f s l) := by
      intro l
      induction l with
      | nil => exact fun s => .refl s
      | cons e l ih =>
        intro s
        rw [vfold_cons]
        refine VLe.trans ?_ (ih _)
        unfold vstep
        split
        · exact .refl s
        · exact vis_le G f e.toNat s
    rw [vis_succ]
    have h1 := (VLe.mark (S := st.1) (out := st.2) k).trans (hf (nxt G k) _)
    obtain ⟨r, hr⟩ := h1.pre
    exact ⟨h1.len, h1.un, h1.le, r ++ [(k : Int)], by simp only [hr, List.append_assoc]⟩
theorem vfold_le (G : List (List Int)) (f : Nat) : ∀ (l : List Int) (s : VS), VLe s (vfold G f s l)
  | [], s => .refl s
  | e :: l, s => by
    rw [vfold_cons]
    refine VLe.trans ?_ (vfold_le G f l _)
    unfold vstep
    split
    · exact .refl s
    · exact vis_le G f e.toNat s
/-- fuel beyond the blocks that are not seen changes nothing -/
theorem vis_fuel (G : List (List Int)) : ∀ (f f' k : Nat) (st : VS), st.1[k]? = some false → unseen st.1 ≤ f → unseen st.1 ≤ f' → vis G f k st = vis G f' k st
  | 0, f', k, st, hk, h, _ => by have := unseen_pos hk; omega
  | f + 1, 0, k, st, hk, _, h => by have := unseen_pos hk; omega
  | f + 1, f' + 1, k, st, hk, h, h' => by
    have hfold : ∀ (l : List Int) (s : VS), unseen s.1 ≤ f → unseen s.1 ≤ f' → vfold G f s l = vfold G f' s l := by
      intro l
      induction l with
      | nil => exact fun s _ _ => rfl
      | cons e l ih =>
        intro s h1 h2
        rw [vfold_cons, vfold_cons]
        have he : vstep G f s e = vstep G f' s e := by
          unfold vstep
          split
          · rfl
          · rename_i hs
            exact vis_fuel G f f' e.toNat s (getD_false hs) h1 h2
        rw [he]
        have hle : VLe s (vstep G f' s e) := by
          unfold vstep
          split
          · exact .refl s
          · exact vis_le G f' e.toNat s
        exact ih _ (Nat.le_trans hle.un h1) (Nat.le_trans hle.un h2)
    have h1 := unseen_set hk
    rw [vis_succ, vis_succ, hfold (nxt G k) (st.1.set k true, st.2) (by simp only; omega) (by simp only; omega)]
/-- the search, with fuel that does -/
def visC (G : List (List Int)) (k : Nat) (st : VS) : VS := vis G (st.1.length + 1) k st
def stepC (G : List (List Int)) (st : VS) (e : Int) : VS := if st.1.getD e.toNat true then st else visC G e.toNat st
def foldC (G : List (List Int)) (st : VS) (l : List Int) : VS := l.foldl (stepC G) st
theorem foldC_cons (G : List (List Int)) (st : VS) (e : Int) (l : List Int) : foldC G st (e :: l) = foldC G (stepC G st e) l := rfl
theorem visC_le (G : List (List Int)) (k : Nat) (st : VS) : VLe st (visC G k st) := vis_le G _ k st
theorem stepC_le (G : List (List Int)) (st : VS) (e : Int) : VLe st (stepC G st e) := by
  unfold stepC
  split
  · exact .refl st
  · exact visC_le G e.toNat st
theorem foldC_le (G : List (List Int)) : ∀ (l : List Int) (s : VS), VLe s (foldC G s l)
  | [], s => .refl s
  | e :: l, s => by
    rw [foldC_cons]
    exact (stepC_le G s e).trans (foldC_le G l _)
theorem vfold_foldC (G : List (List Int)) (f : Nat) : ∀ (l : List Int) (s : VS), unseen s.1 ≤ f → vfold G f s l = foldC G s l
  | [], s, _ => rfl
  | e :: l, s, h => by
    have he : vstep G f s e = stepC G s e := by
      unfold vstep stepC
      split
      · rfl
      · rename_i hs
        exact vis_fuel G f _ e.toNat s (getD_false hs) h (by have := unseen_le s.1; omega)
    rw [vfold_cons, foldC_cons, he, vfold_foldC G f l _ (Nat.le_trans (stepC_le G s e).un h)]
theorem visC_eq (G : List (List Int)) {k : Nat} {S : List Bool} {out : List Int} (hk : S[k]? = some false) : visC G k (S, out) = ((foldC G (S.set k true, out) (nxt G k)).1, (foldC G (S.set k true, out) (nxt G k)).2 ++ [(k : Int)]) := by
  have h1 := unseen_set hk
  have h2 := unseen_le S
  unfold visC
  rw [vis_succ, vfold_foldC G _ _ _ (by simp only; omega)]
theorem stepC_seen {G : List (List Int)} {st : VS} {e : Int} (h : st.1[e.toNat]? = some true) : stepC G st e = st := by
  unfold stepC
  rw [List.getD_eq_getElem?_getD, h]
  rfl
theorem stepC_new {G : List (List Int)} {st : VS} {e : Int} (h : st.1[e.toNat]? = some false) : stepC G st e = visC G e.toNat st := by
  unfold stepC
  rw [List.getD_eq_getElem?_getD, h]
  rfl
/-! ### by a stack -/
/-- what a stack of blocks with their next edges comes to; the last element is the top -/
def run (G : List (List Int)) : List (Nat × Nat) → VS → VS
  | [], st => st
  | p :: r, st => run G r ((foldC G st ((nxt G p.1).drop p.2)).1, (foldC G st ((nxt G p.1).drop p.2)).2 ++ [(p.1 : Int)])
theorem run_pop {G : List (List Int)} {b j : Nat} {r : List (Nat × Nat)} {S : List Bool} {out : List Int} (h : (nxt G b).length ≤ j) : run G ((b, j) :: r) (S, out) = run G r (S, out ++ [(b : Int)]) := by
  rw [run, List.drop_eq_nil_of_le h]
  rfl
theorem run_seen {G : List (List Int)} {b j : Nat} {r : List (Nat × Nat)} {S : List Bool} {out : List Int} {e : Int} (h : (nxt G b)[j]? = some e) (hs : S[e.toNat]? = some true) : run G ((b, j) :: r) (S, out) = run G ((b, j + 1) :: r) (S, out) := by
  obtain ⟨h1, rfl⟩ := List.getElem?_eq_some_iff.1 h
  rw [run, run]
  simp only
  rw [List.drop_eq_getElem_cons h1, foldC_cons, stepC_seen hs]
theorem run_new {G : List (List Int)} {b j : Nat} {r : List (Nat × Nat)} {S : List Bool} {out : List Int} {e : Int} (h : (nxt G b)[j]? = some e) (hs : S[e.toNat]? = some false) : run G ((b, j) :: r) (S, out) = run G ((e.toNat, 0) :: (b, j + 1) :: r) (S.set e.toNat true, out) := by
  obtain ⟨h1, rfl⟩ := List.getElem?_eq_some_iff.1 h
  rw [run, run]
  simp only
  rw [List.drop_eq_getElem_cons h1, foldC_cons, stepC_new hs, visC_eq G hs, List.drop_zero, run]
theorem run_start {G : List (List Int)} {k : Nat} {S : List Bool} {out : List Int} (hk : S[k]? = some false) : run G [(k, 0)] (S.set k true, out) = visC G k (S, out) := by
  rw [visC_eq G hk]
  simp [run]
/-- a measure for the stack's rounds -/
def muR (G : List (List Int)) (D : Nat) (S : List Bool) (st : List (Nat × Nat)) : Nat := unseen S * (D + 2) + (st.map fun p => (nxt G p.1).length - p.2 + 1).sum
end Go.Ss

/- The walks of the reference's visit and After. Conditions: none. -/
namespace Go.Eng
open Go.RowKit
set_option linter.unusedVariables false
theorem Cls.back23 {H : List Item} {S : List World} {w : World} {x y a b c : Item} (h : Cls (x :: y :: a :: b :: c :: H) S w) : Cls (a :: b :: c :: x :: y :: H) S w := h.perm (List.Perm.append_right H (List.perm_append_comm (l₁ := [x, y]) (l₂ := [a, b, c])))
theorem Cls.back32 {H : List Item} {S : List World} {w : World} {x y a b c : Item} (h : Cls (a :: b :: c :: x :: y :: H) S w) : Cls (x :: y :: a :: b :: c :: H) S w := h.perm (List.Perm.append_right H (List.perm_append_comm (l₁ := [a, b, c]) (l₂ := [x, y])))
end Go.Eng
namespace Go.Ss
open Go.Eng Go.RowKit
set_option linter.unusedVariables false
set_option linter.unusedSimpArgs false
/-- outputs and marks: each mark gives one output -/
theorem vis_cnt (G : List (List Int)) : ∀ (f k : Nat) (st : VS), st.1[k]? = some false → (vis G f k st).2.length + unseen (vis G f k st).1 = st.2.length + unseen st.1
  | 0, k, st, _ => rfl
  | f + 1, k, st, hk => by
    have hf : ∀ (l : List Int) (s : VS), (vfold G f s l).2.length + unseen (vfold G f s l).1 = s.2.length + unseen s.1 := by
      intro l
      induction l with
      | nil => exact fun s => rfl
      | cons e l ih =>
        intro s
        rw [vfold_cons, ih]
        unfold vstep
        split
        · rfl
        · rename_i hs
          exact vis_cnt G f e.toNat s (getD_false hs)
    have h1 := hf (nxt G k) (st.1.set k true, st.2)
    have h2 := unseen_set hk
    rw [vis_succ]
    simp only [List.length_append, List.length_cons, List.length_nil] at h1 ⊢
    omega
theorem visC_cnt {G : List (List Int)} {k : Nat} {st : VS} (h : st.1[k]? = some false) : (visC G k st).2.length + unseen (visC G k st).1 = st.2.length + unseen st.1 := vis_cnt G _ k st h
theorem foldC_cnt (G : List (List Int)) : ∀ (l : List Int) (s : VS), (foldC G s l).2.length + unseen (foldC G s l).1 = s.2.length + unseen s.1
  | [], s => rfl
  | e :: l, s => by
    rw [foldC_cons, foldC_cnt G l]
    unfold stepC
    split
    · rfl
    · rename_i hs
      exact visC_cnt (getD_false hs)
theorem foldC_snoc (G : List (List Int)) (s : VS) (l : List Int) (e : Int) : foldC G s (l ++ [e]) = stepC G (foldC G s l) e := by
  unfold foldC
  rw [List.foldl_append]
  rfl
end Go.Ss
namespace Go.Proofs.Ytehelljmaiophaa.ss
set_option maxRecDepth 100000
open Go.Eng Go.RowKit Go.Ss
set_option linter.unusedVariables false
set_option linter.unusedSimpArgs false
theorem visit_calls (s0 : World) (es : List (Bk × BkY)) (q : Option Addr) (cap : Nat) (nm : Int) (he : Arr bkR s0 (low s0) es q) (hlen : es.length ≤ 128) (hE : ∀ p ∈ es, ∀ e ∈ p.1.term.to_, 1 ≤ e.block ∧ e.block < (es.length : Int)) (bS b4 B : Nat) (hbS : s0.heap.size ≤ bS) (hb4 : s0.heap.size ≤ b4) (hB : s0.heap.size ≤ B) (SS : List World) (hs0 : s0 ∈ SS) (hBS : ∃ s ∈ SS, B ≤ s.heap.size) :
    ∀ (n k : Nat) (S : List Bool) (out : List Int) (O : Nat → Prop) (qo : Option Addr) (co : Nat) (H : List Eng.Item) (w : World), unseen S ≤ n → S.length = es.length → S[k]? = some false → out.length + unseen S ≤ es.length → (∀ k, k < s0.heap.size → NotOwned H k) →
      Cls (blk bS 4 (bls S) :: blk b4 35 [.slice qo out.length co] :: row B O qo out.length co 3 1 (ints out) :: H) SS w →
      Calls Try.prog 89 [.agg #[.int .i64 nm, .slice q es.length cap], .int .i64 (k : Int), .slice (some ⟨bS, 0, none⟩) es.length es.length, .pointer (some ⟨b4, 0, none⟩)].toArray w fun e w' => ∃ (O' : Nat → Prop) (qo' : Option Addr) (co' : Nat), e = .returned (.tuple #[]) ∧ Cls (blk bS 4 (bls (visC (graphB (es.map Prod.fst)) k (S, out)).1) :: blk b4 35 [.slice qo' (visC (graphB (es.map Prod.fst)) k (S, out)).2.length co'] :: row B O' qo' (visC (graphB (es.map Prod.fst)) k (S, out)).2.length co' 3 1 (ints (visC (graphB (es.map Prod.fst)) k (S, out)).2) :: H) SS w'
  | 0, k, S, out, O, qo, co, H, w, hn, _, hk, _, _, _ => by have := unseen_pos hk; omega
  | n + 1, k, S, out, O, qo, co, H, w, hn, hSl, hk, hcnt, hno, hc => by
    obtain ⟨G, hG⟩ : ∃ G, graphB (es.map Prod.fst) = G := ⟨_, rfl⟩
    have ih := visit_calls s0 es q cap nm he hlen hE bS b4 B hbS hb4 hB SS hs0 hBS n
    rw [hG] at ih ⊢
    have hkl : k < es.length := by rw [← hSl]; exact (List.getElem?_eq_some_iff.1 hk).1
    have hun := unseen_set hk
    rw [visC_eq G hk]
    obtain ⟨a, p, hqa, hab, hp, hcell, hok⟩ := he.get hkl
    have hab : a.block < s0.heap.size := hab
    have hcell : CellsAt s0 (a.add (k * 7)) [.slice p.2.p.1 p.1.params.length p.2.p.2, .slice p.2.i.1 p.1.ins.length p.2.i.2, .int .i64 p.1.term.kind, .int .i64 p.1.term.arg, .int .i64 p.1.term.n, .slice p.2.t.c.1 p.1.term.cases.length p.2.t.c.2, .slice p.2.t.t.1 p.1.term.to_.length p.2.t.t.2] := hcell
    have hpE := hE p (List.mem_of_getElem? hp)
    have hcT : s0.cell? ⟨(a.add (k * 7)).block, (a.add (k * 7)).off + 2 + 4, none⟩ = some (.slice p.2.t.t.1 p.1.term.to_.length p.2.t.t.2) := hcell 6 _ rfl
    have htl := hok.t.tl
    obtain ⟨ts, hts, harr⟩ := hok.t.t
    have htl2 : p.1.term.to_.length = ts.length := by rw [← hts, List.length_map]
    obtain ⟨l, hl⟩ : ∃ l, p.1.term.to_.map Ed.block = l := ⟨_, rfl⟩
    have hnx : nxt G k = l := by
      unfold nxt
      rw [List.getD_eq_getElem?_getD, ← hG, ← hl]
      simp [graphB, hp]
    have hll : l.length = ts.length := by rw [← hl, List.length_map, htl2]
    rw [hnx]
    subst hqa
    refine enter Try.func89 rfl Try.ntmps89 rfl hc ?_
    (simp only [argEnv, Nat.zero_add, Nat.reduceAdd])
    apply W.sr
    apply OL.box; rfl; rfl; exact CellsL.agg; intro bk hbk
    apply OL.nsr
    apply omv; rfl; rfl
    apply omv; rfl; rfl
    apply oop; rfl; apply Pev.idxB; rfl; exact yes; rfl; exact yes; rfl; intro hcond; omega; rfl
    revert bk
    intro bF hbF
    have hbF1 : AllLe SS bF := by first | exact hbF | exact AllLe.mk hc
    have hbF2 : s0.heap.size ≤ bF := hbF1.mem s0 hs0
    (apply OL.storeI); rfl; rfl; rfl; rfl; rfl; (exact Swap.au); (rw [bls_length]; omega)
    rw [show (bls S).set (0 + (k : Int).toNat * 1) (.bool true) = bls (S.set k true) by rw [show 0 + (k : Int).toNat * 1 = k by omega]; exact bls_set _ _ _]
    apply OL.nx
    apply W.seq
    apply W.sr
    apply ofa; rfl; rfl; rfl
    apply old; rfl; rfl; exact .head _; rfl; rfl
    apply omv; rfl; rfl
    apply oop; rfl; apply Pev.idx; rfl; exact yes; rfl; exact yes; rfl; rfl; intro hcond; omega
    apply oop; rfl; apply Pev.fldA; rfl; exact yes; rfl
    apply ofa; rfl; rfl; rfl
    apply oop; rfl; apply Pev.load_kept; rfl; exact yes; assumption; rfl; intro hcond; assumption; intro hcond; (rw [add_block]; assumption); intro hcond; exact NotOwned.au
    apply oop; rfl; apply Pev.len_slice; rfl; exact yes; rfl
    apply omv; rfl; rfl
    apply OL.nx
    apply W.block
    refine W.loop (G := Nat × GR) (fun g => g.1 ≤ ts.length) (fun g => ts.length - g.1)
      (fun g => [(1, true, .int .i64 (k : Int)), (2, true, .slice (some ⟨bS, 0, none⟩) es.length es.length), (3, true, .pointer (some ⟨b4, 0, none⟩)), (4, true, .pointer (some ⟨bF, 0, none⟩)), (19, true, .slice p.2.t.t.1 ts.length p.2.t.t.2), (20, true, .int .i64 (ts.length : Int)), (21, true, .int .i64 (g.1 : Int))])
      (fun g => Cls (blk bF 24 [.int .i64 nm, .slice (some a) es.length cap] :: blk bS 4 (bls (foldC G (S.set k true, out) (l.take g.1)).1) :: blk b4 35 [.slice g.2.q (foldC G (S.set k true, out) (l.take g.1)).2.length g.2.c] :: row B g.2.O g.2.q (foldC G (S.set k true, out) (l.take g.1)).2.length g.2.c 3 1 (ints (foldC G (S.set k true, out) (l.take g.1)).2) :: H) SS) (0, ⟨O, qo, co⟩) (by simp) (by rw [htl2]; exact Sub.au) (fun w' hw' => hw') ?_
    rintro ⟨j, ⟨Op, qp, cp⟩⟩ hj
    simp only at hj ⊢
    have hle := foldC_le G (l.take j) (S.set k true, out)
    have hct := foldC_cnt G (l.take j) (S.set k true, out)
    have hln := hle.len
    have hun2 := hle.un
    simp only [List.length_set] at hct hln hun2
    obtain ⟨st, hst⟩ : ∃ st, foldC G (S.set k true, out) (l.take j) = st := ⟨_, rfl⟩
    rw [hst] at hct hln hun2 ⊢
    apply W.sr
    apply obn; rfl; rfl; rfl; apply Bin.lss
    apply OL.nx
    apply W.seq
    (refine W.cnd (fun hlt => ?_) (fun hlt => ?_)) <;> (try (exfalso; first | omega | exact hlt trivial | contradiction))
    · have hjl : j < ts.length := by omega
      obtain ⟨ae, u, hqt, hatb, hu, hcu, hoku⟩ := harr.get hjl
      have hatb : ae.block < s0.heap.size := hatb
      have hcu : CellsAt s0 (ae.add (j * 2)) [.int .i64 u.1.block, .slice u.2.1 u.1.args.length u.2.2] := hcu
      have hto : p.1.term.to_[j]? = some u.1 := by rw [← hts, List.getElem?_map, hu]; rfl
      have hlj : l[j]? = some u.1.block := by rw [← hl, List.getElem?_map, hto]; rfl
      obtain ⟨hb0, hb1⟩ := hpE u.1 (List.mem_of_getElem? hto)
      obtain ⟨m, hm⟩ : ∃ m : Nat, u.1.block = (m : Int) := ⟨u.1.block.toNat, by omega⟩
      have hnst : foldC G (S.set k true, out) (l.take (j + 1)) = stepC G st (m : Int) := by
        rw [List.take_add_one, hlj, Option.toList_some, foldC_snoc, hst, hm]
      have hmS : st.1[m]? = some (st.1.getD m false) := getD_true (by omega)
      have hmv : (bls st.1)[0 + (m : Int).toNat * 1]? = some (.bool (st.1.getD m false)) := by
        rw [show 0 + (m : Int).toNat * 1 = m by omega]
        exact bls_get hmS
      rw [hm] at hcu
      rw [hqt]
      generalize hz : st.1.getD m false = z at *
      apply W.sk
      apply W.sb
      apply W.sr
      apply oop; rfl; apply Pev.idx; rfl; exact yes; rfl; exact yes; rfl; rfl; intro hcond; omega
      apply oop; rfl; apply Pev.load_keptA; rfl; exact yes; assumption; rfl; intro hcond; assumption; rfl; intro hcond; (rw [add_block]; assumption); intro hcond; exact NotOwned.au
      apply OL.alloc; rfl; rfl; exact CellsL.agg; intro bk hbk
      apply OL.storeB; rfl; rfl; exact CellsL.agg; rfl; rfl; rfl; exact Swap.au; exact Put.au
      apply OL.nsr
      apply omv; rfl; rfl
      apply ofa; rfl; rfl; rfl
      apply old; rfl; rfl; exact .head _; rfl; rfl
      apply oop; rfl; apply Pev.idxB; rfl; exact yes; rfl; exact yes; rfl; intro hcond; omega; rfl
      apply oop; rfl; apply Pev.load_blk; rfl; exact yes; exact .tail _ (.tail _ (.head _)); rfl; assumption
      apply oop; rfl; apply Pev.not; rfl; exact yes
      apply OL.nx
      revert bk
      intro b9 hb9
      have hb91 : AllLe SS b9 := by first | exact hb9 | exact AllLe.mk hc
      have hb92 : s0.heap.size ≤ b9 := hb91.mem s0 hs0
      cases hzv : z with
      | true =>
        rw [hzv] at hmS
        refine W.cond rfl (fun h9 => by cases h9) (fun h9 => ?_)
        apply W.skip
        with_reducible apply At.in_normal
        with_reducible apply At.next
        apply W.reg
        apply obn; rfl; rfl; rfl; apply Bin.add_in; omega
        apply omv; rfl; rfl
        apply OL.nil
        exact At.again (j + 1, ⟨Op, qp, cp⟩) (by simp only; omega) (by simp only; omega) (by exact Sub.au) (fun w' hw' => by
          simp only
          rw [hnst, stepC_seen (by simpa using hmS)]
          exact hw'.thin (.any (fun k hk => by rw [show k = b9 from hk]; exact hb91) Thin.same))
      | false =>
        rw [hzv] at hmS
        refine W.cond rfl (fun h9 => ?_) (fun h9 => by cases h9)
        apply W.reg
        apply oop; rfl; apply Pev.load_blkA; rfl; exact yes; exact .tail _ (.head _); rfl; exact Take.au
        apply ofa; rfl; rfl; rfl
        apply old; rfl; rfl; exact .head _; rfl; rfl
        apply omv; rfl; rfl
        apply omv; rfl; rfl
        refine OL.callE (α := GR) (fun _ => .tuple #[]) (fun _ => True) (fun g => Cls (blk b9 105 [.int .i64 (m : Int), .slice u.2.1 u.1.args.length u.2.2] :: blk bF 24 [.int .i64 nm, .slice (some a) es.length cap] :: blk bS 4 (bls (visC G m (st.1, st.2)).1) :: blk b4 35 [.slice g.q (visC G m (st.1, st.2)).2.length g.c] :: row B g.O g.q (visC G m (st.1, st.2)).2.length g.c 3 1 (ints (visC G m (st.1, st.2)).2) :: H) SS) rfl rfl (by exact Args.au) (fun w2 hw2 => (ih m st.1 st.2 Op qp cp (blk b9 105 [.int .i64 (m : Int), .slice u.2.1 u.1.args.length u.2.2] :: blk bF 24 [.int .i64 nm, .slice (some a) es.length cap] :: H) w2 (by omega) (by omega) hmS (by omega) (fun k hk => NotOwned.blk (by omega) (NotOwned.blk (by omega) (hno k hk))) hw2.back23).mono fun e w3 ⟨O', qo', co', h1, h2⟩ => ⟨⟨O', qo', co'⟩, h1, trivial, h2.back32⟩) ?_
        rintro ⟨O1, q1, c1⟩ _
        apply OL.nil
        with_reducible apply At.in_normal
        with_reducible apply At.next
        apply W.reg
        apply obn; rfl; rfl; rfl; apply Bin.add_in; omega
        apply omv; rfl; rfl
        apply OL.nil
        exact At.again (j + 1, ⟨O1, q1, c1⟩) (by simp only; omega) (by simp only; omega) (by exact Sub.au) (fun w' hw' => by
          simp only
          rw [hnst, stepC_new (by simpa using hmS)]
          exact hw'.thin (.any (fun k hk => by rw [show k = b9 from hk]; exact hb91) Thin.same))
    · obtain rfl : j = ts.length := by omega
      have hlt : l.take ts.length = l := by rw [← hll, List.take_length]
      rw [hlt] at hst
      rw [hst]
      have hol : st.2.length ≤ 128 := by omega
      refine W.xt ?_
      with_reducible apply At.next
      apply W.reg
      apply omv; rfl; rfl
      apply omv; rfl; rfl
      apply oop; rfl; apply Pev.nil_ptr; rfl; exact yes
      apply old; rfl; rfl; exact .tail _ (.tail _ (.head _)); rfl; rfl
      apply omv; rfl; rfl
      apply OL.buildSlice; rfl; rfl; rfl; exact Elems.au; rfl; rfl; intro bk hbk
      apply OL.append; rfl; rfl; rfl; rfl; exact Hole.au; exact .head _; exact Take.au; rfl; rfl; assumption; omega; intro O1 g1 cap1
      apply oop; rfl; apply Pev.nil_ptr; rfl; exact yes
      apply OL.storeB; rfl; rfl; exact CellsL.one rfl; rfl; rfl; rfl; exact Swap.au; exact Put.au
      apply OL.nil
      refine At.end_ (At.fin0 rfl (fun w' hw' => ⟨O1, some ⟨g1, 0, none⟩, cap1, rfl, ?_⟩))
      simp only [List.length_append, List.length_cons, List.length_nil, ints_append]
      exact hw'.thin (.any (fun k hk => by rw [show k = bk from hk]; first | exact hbk | exact AllLe.mk hc) (.any (fun k hk => by rw [show k = bF from hk]; exact hbF1) Thin.same))
theorem After_calls (es : List (Bk × BkY)) (q : Option Addr) (cap : Nat) (nm : Int) (w : World) (he : Arr bkR w (low w) es q) (hlen : es.length ≤ 128) (h0 : 0 < es.length) (hE : ∀ p ∈ es, ∀ e ∈ p.1.term.to_, 1 ≤ e.block ∧ e.block < (es.length : Int)) :
    Calls Try.prog 41 [.agg #[.int .i64 nm, .slice q es.length cap]].toArray w fun e w' => ∃ (O : Nat → Prop) (g : Option Addr) (c : Nat), e = .returned (.slice g (visC (graphB (es.map Prod.fst)) 0 (List.replicate es.length false, [])).2.length c) ∧ Cls [row w.heap.size O g (visC (graphB (es.map Prod.fst)) 0 (List.replicate es.length false, [])).2.length c 3 1 (ints (visC (graphB (es.map Prod.fst)) 0 (List.replicate es.length false, [])).2)] [w] w' := by
  refine enter Try.func41 rfl Try.ntmps41 rfl (Cls.start w) ?_
  (simp only [argEnv, Nat.zero_add, Nat.reduceAdd])
  apply W.sr
  apply OL.box; rfl; rfl; exact CellsL.agg; (intro bk hbk; simp only [AllLe, and_true] at hbk)
  apply oas; rfl; rfl
  apply OL.nsr
  apply ofa; rfl; rfl; rfl
  apply old; rfl; rfl; exact .head _; rfl; rfl
  apply oop; rfl; apply Pev.len_slice; rfl; exact yes; rfl
  apply OL.makeSlice; rfl; rfl; rfl; rfl; rfl; rfl; rfl; omega; (intro bk hbk; simp only [AllLe, and_true] at hbk)
  apply oas; rfl; rfl
  apply OL.nsr
  apply OL.alloc; rfl; rfl; exact CellsL.one rfl; (intro bk hbk; simp only [AllLe, and_true] at hbk)
  apply OL.nsr
  apply oop; rfl; apply Pev.load_blkA; rfl; exact yes; exact .tail _ (.tail _ (.head _)); rfl; exact Take.au
  apply omv; rfl; rfl
  rw [bls_zero]
  rename_i bF hbF bS hbS
  revert bk
  intro b4 hb4
  have hbF1 : w.heap.size ≤ bF := by first | exact hbF | exact hbF.1
  have hbS1 : w.heap.size ≤ bS := by first | exact hbS | exact hbS.1
  have hb41 : w.heap.size ≤ b4 := by first | exact hb4 | exact hb4.1
  have hV := fun w2 => visit_calls w es q cap nm he hlen hE bS b4 w.heap.size hbS1 hb41 (Nat.le_refl _) [w] (.head _) ⟨w, .head _, Nat.le_refl _⟩ es.length 0 (List.replicate es.length false) [] (fun _ => False) none 0 [blk bF 24 [.int .i64 nm, .slice q es.length cap]] w2 (by have := unseen_le (List.replicate es.length false); simpa using this) (by simp) (by simp [h0]) (by have := unseen_le (List.replicate es.length false); simpa using this) (fun k hk => NotOwned.blk (by omega) NotOwned.nil)
  obtain ⟨st, hst⟩ : ∃ st, visC (graphB (es.map Prod.fst)) 0 (List.replicate es.length false, []) = st := ⟨_, rfl⟩
  rw [hst] at hV ⊢
  refine OL.callE (α := GR) (fun _ => .tuple #[]) (fun _ => True) (fun g => Cls [blk bS 4 (bls st.1), blk b4 35 [.slice g.q st.2.length g.c], row w.heap.size g.O g.q st.2.length g.c 3 1 (ints st.2), blk bF 24 [.int .i64 nm, .slice q es.length cap]] [w]) rfl rfl (by exact Args.au) (fun w2 hw2 => (hV w2 (hw2.flip.row_nil w.heap.size 3 1).back2).mono fun e w3 ⟨O', qo', co', h1, h2⟩ => ⟨⟨O', qo', co'⟩, h1, trivial, h2⟩) ?_
  rintro ⟨O1, q1, c1⟩ _
  simp only
  apply OL.nsr
  apply old; rfl; rfl; exact .tail _ (.head _); rfl; rfl
  apply oas; rfl; rfl
  apply OL.nx
  apply W.ret
  ((with_reducible apply At.fin1); rfl; rfl; intro w' hw')
  exact ⟨O1, q1, c1, rfl, hw'.thin (.any (fun k hk => by rw [show k = bS from hk]; exact ⟨hbS1, trivial⟩) (.any (fun k hk => by rw [show k = b4 from hk]; exact ⟨hb41, trivial⟩) (.keep (.any (fun k hk => by rw [show k = bF from hk]; exact ⟨hbF1, trivial⟩) Thin.nil))))⟩
end Go.Proofs.Ytehelljmaiophaa.ss

/- The walks of cfg's search with what Order hands it. Conditions: none. -/
namespace Go.Eng
open Go.RowKit
set_option linter.unusedVariables false
theorem AllLe.of {k : Nat} : ∀ {S : List World}, (∀ s ∈ S, s.heap.size ≤ k) → AllLe S k
  | [], _ => trivial
  | s :: S, h => ⟨h s (.head _), AllLe.of fun x hx => h x (.tail _ hx)⟩
section
variable {P : Program} {n : Nat} {l : Env} {H : List Item} {S : List World} {ops : Array Oper} {rest : List Oper} {Q : Exit → Act → World → Prop} {t ty : TypeId} {x y : Operand} {pos : String} {af : Array Edge}
/-- a store of one cell into a grown row of elements of any size -/
theorem OL.storeRs {g0 o p base m cap size : Nat} {O : Nat → Prop} {e : TypeId} {xs : List Value} {v : Value} {F : Item → List Item} (hx : evl l x = some (true, .pointer (some ⟨g0, o, none⟩))) (hy : evl l y = some (true, v)) (hv : v.cells = #[v])
    (hs : sizeN P t = some 1) (h1 : oneL [v] = true) (hH : Hole p H (row base O (some ⟨g0, 0, none⟩) m cap e size xs) F) (hl : o < xs.length)
    (kk : OL P n ops Q rest l (Cls (F (row base O (some ⟨g0, 0, none⟩) m cap e size (xs.set o v))) S)) : OL P n ops Q (⟨none, .store t x y, ty, pos, af, none⟩ :: rest) l (Cls H S) := by
  obtain ⟨hp, hF⟩ := hH.eq
  rw [hF] at kk
  refine OL.store_ (C' := Cls (H.set p (row base O (some ⟨g0, 0, none⟩) m cap e size (xs.set o v))) S) rfl rfl (fun a w hs' hc => ?_) kk
  have hi := hc.item (List.mem_of_getElem? hp)
  obtain ⟨hO, hxl, hor⟩ := hi
  rcases hor with ⟨h3, _⟩ | ⟨gg, cap', cur, h3, hb, hg, h4, h5, h6, h7⟩
  · cases h3
  · simp only [Value.slice.injEq, Option.some.injEq, Addr.mk.injEq] at h3
    obtain ⟨⟨rfl, _⟩, _, rfl⟩ := h3
    have hcl : o < cur.toList.length := by
      rw [← h7, List.length_take] at hl
      omega
    obtain ⟨w', hr', hh, hkp⟩ := run_storeAt_blk (P := P) (o := o) (vs := [v]) (cs := cur.toList) (t' := e) (w := w) (b := g0) (by simpa using hg) hs hv rfl (show o + 1 ≤ cur.toList.length from hcl) h1
    refine ⟨w', ?_, hc.turn p hp (j := row base O (some ⟨g0, 0, none⟩) m cap e size (xs.set o v)) ⟨hkp.os, hkp.tape, hkp.output, hkp.size, fun k hk hn => hkp.block k hk (fun e2 => hn (by rw [show k = g0 from e2]; exact ⟨hb, hO _ rfl⟩))⟩ ?_ (fun q hq => ⟨.inl hq, Nat.lt_of_lt_of_le (hc.lt _ (List.mem_of_getElem? hp) q hq) hkp.size⟩) (fun q hq => hq)⟩
    · simp only [execOp, hs'.eval hx rfl, hs'.eval hy rfl, Sem.run_bind, hr', Result.andThen_ok]; rfl
    · refine ⟨hO, by rw [List.length_set]; exact hxl, .inr ⟨g0, cap, (cur.toList.set o v).toArray, rfl, hb, hh, h4, h5, by simpa using h6, ?_⟩⟩
      rw [← h7]
      simp only [List.take_set]
end
end Go.Eng
namespace Go.Ss
open Go.Eng Go.RowKit
set_option linter.unusedVariables false
set_option linter.unusedSimpArgs false
def plc (p : Nat × Nat) : List Value := [.int .i64 (p.1 : Int), .int .i64 (p.2 : Int)]
theorem plc_len : ∀ p, (plc p).length = 2 := fun _ => rfl
theorem mu_pop {G : List (List Int)} {D : Nat} {S : List Bool} {p : Nat × Nat} {r : List (Nat × Nat)} : muR G D S r < muR G D S (p :: r) := by
  unfold muR
  rw [List.map_cons, List.sum_cons]
  omega
theorem mu_seen {G : List (List Int)} {D : Nat} {S : List Bool} {b j : Nat} {r : List (Nat × Nat)} (h : j < (nxt G b).length) : muR G D S ((b, j + 1) :: r) < muR G D S ((b, j) :: r) := by
  unfold muR
  simp only [List.map_cons, List.sum_cons]
  omega
theorem mu_new {G : List (List Int)} {D : Nat} {S : List Bool} {b j m : Nat} {r : List (Nat × Nat)} (h : j < (nxt G b).length) (hm : S[m]? = some false) (hD : (nxt G m).length ≤ D) : muR G D (S.set m true) ((m, 0) :: (b, j + 1) :: r) < muR G D S ((b, j) :: r) := by
  have h1 := unseen_set hm
  unfold muR
  simp only [List.map_cons, List.sum_cons]
  rw [← h1, Nat.succ_mul]
  omega
/-- a state of the search -/
structure SgS where
  st : List (Nat × Nat)
  S : List Bool
  out : List Int
  y : GR
  z : GR
/-- what holds of it -/
structure SInv (G : List (List Int)) (n : Nat) (fin : VS) (g : SgS) : Prop where
  run : Go.Ss.run G g.st (g.S, g.out) = fin
  len : g.S.length = n
  cnt : g.st.length + g.out.length + unseen g.S ≤ n
  ok : ∀ p ∈ g.st, p.1 < n ∧ p.2 ≤ (nxt G p.1).length
end Go.Ss
namespace Go.Proofs.Ytehelljmaiophaa.ss
set_option maxRecDepth 100000
open Go.Eng Go.RowKit Go.Ss
set_option linter.unusedVariables false
set_option linter.unusedSimpArgs false
theorem leave_calls (b5 B : Nat) (k : Int) (out : List Int) (O : Nat → Prop) (q : Option Addr) (c : Nat) (H : List Eng.Item) (SS : List World) (w : World) (hBS : ∃ s ∈ SS, B ≤ s.heap.size) (hout : out.length ≤ 1000)
    (hc : Cls (blk b5 35 [.slice q out.length c] :: row B O q out.length c 3 1 (ints out) :: H) SS w) :
    Calls Try.prog 87 [.int .i64 k, .pointer (some ⟨b5, 0, none⟩)].toArray w fun e w' => ∃ (O' : Nat → Prop) (q' : Option Addr) (c' : Nat), e = .returned (.tuple #[]) ∧ Cls (blk b5 35 [.slice q' (out ++ [k]).length c'] :: row B O' q' (out ++ [k]).length c' 3 1 (ints (out ++ [k])) :: H) SS w' := by
  refine enter Try.func87 rfl Try.ntmps87 rfl hc ?_
  (simp only [argEnv, Nat.zero_add, Nat.reduceAdd])
  apply W.reg
  apply old; rfl; rfl; exact .head _; rfl; rfl
  apply omv; rfl; rfl
  apply OL.buildSlice; rfl; rfl; rfl; exact Elems.au; rfl; rfl; intro bk hbk
  apply OL.append; rfl; rfl; rfl; rfl; exact Hole.au; exact .head _; exact Take.au; rfl; rfl; assumption; omega; intro O1 g1 cap1
  apply OL.storeB; rfl; rfl; exact CellsL.one rfl; rfl; rfl; rfl; exact Swap.au; exact Put.au
  apply OL.nil
  refine At.end_ (At.fin0 rfl (fun w' hw' => ⟨O1, some ⟨g1, 0, none⟩, cap1, rfl, ?_⟩))
  simp only [List.length_append, List.length_cons, List.length_nil, ints_append]
  exact hw'.thin (.any (fun k hk => by rw [show k = bk from hk]; first | exact hbk | exact AllLe.mk hc) Thin.same)
theorem search_calls (s0 : World) (es : List (Bk × BkY)) (q : Option Addr) (cap : Nat) (nm : Int) (he : Arr bkR s0 (low s0) es q) (hlen : es.length ≤ 128) (h0 : 0 < es.length) (hE : ∀ p ∈ es, (∀ e ∈ p.1.term.to_, 1 ≤ e.block ∧ e.block < (es.length : Int)) ∧ p.1.term.to_.length ≤ 257) (b5 B : Nat) (hb5 : s0.heap.size ≤ b5) (hB : s0.heap.size ≤ B) (SS : List World) (hs0 : s0 ∈ SS) (hSS : ∀ s ∈ SS, s.heap.size ≤ s0.heap.size) (hBS : ∃ s ∈ SS, B ≤ s.heap.size) (O : Nat → Prop) (qo : Option Addr) (co : Nat) (H : List Eng.Item) (w : World) (hno : ∀ k, k < s0.heap.size → NotOwned H k)
    (hc : Cls (blk b5 35 [.slice qo 0 co] :: row B O qo 0 co 3 1 [] :: H) SS w) :
    Calls Try.prog 86 [.agg #[.int .i64 nm, .slice q es.length cap], .func (.func 87) ([] : List Value).toArray [.pointer (some ⟨b5, 0, none⟩)].toArray].toArray w fun e w' => ∃ (O' : Nat → Prop) (qo' : Option Addr) (co' : Nat), e = .returned (.tuple #[]) ∧ Cls (blk b5 35 [.slice qo' (visC (graphB (es.map Prod.fst)) 0 (List.replicate es.length false, [])).2.length co'] :: row B O' qo' (visC (graphB (es.map Prod.fst)) 0 (List.replicate es.length false, [])).2.length co' 3 1 (ints (visC (graphB (es.map Prod.fst)) 0 (List.replicate es.length false, [])).2) :: H) SS w' := by
  obtain ⟨G, hG⟩ : ∃ G, graphB (es.map Prod.fst) = G := ⟨_, rfl⟩
  have hGl : G.length = es.length := by rw [← hG]; simp [graphB]
  rw [hG]
  obtain ⟨fin, hfin⟩ : ∃ fin, visC G 0 (List.replicate es.length false, []) = fin := ⟨_, rfl⟩
  rw [hfin]
  have hnD : ∀ m, (nxt G m).length ≤ 257 := fun m => by
    unfold nxt
    rw [List.getD_eq_getElem?_getD, ← hG]
    unfold graphB
    rw [List.getElem?_map, List.getElem?_map]
    cases hm : es[m]? with
    | none => simp
    | some p => simp only [Option.map_some, Option.getD_some, List.length_map]; exact (hE p (List.mem_of_getElem? hm)).2
  have hS0 : (List.replicate es.length false)[0]? = some false := by simp [h0]
  have hu0 := unseen_set hS0
  have hu1 := unseen_le (List.replicate es.length false)
  rw [List.length_replicate] at hu1
  refine enter Try.func86 rfl Try.ntmps86 rfl hc ?_
  (simp only [argEnv, Nat.zero_add, Nat.reduceAdd])
  apply W.sr
  apply OL.box; rfl; rfl; exact CellsL.agg; intro bk hbk
  apply OL.nsr
  apply ofa; rfl; rfl; rfl
  apply old; rfl; rfl; exact .head _; rfl; rfl
  apply oop; rfl; apply Pev.len_slice; rfl; exact yes; rfl
  apply OL.makeSlice; rfl; rfl; rfl; rfl; rfl; rfl; rfl; omega; intro bk hbk
  apply oas; rfl; rfl
  apply OL.nsr
  apply omv; rfl; rfl
  apply oop; rfl; apply Pev.idxB; rfl; exact yes; rfl; exact yes; rfl; intro hcond; omega; rfl
  rename_i bF hbF
  revert bk
  intro bS hbS
  have hbF1 : AllLe SS bF := by first | exact hbF | exact AllLe.mk hc
  have hbF2 : s0.heap.size ≤ bF := hbF1.mem s0 hs0
  have hbS1 : AllLe SS bS := by first | exact hbS | exact AllLe.mk hc
  have hbS2 : s0.heap.size ≤ bS := hbS1.mem s0 hs0
  rw [bls_zero]
  (apply OL.storeI); rfl; rfl; rfl; rfl; rfl; (exact Swap.au); (rw [bls_length, List.length_replicate]; omega)
  rw [show (bls (List.replicate es.length false)).set (0 + Int.toNat 0 * 1) (.bool true) = bls ((List.replicate es.length false).set 0 true) from bls_set _ _ _]
  apply OL.nsr
  apply oop; rfl; apply Pev.build; rfl; exact CellsL.agg; rfl; exact Fill.au; rfl
  apply OL.buildSlice; rfl; rfl; rfl; exact Elems.au; rfl; rfl; intro bk hbk
  apply oas; rfl; rfl
  apply OL.nx
  apply W.block
  revert bk
  intro bP hbP
  have hbP1 : AllLe SS bP := by first | exact hbP | exact AllLe.mk hc
  have hbP2 : s0.heap.size ≤ bP := hbP1.mem s0 hs0
  have hlow : ∀ k, s0.heap.size ≤ k → AllLe SS k := fun k hk => AllLe.of fun s hs => Nat.le_trans (hSS s hs) hk
  refine W.loop (G := SgS) (fun g => SInv G es.length fin g) (fun g => muR G 257 g.S g.st)
    (fun g => [(1, true, .func (.func 87) ([] : List Value).toArray [.pointer (some ⟨b5, 0, none⟩)].toArray), (2, true, .pointer (some ⟨bF, 0, none⟩)), (4, true, .slice (some ⟨bS, 0, none⟩) es.length es.length), (5, true, .slice g.y.q g.st.length g.y.c)])
    (fun g => Cls (row s0.heap.size g.y.O g.y.q g.st.length g.y.c 183 2 (cat plc g.st.reverse) :: blk bS 4 (bls g.S) :: blk bF 24 [.int .i64 nm, .slice q es.length cap] :: blk b5 35 [.slice g.z.q g.out.length g.z.c] :: row B g.z.O g.z.q g.out.length g.z.c 3 1 (ints g.out) :: H) SS) ⟨[(0, 0)], (List.replicate es.length false).set 0 true, [], ⟨fun k => k = bP, some ⟨bP, 0, none⟩, 1⟩, ⟨O, qo, co⟩⟩ ⟨by simp only; rw [run_start hS0, hfin], by simp, by simp only [List.length_cons, List.length_nil]; omega, fun p hp => (by rw [show p = (0, 0) by simpa using hp]; exact ⟨h0, Nat.zero_le _⟩)⟩ (by exact Sub.au) (fun w' hw' => hw'.blk_row hbP2 rfl (by simp [maxLen])) ?_
  rintro ⟨st, S, out, ⟨Oy, qy, cy⟩, ⟨Oz, qz, cz⟩⟩ hI
  obtain ⟨hrun, hSl, hcnt, hok⟩ := hI
  simp only at hrun hSl hcnt hok ⊢
  cases hst : st with
  | nil =>
    subst hst
    apply W.seq
    apply W.sr
    apply omv; rfl; rfl
    apply oop; rfl; apply Pev.len_slice; rfl; exact yes; rfl
    apply obn; rfl; rfl; rfl; apply Bin.gtr
    apply OL.nx
    refine W.cond rfl (fun h => by simp at h) (fun h => ?_)
    refine W.xt ?_
    rw [run] at hrun
    refine At.end_ (At.fin0 rfl (fun w' hw' => ⟨Oz, qz, cz, rfl, ?_⟩))
    rw [← hrun]
    exact hw'.thin (.any (fun k hk => hlow k hk.1) (.any (fun k hk => by rw [show k = bS from hk]; exact hbS1) (.any (fun k hk => by rw [show k = bF from hk]; exact hbF1) Thin.same)))
  | cons p r =>
    obtain ⟨b, j⟩ := p
    subst hst
    simp only [List.length_cons] at hcnt ⊢
    refine W.fact (fun w2 hw2 => row_some (hw2.item (.head _)) (by omega)) ?_
    rintro ⟨gy, rfl⟩
    obtain ⟨hbl, hjl⟩ := hok (b, j) (.head _)
    simp only at hbl hjl
    obtain ⟨a, p, hqa, hab, hp, hcell, hokp⟩ := he.get hbl
    have hab : a.block < s0.heap.size := hab
    have hcT : s0.cell? ⟨(a.add (b * 7)).block, (a.add (b * 7)).off + 2 + 4, none⟩ = some (.slice p.2.t.t.1 p.1.term.to_.length p.2.t.t.2) := hcell 6 _ rfl
    obtain ⟨hpE, htl⟩ := hE p (List.mem_of_getElem? hp)
    obtain ⟨ts, hts, harr⟩ := hokp.t.t
    have htl2 : p.1.term.to_.length = ts.length := by rw [← hts, List.length_map]
    obtain ⟨l, hl⟩ : ∃ l, p.1.term.to_.map Ed.block = l := ⟨_, rfl⟩
    have hnx : nxt G b = l := by
      unfold nxt
      rw [List.getD_eq_getElem?_getD, ← hG, ← hl]
      simp [graphB, hp]
    have hll : l.length = ts.length := by rw [← hl, List.length_map, htl2]
    have hjt : j ≤ ts.length := by rw [← hll, ← hnx]; exact hjl
    obtain ⟨L, hLL⟩ : ∃ L, ((b, j) :: r).reverse = L := ⟨_, rfl⟩
    have hLr : L = r.reverse ++ [(b, j)] := by rw [← hLL, List.reverse_cons]
    have hLn : L.length = r.length + 1 := by rw [hLr]; simp
    have hLt : L[r.length]? = some (b, j) := by rw [hLr, List.getElem?_append_right (by simp)]; simp
    rw [hLL]
    rw [htl2] at hcT
    subst hqa
    apply W.seq
    apply W.sr
    apply omv; rfl; rfl
    apply oop; rfl; apply Pev.len_slice; rfl; exact yes; rfl
    apply obn; rfl; rfl; rfl; apply Bin.gtr
    apply OL.nx
    refine W.cond rfl (fun h => ?_) (fun h => by simp at h)
    apply W.sk
    apply W.block
    apply W.sr
    apply omv; rfl; rfl
    apply omv; rfl; rfl
    apply oop; rfl; apply Pev.len_slice; rfl; exact yes; rfl
    apply obn; rfl; rfl; rfl; apply Bin.sub_in; omega
    apply oop; rfl; apply Pev.idxB; rfl; exact yes; rfl; exact yes; rfl; intro hcond; omega; rfl
    apply oas; rfl; rfl
    apply OL.nx
    apply W.seq
    apply W.regd0; decide +kernel; kernel_rfl; decide +kernel; exact fun w hw => hw.drew
    apply qfa; rfl; rfl; rfl
    apply qld; rfl; rfl; exact .tail _ (.tail _ (.head _)); rfl; rfl
    apply qmv; rfl; rfl
    apply qop; rfl; apply Pev.nil_ptr; rfl; exact yes
    apply qfa; rfl; rfl; rfl
    apply qop; rfl; apply Pev.load_rowC; rfl; exact yes; exact .head _; rfl; exact fun _ => rfl; (intro hcond; assumption); rfl; (intro hcond; omega)
    apply qop; rfl; apply Pev.idx; rfl; exact yes; rfl; exact yes; rfl; rfl; intro hcond; omega
    apply qop; rfl; apply Pev.fldA; rfl; exact yes; rfl
    apply qfa; rfl; rfl; rfl
    apply qop; rfl; apply Pev.load_kept; rfl; exact yes; assumption; rfl; intro hcond; assumption; intro hcond; (rw [add_block]; assumption); intro hcond; exact NotOwned.au
    apply qas; rfl; rfl
    apply QL.nil
    with_reducible apply At.next
    apply W.seq
    apply W.sr
    apply omv; rfl; rfl
    apply oop; rfl; apply Pev.nil_ptr; rfl; exact yes
    apply ofa; rfl; rfl; rfl
    apply oop; rfl; apply Pev.load_rowC; rfl; exact yes; exact .head _; rfl; exact fun _ => rfl; (intro hcond; assumption); rfl; (intro hcond; omega)
    apply omv; rfl; rfl
    apply oop; rfl; apply Pev.len_slice; rfl; exact yes; rfl
    apply obn; rfl; rfl; rfl; apply Bin.eql
    apply OL.nx
    have hidx : (((r.length + 1 : Nat) : Int) - 1).toNat = r.length := by omega
    have hsub : ((r.length + 1 : Nat) : Int) - 1 = (r.length : Int) := by omega
    simp only [hidx, hsub]
    refine W.fact (fun w2 hw2 => row_cap (hw2.item (.head _))) ?_
    intro hcap
    (refine W.cnd (fun hje => ?_) (fun hje => ?_)) <;> (try (exfalso; first | omega | exact hje trivial | contradiction))
    · have hjn : j = ts.length := by omega
      apply W.sr
      apply omv; rfl; rfl
      apply omv; rfl; rfl
      apply oop; rfl; apply Pev.nil_ptr; rfl; exact yes
      apply ofa; rfl; rfl; rfl
      apply oop; rfl; apply Pev.load_rowC; rfl; exact yes; exact .head _; rfl; exact fun _ => rfl; (intro hcond; assumption); rfl; (intro hcond; omega)
      refine OL.callvE (α := GR) (first := []) (cap := [.pointer (some ⟨b5, 0, none⟩)]) (vs := [.int .i64 (b : Int)]) (fun _ => .tuple #[]) (fun _ => True) (fun g => Cls (row s0.heap.size Oy (some ⟨gy, 0, none⟩) (r.length + 1) cy 183 2 (cat plc L) :: blk bS 4 (bls S) :: blk bF 24 [.int .i64 nm, .slice (some a) es.length cap] :: blk b5 35 [.slice g.q (out ++ [(b : Int)]).length g.c] :: row B g.O g.q (out ++ [(b : Int)]).length g.c 3 1 (ints (out ++ [(b : Int)])) :: H) SS) rfl rfl rfl (by exact Args.au) (fun w2 hw2 => (leave_calls b5 B (b : Int) out Oz qz cz _ SS w2 hBS (by omega) hw2.back32).mono fun e w3 ⟨O', q', c', h1, h2⟩ => ⟨⟨O', q', c'⟩, h1, trivial, h2.back23⟩) ?_
      rintro ⟨O1, q1, c1⟩ _
      simp only
      apply OL.nsr
      apply omv; rfl; rfl
      apply omv; rfl; rfl
      apply oop; rfl; apply Pev.len_slice; rfl; exact yes; rfl
      apply obn; rfl; rfl; rfl; apply Bin.sub_in; omega
      apply oop; rfl; apply Pev.slice_hi; rfl; exact yes; rfl; exact yes; rfl; (first | exact (Int.toNat_of_nonneg (by omega)).symm | omega); intro hcond; omega
      apply oas; rfl; rfl
      apply OL.nx
      refine W.xt ?_
      simp only [hidx]
      refine At.again ⟨r, S, out ++ [(b : Int)], ⟨Oy, some ⟨gy, 0, none⟩, cy⟩, ⟨O1, q1, c1⟩⟩ ⟨by simp only; rw [← run_pop (j := j) (by rw [hnx, hll]; omega)]; exact hrun, hSl, by simp only [List.length_append, List.length_cons, List.length_nil]; omega, fun p hp => hok p (.tail _ hp)⟩ mu_pop (by exact Sub.au) (fun w' hw' => ?_)
      exact Cls.rowPop (p := 0) r.length (cat plc r.reverse) .z (by omega) (by rw [hLr, cat_append, ← List.length_reverse, ← cat_length plc_len, List.take_left]) hw'
    · have hjl2 : j < ts.length := by omega
      obtain ⟨ae, u, hqt, hatb, hu, hcu, hoku⟩ := harr.get hjl2
      have hatb : ae.block < s0.heap.size := hatb
      have hcu : CellsAt s0 (ae.add (j * 2)) [.int .i64 u.1.block, .slice u.2.1 u.1.args.length u.2.2] := hcu
      have hto : p.1.term.to_[j]? = some u.1 := by rw [← hts, List.getElem?_map, hu]; rfl
      have hlj : (nxt G b)[j]? = some u.1.block := by rw [hnx, ← hl, List.getElem?_map, hto]; rfl
      obtain ⟨hb0, hb1⟩ := hpE u.1 (List.mem_of_getElem? hto)
      obtain ⟨m, hm⟩ : ∃ m : Nat, u.1.block = (m : Int) := ⟨u.1.block.toNat, by omega⟩
      have hmS : S[m]? = some (S.getD m false) := getD_true (by omega)
      have hmv : (bls S)[0 + (m : Int).toNat * 1]? = some (.bool (S.getD m false)) := by
        rw [show 0 + (m : Int).toNat * 1 = m by omega]
        exact bls_get hmS
      rw [hm] at hcu hlj
      have hset : ∀ v, v = Value.int .i64 ((j : Int) + 1) → (cat plc L).set (0 + (r.length : Int).toNat * 2 + 1) v = cat plc (r.reverse ++ [(b, j + 1)]) := fun v hv => by
        rw [hv, hLr, cat_append, cat_append, show 0 + (r.length : Int).toNat * 2 + 1 = (cat plc r.reverse).length + 1 by rw [cat_length plc_len]; simp]
        rw [List.set_append_right _ _ (by omega), show (cat plc r.reverse).length + 1 - (cat plc r.reverse).length = 1 by omega]
        rfl
      generalize hz : S.getD m false = z at *
      rw [hqt]
      apply W.sk
      apply W.sr
      apply omv; rfl; rfl
      apply omv; rfl; rfl
      apply oop; rfl; apply Pev.nil_ptr; rfl; exact yes
      apply ofa; rfl; rfl; rfl
      apply oop; rfl; apply Pev.load_rowC; rfl; exact yes; exact .head _; rfl; exact fun _ => rfl; (intro hcond; assumption); rfl; (intro hcond; omega)
      apply oop; rfl; apply Pev.idx; rfl; exact yes; rfl; exact yes; rfl; rfl; intro hcond; omega
      apply oop; rfl; apply Pev.fldA; rfl; exact yes; rfl
      apply oop; rfl; apply Pev.load_kept; rfl; exact yes; assumption; rfl; intro hcond; apply CellsAt.at_ (by assumption) rfl; intro hcond; (simp only [add_block]; assumption); intro hcond; exact NotOwned.au
      apply oas; rfl; rfl
      apply OL.nsr
      apply omv; rfl; rfl
      apply oop; rfl; apply Pev.nil_ptr; rfl; exact yes
      apply ofa; rfl; rfl; rfl
      apply oop; rfl; apply Pev.load_rowC; rfl; exact yes; exact .head _; rfl; exact fun _ => rfl; (intro hcond; assumption); rfl; (intro hcond; omega)
      apply obn; rfl; rfl; rfl; apply Bin.add_in; omega
      apply oop; rfl; apply Pev.nil_ptr; rfl; exact yes
      apply ofa; rfl; rfl; rfl
      (apply OL.storeRs); rfl; rfl; rfl; rfl; rfl; (exact Hole.au); (rw [cat_length plc_len, hLn]; omega)
      rw [hset _ rfl]
      apply OL.nsr
      apply omv; rfl; rfl
      apply omv; rfl; rfl
      apply oop; rfl; apply Pev.idxB; rfl; exact yes; rfl; exact yes; rfl; intro hcond; omega; rfl
      apply oop; rfl; apply Pev.load_blk; rfl; exact yes; exact .tail _ (.head _); rfl; assumption
      apply oop; rfl; apply Pev.not; rfl; exact yes
      apply OL.nx
      cases hzv : z with
      | true =>
        rw [hzv] at hmS
        refine W.cond rfl (fun h9 => by cases h9) (fun h9 => ?_)
        apply W.skip
        with_reducible apply At.in_normal
        refine At.again ⟨(b, j + 1) :: r, S, out, ⟨Oy, some ⟨gy, 0, none⟩, cy⟩, ⟨Oz, qz, cz⟩⟩ ⟨by simp only; rw [← run_seen hlj (by simpa using hmS)]; exact hrun, hSl, by simp only [List.length_cons]; omega, fun p hp => ?_⟩ (mu_seen (by rw [hnx, hll]; exact hjl2)) (by exact Sub.au) (fun w' hw' => ?_)
        · rcases List.mem_cons.1 hp with rfl | hp
          · exact ⟨hbl, by simp only; rw [hnx, hll]; omega⟩
          · exact hok p (.tail _ hp)
        · simp only [List.reverse_cons]
          exact hw'
      | false =>
        rw [hzv] at hmS
        refine W.cond rfl (fun h9 => ?_) (fun h9 => by cases h9)
        apply W.sr
        apply omv; rfl; rfl
        apply omv; rfl; rfl
        apply oop; rfl; apply Pev.idxB; rfl; exact yes; rfl; exact yes; rfl; intro hcond; omega; rfl
        (apply OL.storeI); rfl; rfl; rfl; rfl; rfl; (exact Swap.au); (rw [bls_length]; omega)
        rw [show (bls S).set (0 + (m : Int).toNat * 1) (.bool true) = bls (S.set m true) by rw [show 0 + (m : Int).toNat * 1 = m by omega]; exact bls_set _ _ _]
        apply OL.nx
        apply W.reg
        apply omv; rfl; rfl
        apply omv; rfl; rfl
        apply oop; rfl; apply Pev.build; rfl; exact CellsL.agg; rfl; exact Fill.au; rfl
        apply OL.buildSlice; rfl; rfl; rfl; exact Elems.au; rfl; rfl; intro bk hbk
        apply OL.appendP; rfl; rfl; rfl; rfl; exact Hole.au; exact .head _; exact Take.au; rfl; rfl; omega; omega; intro O1 g1 cap1
        apply oas; rfl; rfl
        apply OL.nil
        with_reducible apply At.in_normal
        have hun := unseen_set hmS
        refine At.again ⟨(m, 0) :: (b, j + 1) :: r, S.set m true, out, ⟨O1, some ⟨g1, 0, none⟩, cap1⟩, ⟨Oz, qz, cz⟩⟩ ⟨?_, by simp [hSl], by simp only [List.length_cons]; omega, fun p hp => ?_⟩ (mu_new (by rw [hnx, hll]; exact hjl2) hmS (hnD m)) (by exact Sub.au) (fun w' hw' => ?_)
        · simp only
          have h5 := run_new (r := r) (out := out) hlj (by simpa using hmS)
          rw [Int.toNat_natCast] at h5
          rw [← h5]
          exact hrun
        · rcases List.mem_cons.1 hp with rfl | hp
          · exact ⟨by simp only; omega, Nat.zero_le _⟩
          · rcases List.mem_cons.1 hp with rfl | hp
            · exact ⟨hbl, by simp only; rw [hnx, hll]; omega⟩
            · exact hok p (.tail _ hp)
        · simp only [List.reverse_cons, cat_append, List.length_cons] at hw' ⊢
          exact hw'.thin (.any (fun k hk => by rw [show k = bk from hk]; first | exact hbk | exact AllLe.mk hc) Thin.same)
end Go.Proofs.Ytehelljmaiophaa.ss

/- The walk of the reference's IsLive. Conditions: none. -/
namespace Go.Ss
open Go.Eng Go.RowKit
set_option linter.unusedVariables false
set_option linter.unusedSimpArgs false
open Classical in
noncomputable def liveB (bs : List Bk) (v : Int) (k n : Nat) : Bool := decide (LiveS bs v k n)
theorem liveB_iff {bs : List Bk} {v : Int} {k n : Nat} : liveB bs v k n = true ↔ LiveS bs v k n := by unfold liveB; exact @decide_eq_true_iff _ (Classical.propDecidable _)
theorem liveB_yes {bs : List Bk} {v : Int} {k n : Nat} (h : LiveS bs v k n) : liveB bs v k n = true := liveB_iff.2 h
theorem liveB_no {bs : List Bk} {v : Int} {k n : Nat} (h : ¬ LiveS bs v k n) : liveB bs v k n = false := by
  cases hb : liveB bs v k n with
  | false => rfl
  | true => exact absurd (liveB_iff.1 hb) h
end Go.Ss
namespace Go.Proofs.Ytehelljmaiophaa.ss
set_option maxRecDepth 100000
open Go.Eng Go.RowKit Go.Ss
set_option linter.unusedVariables false
set_option linter.unusedSimpArgs false
theorem pileO {H : List Eng.Item} {S : List World} {w : World} {B c : Nat} {O : Nat → Prop} {q : Option Addr} {l : List Int} (h : Cls H S w) (hp : pile B O [⟨q, c, ints l⟩] ∈ H) : IntsO w (low w) l q := fun hl => by
  obtain ⟨a, h1, h2, h3⟩ := h.item hp _ (.head _) (by simp only [ints_length]; exact hl)
  exact ⟨a, h1, h.lt _ hp _ h2, h3⟩
theorem IsLive_calls (es : List (Bk × BkY)) (q : Option Addr) (cap : Nat) (nm v : Int) (k0 n0 : Nat) (w : World) (he : Arr bkR w (low w) es q) (hlen : es.length ≤ 128) (hk0 : k0 < es.length) (hsh : shapeE (es.map Prod.fst) = 0) :
    Calls Try.prog 17 [.agg #[.int .i64 nm, .slice q es.length cap], .int .i64 v, .int .i64 (k0 : Int), .int .i64 (n0 : Int)].toArray w fun e w' => e = .returned (.bool (liveB (es.map Prod.fst) v k0 n0)) ∧ Ext w w' := by
  obtain ⟨bs, hbs⟩ : ∃ bs, es.map Prod.fst = bs := ⟨_, rfl⟩
  have hbl : bs.length = es.length := by rw [← hbs, List.length_map]
  rw [hbs] at hsh ⊢
  refine enter Try.func17 rfl Try.ntmps17 rfl (Cls.start w) ?_
  (simp only [argEnv, Nat.zero_add, Nat.reduceAdd])
  apply W.sr
  apply OL.box; rfl; rfl; exact CellsL.agg; (intro bk hbk; simp only [AllLe, and_true] at hbk)
  apply oas; rfl; rfl
  apply OL.nsr
  apply ofa; rfl; rfl; rfl
  apply old; rfl; rfl; exact .head _; rfl; rfl
  apply oop; rfl; apply Pev.len_slice; rfl; exact yes; rfl
  apply OL.makeSlice; rfl; rfl; rfl; rfl; rfl; rfl; rfl; omega; (intro bk hbk; simp only [AllLe, and_true] at hbk)
  apply oas; rfl; rfl
  apply OL.nsr
  apply omv; rfl; rfl
  apply omv; rfl; rfl
  apply oop; rfl; apply Pev.build; rfl; exact CellsL.agg; rfl; exact Fill.au; rfl
  apply OL.buildSlice; rfl; rfl; rfl; exact Elems.au; rfl; rfl; (intro bk hbk; simp only [AllLe, and_true] at hbk)
  apply oas; rfl; rfl
  apply OL.nx
  apply W.sb
  rename_i bF hbF bS hbS
  revert bk
  intro bP hbP
  have hbF1 : w.heap.size ≤ bF := by first | exact hbF | exact hbF.1
  have hbS1 : w.heap.size ≤ bS := by first | exact hbS | exact hbS.1
  have hbP1 : w.heap.size ≤ bP := by first | exact hbP | exact hbP.1
  rw [bls_zero]
  refine W.loop (G := List (Nat × Nat) × List Bool × GR) (fun g => LI bs v k0 n0 g.2.1 g.1 ∧ g.1.length + unseen g.2.1 ≤ es.length + 1) (fun g => 2 * unseen g.2.1 + g.1.length)
    (fun g => [(1, true, .int .i64 v), (4, true, .pointer (some ⟨bF, 0, none⟩)), (9, true, .slice (some ⟨bS, 0, none⟩) es.length es.length), (10, true, .slice g.2.2.q g.1.length g.2.2.c)])
    (fun g => Cls [row w.heap.size g.2.2.O g.2.2.q g.1.length g.2.2.c 102 2 (cat plc g.1), blk bS 4 (bls g.2.1), blk bF 24 [.int .i64 nm, .slice q es.length cap]] [w])
    ([(k0, n0)], List.replicate es.length false, ⟨fun k => k = bP, some ⟨bP, 0, none⟩, 1⟩) ⟨by rw [← hbl]; exact LI.start (by omega), by have := unseen_le (List.replicate es.length false); simp at this ⊢; omega⟩ (by exact Sub.au) (fun w' hw' => hw'.blk_row hbP1 rfl (by simp [maxLen])) ?_
  rintro ⟨W, S, ⟨Oy, qy, cy⟩⟩ ⟨hI, hcnt⟩
  simp only at hI hcnt ⊢
  have hSl := hI.len
  rcases List.eq_nil_or_concat W with rfl | ⟨W', ⟨k, n⟩, rfl⟩
  · apply W.seq
    apply W.sr
    apply omv; rfl; rfl
    apply oop; rfl; apply Pev.len_slice; rfl; exact yes; rfl
    apply obn; rfl; rfl; rfl; apply Bin.gtr
    apply OL.nx
    refine W.cond rfl (fun h => by simp at h) (fun h => ?_)
    refine W.xt ?_
    with_reducible apply At.next
    apply W.sr
    apply oas; rfl; rfl
    apply OL.nx
    apply W.ret
    ((with_reducible apply At.fin1); rfl; rfl; intro w' hw')
    exact ⟨by rw [liveB_no hI.done], (hw'.thin (.any (fun k hk => ⟨hk.1, trivial⟩) (.any (fun k hk => by rw [show k = bS from hk]; exact ⟨hbS1, trivial⟩) (.any (fun k hk => by rw [show k = bF from hk]; exact ⟨hbF1, trivial⟩) Thin.nil)))).fr (by exact mau) (fun k hk => NotOwned.nil)⟩
  rw [List.concat_eq_append] at hI hcnt ⊢
  have hlenW : (W' ++ [(k, n)]).length = W'.length + 1 := by simp
  rw [hlenW] at hcnt ⊢
  refine W.fact (fun w2 hw2 => row_some (hw2.item (.head _)) (by omega)) ?_
  rintro ⟨gy, rfl⟩
  refine W.fact (fun w2 hw2 => row_cap (hw2.item (.head _))) ?_
  intro hcap
  have hkl : k < es.length := by have := (hI.blk (k, n) (by simp)).1; simp only at this; omega
  obtain ⟨a, p, hqa, hab, hp, hcell, hok⟩ := he.get hkl
  have hab : a.block < w.heap.size := hab
  have hcell : CellsAt w (a.add (k * 7)) [.slice p.2.p.1 p.1.params.length p.2.p.2, .slice p.2.i.1 p.1.ins.length p.2.i.2, .int .i64 p.1.term.kind, .int .i64 p.1.term.arg, .int .i64 p.1.term.n, .slice p.2.t.c.1 p.1.term.cases.length p.2.t.c.2, .slice p.2.t.t.1 p.1.term.to_.length p.2.t.t.2] := hcell
  have hkb : bs[k]? = some p.1 := by rw [← hbs, List.getElem?_map, hp]; rfl
  obtain ⟨pi, hpi, hiarr⟩ := hok.i
  have hpil : p.1.ins.length = pi.length := by rw [← hpi, List.length_map]
  have hil := hok.il
  have hLt : (W' ++ [(k, n)])[W'.length]? = some (k, n) := by simp
  have hidx : (((W'.length + 1 : Nat) : Int) - 1).toNat = W'.length := by omega
  have hsub : ((W'.length + 1 : Nat) : Int) - 1 = (W'.length : Int) := by omega
  subst hqa
  apply W.seq
  apply W.sr
  apply omv; rfl; rfl
  apply oop; rfl; apply Pev.len_slice; rfl; exact yes; rfl
  apply obn; rfl; rfl; rfl; apply Bin.gtr
  apply OL.nx
  refine W.cond rfl (fun h => ?_) (fun h => by simp at h)
  apply W.sk
  apply W.block
  apply W.sr
  apply omv; rfl; rfl
  apply omv; rfl; rfl
  apply oop; rfl; apply Pev.len_slice; rfl; exact yes; rfl
  apply obn; rfl; rfl; rfl; apply Bin.sub_in; omega
  apply oop; rfl; apply Pev.idxB; rfl; exact yes; rfl; exact yes; rfl; intro hcond; omega; rfl
  apply oop; rfl; apply Pev.load_rowE; rfl; exact yes; exact .head _; rfl; exact fun _ => rfl; (intro hcond; assumption); (intro hcond; omega)
  apply OL.alloc; rfl; rfl; exact CellsL.agg; (intro bk hbk; simp only [AllLe, and_true] at hbk)
  apply OL.storeB; rfl; rfl; exact CellsL.agg; rfl; rfl; rfl; exact Swap.au; exact Put.au
  apply OL.nsr
  apply omv; rfl; rfl
  apply omv; rfl; rfl
  apply oop; rfl; apply Pev.len_slice; rfl; exact yes; rfl
  apply obn; rfl; rfl; rfl; apply Bin.sub_in; omega
  apply oop; rfl; apply Pev.slice_hi; rfl; exact yes; rfl; exact yes; rfl; (first | exact (Int.toNat_of_nonneg (by omega)).symm | omega); intro hcond; omega
  apply oas; rfl; rfl
  apply OL.nsr
  apply ofa; rfl; rfl; rfl
  apply old; rfl; rfl; apply List.Mem.tail; exact .tail _ (.tail _ (.head _)); rfl; rfl
  apply ofa; rfl; rfl; rfl
  apply old; rfl; rfl; exact .head _; rfl; rfl
  apply oop; rfl; apply Pev.idx; rfl; exact yes; rfl; exact yes; rfl; rfl; intro hcond; omega
  apply oop; rfl; apply Pev.load_keptA; rfl; exact yes; exact .head _; rfl; intro hcond; assumption; rfl; intro hcond; (rw [add_block]; assumption); intro hcond; exact NotOwned.au
  apply OL.alloc; rfl; rfl; exact CellsL.agg; (intro bk hbk; simp only [AllLe, and_true] at hbk)
  apply OL.storeB; rfl; rfl; exact CellsL.agg; rfl; rfl; rfl; exact Swap.au; exact Put.au
  apply OL.nsr
  apply oas; rfl; rfl
  apply OL.nx
  apply W.seq
  apply W.sr
  apply ofa; rfl; rfl; rfl
  apply old; rfl; rfl; exact .tail _ (.head _); rfl; rfl
  apply oas; rfl; rfl
  apply OL.nx
  apply W.block
  simp only [hidx, hsub]
  skip
  rename_i bSp hbSp
  revert bk
  intro bB hbB
  have hbSp1 : w.heap.size ≤ bSp := by first | exact hbSp | exact hbSp.1
  have hbB1 : w.heap.size ≤ bB := by first | exact hbB | exact hbB.1
  refine W.loop (G := Nat × Bool) (fun g => if g.2 then scanI v (p.1.ins.drop n) = some false else scanI v (p.1.ins.drop n) = scanI v (p.1.ins.drop g.1)) (fun g => (pi.length + 1 - g.1))
    (fun g => [(1, true, .int .i64 v), (4, true, .pointer (some ⟨bF, 0, none⟩)), (9, true, .slice (some ⟨bS, 0, none⟩) es.length es.length), (10, true, .slice (some ⟨gy, 0, none⟩) W'.length cy), (12, true, .pointer (some ⟨bB, 0, none⟩)), (13, true, .bool g.2), (14, true, .int .i64 (g.1 : Int))])
    (fun _ => Cls [blk bB 41 [.slice p.2.p.1 p.1.params.length p.2.p.2, .slice p.2.i.1 p.1.ins.length p.2.i.2, .int .i64 p.1.term.kind, .int .i64 p.1.term.arg, .int .i64 p.1.term.n, .slice p.2.t.c.1 p.1.term.cases.length p.2.t.c.2, .slice p.2.t.t.1 p.1.term.to_.length p.2.t.t.2], row w.heap.size Oy (some ⟨gy, 0, none⟩) W'.length cy 102 2 (cat plc W'), blk bS 4 (bls S), blk bF 24 [.int .i64 nm, .slice (some a) es.length cap]] [w])
    (n, false) (by simp) (by exact Sub.au) (fun w' hw' => ?_) ?_
  · refine (Cls.rowPop (p := 2) W'.length (cat plc W') (.s (.s .z)) (by omega) (by rw [cat_append, ← cat_length plc_len, List.take_left]) hw').thin ?_
    exact .keep (.any (fun k hk => by rw [show k = bSp from hk]; exact ⟨hbSp1, trivial⟩) Thin.same)
  rintro ⟨m, en⟩ hsc
  simp only at hsc ⊢
  rw [hpil]
  apply W.seq
  apply W.sr
  apply omv; rfl; rfl
  apply ofa; rfl; rfl; rfl
  apply old; rfl; rfl; exact .head _; rfl; rfl
  apply oop; rfl; apply Pev.len_slice; rfl; exact yes; rfl
  apply obn; rfl; rfl; rfl; apply Bin.lss
  apply omv; rfl; rfl
  apply oy; rfl; rfl; rfl; apply Pev.move; rfl; exact yes
  apply oy; rfl; rfl; rfl; apply Pev.not; rfl; exact fun h => h
  apply oop; rfl; apply Pev.pick_and; rfl; exact yes; rfl; exact fun h => h
  apply OL.nx
  refine W.cond rfl (fun h1 => ?_) (fun h1 => ?_)
  · obtain ⟨hml, rfl⟩ : m < pi.length ∧ en = false := by
      simp at h1
      exact ⟨by omega, h1.2⟩
    obtain ⟨ai, u, hqi, haib, hu, hcu, hoku⟩ := hiarr.get hml
    have haib : ai.block < w.heap.size := haib
    have hcu : CellsAt w (ai.add (m * 4)) [.int .i64 u.1.to_, .int .i64 u.1.op, .int .i64 u.1.n, .slice u.2.1 u.1.args.length u.2.2] := hcu
    have hui : p.1.ins[m]? = some u.1 := by rw [← hpi, List.getElem?_map, hu]; rfl
    have hsd := scanI_drop (v := v) hui
    rw [if_neg (by decide)] at hsc
    rw [hqi]
    apply W.sk
    apply W.sb
    apply W.seq
    apply W.sr
    apply ofa; rfl; rfl; rfl
    apply old; rfl; rfl; exact .head _; rfl; rfl
    apply omv; rfl; rfl
    apply oop; rfl; apply Pev.idx; rfl; exact yes; rfl; exact yes; rfl; rfl; intro hcond; omega
    apply oop; rfl; apply Pev.fldA; rfl; exact yes; rfl
    apply oop; rfl; apply Pev.load_kept; rfl; exact yes; exact .head _; rfl; intro hcond; apply CellsAt.at_ (by assumption) rfl; intro hcond; (simp only [add_block]; assumption); intro hcond; exact NotOwned.au
    apply omv; rfl; rfl
    (((first | (with_reducible apply OL.op) | (with_reducible apply QL.op)); (exact Guard.au); rfl; rfl); (exact Pev.call (v := .bool (decide (v ∈ u.1.args))) rfl (by exact Args.au) (fun _ w2 hw2 => (HasInt_calls u.2.1 u.2.2 u.1.args v w2 (by have := hoku.al; omega) (hoku.a.at hw2 (by exact mau) (fun k hk => NotOwned.blk (by omega) (NotOwned.row (by omega) (NotOwned.blk (by omega) (NotOwned.blk (by omega) NotOwned.nil)))))).mono (fun e w3 h => ⟨h.1, hw2.ext h.2⟩))))
    apply OL.nx
    refine W.cond rfl (fun h2 => ?_) (fun h2 => ?_)
    · apply W.sr
      apply oas; rfl; rfl
      apply OL.nx
      refine W.rt ?_
      ((with_reducible apply At.fin1); rfl; rfl; intro w' hw')
      refine ⟨?_, (hw'.thin (.any (fun k hk => by rw [show k = bB from hk]; exact ⟨hbB1, trivial⟩) (.any (fun k hk => ⟨hk.1, trivial⟩) (.any (fun k hk => by rw [show k = bS from hk]; exact ⟨hbS1, trivial⟩) (.any (fun k hk => by rw [show k = bF from hk]; exact ⟨hbF1, trivial⟩) Thin.nil))))).fr (by exact mau) (fun k hk => NotOwned.nil)⟩
      rw [if_pos (by simpa using h2)] at hsd
      rw [liveB_yes (hI.snd (k, n) (by simp) (.hit hkb (by rw [hsc, hsd])))]
    · rw [if_neg (by simpa using h2)] at hsd
      apply W.sk
      apply W.reg
      apply ofa; rfl; rfl; rfl
      apply old; rfl; rfl; exact .head _; rfl; rfl
      apply omv; rfl; rfl
      apply oop; rfl; apply Pev.idx; rfl; exact yes; rfl; exact yes; rfl; rfl; intro hcond; omega
      apply oop; rfl; apply Pev.fldA; rfl; exact yes; rfl
      apply oop; rfl; apply Pev.load_kept; rfl; exact yes; exact .head _; rfl; intro hcond; apply CellsAt.at_ (by assumption) rfl; intro hcond; (simp only [add_block]; assumption); intro hcond; exact NotOwned.au
      apply omv; rfl; rfl
      apply obn; rfl; rfl; rfl; apply Bin.eql
      apply oas; rfl; rfl
      apply OL.nil
      with_reducible apply At.in_normal
      with_reducible apply At.next
      apply W.reg
      apply omv; rfl; rfl
      apply obn; rfl; rfl; rfl; apply Bin.add_in; omega
      apply oas; rfl; rfl
      apply OL.nil
      refine At.again (m + 1, decide (u.1.to_ = v)) ?_ (by simp only; omega) (by exact Sub.au) (fun w' hw' => hw')
      simp only
      by_cases h3 : u.1.to_ = v
      · rw [if_pos h3] at hsd
        rw [if_pos (by simpa using h3), hsc, hsd]
      · rw [if_neg h3] at hsd
        rw [if_neg (by simpa using h3), hsc, hsd]
  refine W.xt ?_
  with_reducible apply At.next
  apply W.seq
  apply W.sr
  apply omv; rfl; rfl
  apply OL.nx
  cases en with
  | true =>
    rw [if_pos rfl] at hsc
    refine W.cond rfl (fun h2 => ?_) (fun h2 => by cases h2)
    refine W.xt ?_
    exact At.again (W', S, ⟨Oy, some ⟨gy, 0, none⟩, cy⟩) ⟨hI.ended hkb hsc, by simp only; omega⟩ (by simp only [List.length_append, List.length_cons, List.length_nil]; omega) (by exact Sub.au) (fun w' hw' => hw'.thin (.any (fun k hk => by rw [show k = bB from hk]; exact ⟨hbB1, trivial⟩) Thin.same))
  | false =>
    refine W.cond rfl (fun h2 => by cases h2) (fun h2 => ?_)
    have hml : pi.length ≤ m := by simp at h1; omega
    rw [if_neg (by decide), scanI_end (l := p.1.ins) (n := m) (by omega)] at hsc
    have htok := hok.t
    apply W.sk
    apply W.seq
    apply W.sr
    apply ofa; rfl; rfl; rfl
    apply oop; rfl; apply Pev.load_blkA; rfl; exact yes; exact .head _; rfl; exact Take.au
    have hop := oper_len hsh hkb
    refine OL.callE (α := Option Addr × Nat × Nat × Nat) (fun z => .slice z.1 (operT p.1.term).length z.2.1) (fun z => w.heap.size ≤ z.2.2.1) (fun z => Cls [pile z.2.2.1 (fun k => k < z.2.2.2) [⟨z.1, z.2.1, ints (operT p.1.term)⟩], blk bB 41 [.slice p.2.p.1 p.1.params.length p.2.p.2, .slice p.2.i.1 pi.length p.2.i.2, .int .i64 p.1.term.kind, .int .i64 p.1.term.arg, .int .i64 p.1.term.n, .slice p.2.t.c.1 p.1.term.cases.length p.2.t.c.2, .slice p.2.t.t.1 p.1.term.to_.length p.2.t.t.2], row w.heap.size Oy (some ⟨gy, 0, none⟩) W'.length cy 102 2 (cat plc W'), blk bS 4 (bls S), blk bF 24 [.int .i64 nm, .slice (some a) es.length cap]] [w]) rfl rfl (by exact Args.au) (fun w2 hw2 => (Operands_calls p.1.term p.2.t w2 (TmOk.at htok hw2 (by exact mau) (fun k hk => NotOwned.blk (by omega) (NotOwned.row (by omega) (NotOwned.blk (by omega) (NotOwned.blk (by omega) NotOwned.nil))))) hop).mono fun e w3 ⟨qo, co, h1, h2, h3⟩ => ⟨(qo, co, w2.heap.size, w3.heap.size), h1, (hw2.kp w (by exact mau)).size, hw2.pileS h2 h3⟩) ?_
    rintro ⟨qo, co, pB, pT⟩ hpB
    simp only at hpB ⊢
    apply omv; rfl; rfl
    (((first | (with_reducible apply OL.op) | (with_reducible apply QL.op)); (exact Guard.au); rfl; rfl); (exact Pev.call (v := .bool (decide (v ∈ operT p.1.term))) rfl (by exact Args.au) (fun _ w2 hw2 => (HasInt_calls qo co (operT p.1.term) v w2 (by omega) (pileO hw2 (.head _))).mono (fun e w3 h => ⟨h.1, hw2.ext h.2⟩))))
    apply OL.nx
    refine W.cond rfl (fun h2 => ?_) (fun h2 => ?_)
    · apply W.sr
      apply oas; rfl; rfl
      apply OL.nx
      refine W.rt ?_
      ((with_reducible apply At.fin1); rfl; rfl; intro w' hw')
      refine ⟨?_, (hw'.thin (.any (fun k hk => ⟨Nat.le_trans hpB hk.1, trivial⟩) (.any (fun k hk => by rw [show k = bB from hk]; exact ⟨hbB1, trivial⟩) (.any (fun k hk => ⟨hk.1, trivial⟩) (.any (fun k hk => by rw [show k = bS from hk]; exact ⟨hbS1, trivial⟩) (.any (fun k hk => by rw [show k = bF from hk]; exact ⟨hbF1, trivial⟩) Thin.nil)))))).fr (by exact mau) (fun k hk => NotOwned.nil)⟩
      rw [liveB_yes (hI.snd (k, n) (by simp) (.term hkb hsc (by simpa using h2)))]
    have hLE0 := hI.edges hkb hsc (by simpa using h2)
    obtain ⟨ts, hts, harr⟩ := htok.t
    have htl := htok.tl
    have htl2 : p.1.term.to_.length = ts.length := by rw [← hts, List.length_map]
    apply W.sk
    apply W.sr
    apply ofa; rfl; rfl; rfl
    apply ofa; rfl; rfl; rfl
    apply old; rfl; rfl; exact .tail _ (.head _); rfl; rfl
    apply oop; rfl; apply Pev.len_slice; rfl; exact yes; rfl
    apply omv; rfl; rfl
    apply OL.nx
    apply W.block
    refine W.loop (G := Nat × List (Nat × Nat) × List Bool × GR) (fun g => LE bs v k0 n0 k n p.1 g.1 g.2.2.1 g.2.1 ∧ g.1 ≤ ts.length ∧ g.2.1.length + unseen g.2.2.1 ≤ es.length + 1 ∧ 2 * unseen g.2.2.1 + g.2.1.length ≤ 2 * unseen S + W'.length) (fun g => ts.length - g.1)
      (fun g => [(1, true, .int .i64 v), (4, true, .pointer (some ⟨bF, 0, none⟩)), (9, true, .slice (some ⟨bS, 0, none⟩) es.length es.length), (10, true, .slice g.2.2.2.q g.2.1.length g.2.2.2.c), (82, true, .slice p.2.t.t.1 ts.length p.2.t.t.2), (83, true, .int .i64 (ts.length : Int)), (84, true, .int .i64 (g.1 : Int))])
      (fun g => Cls [row w.heap.size g.2.2.2.O g.2.2.2.q g.2.1.length g.2.2.2.c 102 2 (cat plc g.2.1), blk bS 4 (bls g.2.2.1), blk bF 24 [.int .i64 nm, .slice (some a) es.length cap]] [w])
      (0, W', S, ⟨Oy, some ⟨gy, 0, none⟩, cy⟩) ⟨hLE0, by simp, by simp only; omega, by simp⟩ (by rw [htl2]; exact Sub.au) (fun w' hw' => hw'.thin (.any (fun k hk => ⟨Nat.le_trans hpB hk.1, trivial⟩) (.any (fun k hk => by rw [show k = bB from hk]; exact ⟨hbB1, trivial⟩) Thin.same))) ?_
    rintro ⟨j, W2, S2, ⟨O2, q2, c2⟩⟩ ⟨hE, hj, hcnt2, hmu⟩
    simp only at hE hj hcnt2 hmu ⊢
    have hSl2 := hE.len
    apply W.sr
    apply obn; rfl; rfl; rfl; apply Bin.lss
    apply OL.nx
    apply W.seq
    (refine W.cnd (fun hlt => ?_) (fun hlt => ?_)) <;> (try (exfalso; first | omega | exact hlt trivial | contradiction))
    · have hjl : j < ts.length := by omega
      obtain ⟨at_, u, hqt, hatb, hu, hcu, hoku⟩ := harr.get hjl
      have hatb : at_.block < w.heap.size := hatb
      have hcu : CellsAt w (at_.add (j * 2)) [.int .i64 u.1.block, .slice u.2.1 u.1.args.length u.2.2] := hcu
      have hto : p.1.term.to_[j]? = some u.1 := by rw [← hts, List.getElem?_map, hu]; rfl
      have hub := shape_edges hsh p.1 (List.mem_of_getElem? hkb) u.1 (List.mem_of_getElem? hto)
      obtain ⟨m2, hm2⟩ : ∃ m : Nat, u.1.block = (m : Int) := ⟨u.1.block.toNat, by omega⟩
      have hm2l : m2 < es.length := by omega
      obtain ⟨ab, p2, hqab, habb, hp2, hcell2, hok2⟩ := he.get hm2l
      obtain rfl : a = ab := Option.some.inj hqab
      have hcell2 : CellsAt w (a.add (m2 * 7)) [.slice p2.2.p.1 p2.1.params.length p2.2.p.2, .slice p2.2.i.1 p2.1.ins.length p2.2.i.2, .int .i64 p2.1.term.kind, .int .i64 p2.1.term.arg, .int .i64 p2.1.term.n, .slice p2.2.t.c.1 p2.1.term.cases.length p2.2.t.c.2, .slice p2.2.t.t.1 p2.1.term.to_.length p2.2.t.t.2] := hcell2
      have hbk2 : bs[u.1.block.toNat]? = some p2.1 := by rw [hm2, Int.toNat_natCast, ← hbs, List.getElem?_map, hp2]; rfl
      have hmS : S2[m2]? = some (S2.getD m2 false) := getD_true (by omega)
      have hmv : (bls S2)[0 + (m2 : Int).toNat * 1]? = some (.bool (S2.getD m2 false)) := by
        rw [show 0 + (m2 : Int).toNat * 1 = m2 by omega]
        exact bls_get hmS
      rw [hm2] at hcu
      rw [hqt]
      generalize hz : S2.getD m2 false = z at *
      apply W.sk
      apply W.sb
      apply W.sr
      apply oop; rfl; apply Pev.idx; rfl; exact yes; rfl; exact yes; rfl; rfl; intro hcond; omega
      apply oop; rfl; apply Pev.load_keptA; rfl; exact yes; exact .head _; rfl; intro hcond; assumption; rfl; intro hcond; (rw [add_block]; assumption); intro hcond; exact NotOwned.au
      apply OL.alloc; rfl; rfl; exact CellsL.agg; (intro bk hbk; simp only [AllLe, and_true] at hbk)
      apply OL.storeB; rfl; rfl; exact CellsL.agg; rfl; rfl; rfl; exact Swap.au; exact Put.au
      apply OL.nsr
      apply omv; rfl; rfl
      apply ofa; rfl; rfl; rfl
      apply old; rfl; rfl; exact .head _; rfl; rfl
      apply oop; rfl; apply Pev.idxB; rfl; exact yes; rfl; exact yes; rfl; intro hcond; omega; rfl
      apply oop; rfl; apply Pev.load_blk; rfl; exact yes; exact .tail _ (.tail _ (.head _)); rfl; assumption
      apply oop; rfl; apply Pev.not; rfl; exact yes
      apply omv; rfl; rfl
      apply oy; rfl; rfl; rfl; apply Pev.fld; rfl; exact yes; rfl
      apply oy; rfl; rfl; rfl; apply Pev.load_blk; rfl; exact fun h => h; apply List.Mem.tail; exact .tail _ (.tail _ (.head _)); rfl; rfl
      apply oy; rfl; rfl; rfl; apply Pev.fld; rfl; exact yes; rfl
      apply oy; rfl; rfl; rfl; apply Pev.load_blk; rfl; exact fun h => h; exact .head _; rfl; rfl
      apply oy; rfl; rfl; rfl; apply Pev.idx; rfl; exact fun h => h; rfl; exact fun h => h; rfl; rfl; intro hcond; omega
      apply oy; rfl; rfl; rfl; apply Pev.fldA; rfl; exact fun h => h; rfl
      apply oy; rfl; rfl; rfl; apply Pev.load_kept; rfl; exact fun h => h; exact .head _; rfl; intro hcond; apply CellsAt.at_ (by assumption) rfl; intro hcond; (simp only [add_block]; assumption); intro hcond; exact NotOwned.au
      apply oy; rfl; rfl; rfl; apply Pev.move; rfl; exact yes
      have hxe : w.heap.size ≤ bk := by first | exact hbk | exact hbk.1
      (((first | (with_reducible apply OL.op) | (with_reducible apply QL.op)); (exact Guard.au); rfl; rfl); (exact Pev.call (v := .bool (decide (v ∈ p2.1.params))) rfl (by exact Args.au) (fun _ w2 hw2 => (HasInt_calls p2.2.p.1 p2.2.p.2 p2.1.params v w2 (by have := hok2.pl; omega) (hok2.p.at hw2 (by exact mau) (fun k hk => NotOwned.blk (by omega) (NotOwned.row (by omega) (NotOwned.blk (by omega) (NotOwned.blk (by omega) NotOwned.nil)))))).mono (fun e w3 h => ⟨h.1, hw2.ext h.2⟩))))
      apply oy; rfl; rfl; rfl; apply Pev.not; rfl; exact fun h => h
      apply oop; rfl; apply Pev.pick_and; rfl; exact yes; rfl; exact fun h => h
      apply OL.nx
      refine W.cond rfl (fun h3 => ?_) (fun h3 => ?_)
      · obtain ⟨rfl, hnp⟩ : z = false ∧ ¬ v ∈ p2.1.params := by simpa using h3
        have hus := unseen_set hmS
        apply W.sr
        apply omv; rfl; rfl
        apply ofa; rfl; rfl; rfl
        apply old; rfl; rfl; exact .head _; rfl; rfl
        apply oop; rfl; apply Pev.idxB; rfl; exact yes; rfl; exact yes; rfl; intro hcond; omega; rfl
        (apply OL.storeI); rfl; rfl; rfl; rfl; rfl; (exact Swap.au); (rw [bls_length]; omega)
        rw [show (bls S2).set (0 + (m2 : Int).toNat * 1) (.bool true) = bls (S2.set m2 true) by rw [show 0 + (m2 : Int).toNat * 1 = m2 by omega]; exact bls_set _ _ _]
        apply OL.nx
        apply W.reg
        apply omv; rfl; rfl
        apply ofa; rfl; rfl; rfl
        apply old; rfl; rfl; exact .head _; rfl; rfl
        apply oop; rfl; apply Pev.build; rfl; exact CellsL.agg; rfl; exact Fill.au; rfl
        apply OL.buildSlice; rfl; rfl; rfl; exact Elems.au; rfl; rfl; (intro bk hbk; simp only [AllLe, and_true] at hbk)
        apply OL.append; rfl; rfl; rfl; rfl; exact Hole.au; exact .head _; exact Take.au; rfl; rfl; exact ⟨_, .head _, Nat.le_refl _⟩; omega; intro O1 g1 cap1
        apply oas; rfl; rfl
        apply OL.nil
        with_reducible apply At.in_normal
        with_reducible apply At.next
        apply W.reg
        apply obn; rfl; rfl; rfl; apply Bin.add_in; omega
        apply omv; rfl; rfl
        apply OL.nil
        have hpush := hE.push hto hbk2 hnp
        rw [hm2, Int.toNat_natCast] at hpush
        have hxe2 : w.heap.size ≤ bk := by first | exact hbk | exact hbk.1
        refine At.again (j + 1, W2 ++ [(m2, 0)], S2.set m2 true, ⟨O1, some ⟨g1, 0, none⟩, cap1⟩) ⟨hpush, by simp only; omega, by simp only [List.length_append, List.length_cons, List.length_nil]; omega, by simp only [List.length_append, List.length_cons, List.length_nil]; omega⟩ (by simp only; omega) (by simp only [List.length_append, List.length_cons, List.length_nil]; exact Sub.au) (fun w' hw' => ?_)
        simp only [List.length_append, List.length_cons, List.length_nil, cat_append]
        exact hw'.thin (.any (fun k hk => by rw [show k = bk from hk]; exact ⟨hxe2, trivial⟩) (.any (fun k hk => by rw [show k = _ from hk]; exact ⟨hxe, trivial⟩) Thin.same))
      · have hsk : (∃ b', bs[u.1.block.toNat]? = some b' ∧ v ∈ b'.params) ∨ S2[u.1.block.toNat]? = some true := by
          cases z with
          | true => right; rw [hm2, Int.toNat_natCast]; exact hmS
          | false => left; exact ⟨p2.1, hbk2, by simpa using h3⟩
        apply W.skip
        with_reducible apply At.in_normal
        with_reducible apply At.next
        apply W.reg
        apply obn; rfl; rfl; rfl; apply Bin.add_in; omega
        apply omv; rfl; rfl
        apply OL.nil
        exact At.again (j + 1, W2, S2, ⟨O2, q2, c2⟩) ⟨hE.skip hto hsk, by simp only; omega, hcnt2, hmu⟩ (by simp only; omega) (by exact Sub.au) (fun w' hw' => hw'.thin (.any (fun k hk => by rw [show k = bk from hk]; exact ⟨hxe, trivial⟩) Thin.same))
    · obtain rfl : j = ts.length := by omega
      refine W.xt ?_
      with_reducible apply At.in_normal
      refine At.again (W2, S2, ⟨O2, q2, c2⟩) ⟨?_, by simp only; omega⟩ (by simp only [List.length_append, List.length_cons, List.length_nil]; omega) (by exact Sub.au) (fun w' hw' => hw')
      refine LE.close (k := k) (n := n) (b := p.1) ?_
      rw [htl2]
      exact hE
end Go.Proofs.Ytehelljmaiophaa.ss

/- Rows of marks in memory; the walks of ssa.Fresh, slices.Clone and slices.Equal at []bool, and live's list. Conditions: none. -/
namespace Go.Ss
open Go.Eng Go.RowKit
set_option linter.unusedVariables false
set_option linter.unusedSimpArgs false
def BoolsO (w : World) (O : Nat → Prop) (l : List Bool) (q : Option Addr) : Prop := 0 < l.length → ∃ a, q = some a ∧ O a.block ∧ CellsAt w a (bls l)
theorem BoolsO.stab {w w' : World} {O : Nat → Prop} {l : List Bool} {q : Option Addr} (hk : ∀ k, O k → w'.heap[k]? = w.heap[k]?) (h : BoolsO w O l q) : BoolsO w' O l q := fun hl => by
  obtain ⟨a, h1, h2, h3⟩ := h hl
  exact ⟨a, h1, h2, cells_stab (hk _ h2) h3⟩
theorem BoolsO.mono {w : World} {O O' : Nat → Prop} {l : List Bool} {q : Option Addr} (hk : ∀ k, O k → O' k) (h : BoolsO w O l q) : BoolsO w O' l q := fun hl => by
  obtain ⟨a, h1, h2, h3⟩ := h hl
  exact ⟨a, h1, hk _ h2, h3⟩
theorem BoolsO.nil {w : World} {O : Nat → Prop} {q : Option Addr} : BoolsO w O [] q := fun h => by simp at h
theorem BoolsO.get {w : World} {O : Nat → Prop} {l : List Bool} {q : Option Addr} (h : BoolsO w O l q) {i : Nat} (hi : i < l.length) : ∃ a u, q = some a ∧ O a.block ∧ l[i]? = some u ∧ w.cell? (a.add (i * 1)) = some (.bool u) := by
  obtain ⟨a, h1, h2, h3⟩ := h (by omega)
  have hu : l[i]? = some l[i] := List.getElem?_eq_getElem hi
  exact ⟨a, l[i], h1, h2, hu, by rw [Nat.mul_one]; exact h3 i _ (bls_get hu)⟩
theorem BoolsO.slAt {w : World} {l : List Bool} {q : Option Addr} (h : BoolsO w (low w) l q) : SlAt w w.heap.size q (bls l) := fun hv => by
  rw [bls_length] at hv
  exact h hv
theorem BoolsO.at {w w' : World} {l : List Bool} {q : Option Addr} {H : List Eng.Item} {S : List World} (h : BoolsO w (low w) l q) (hw : Cls H S w') (hs : w ∈ S) (hno : ∀ k, k < w.heap.size → NotOwned H k) : BoolsO w' (low w') l q :=
  BoolsO.mono (hw.up hs) (BoolsO.stab (hw.same hs hno) h)
theorem BoolsO.ext {w w' : World} {l : List Bool} {q : Option Addr} (h : BoolsO w (low w) l q) (hx : Ext w w') : BoolsO w' (low w') l q :=
  BoolsO.mono (fun k hk => Nat.lt_of_lt_of_le hk hx.size) (BoolsO.stab (fun k hk => hx.block k hk id) h)
theorem blkBools {w : World} {b : Nat} {e : TypeId} {l : List Bool} (hb : (blk b e (bls l)).holds w) : BoolsO w (low w) l (some ⟨b, 0, none⟩) :=
  fun _ => ⟨_, rfl, blk_lt hb, fun j v hj => by rw [add_mid, blk_cell hb, Nat.zero_add]; exact hj⟩
/-- a grown row of marks reads -/
theorem rowBools {H : List Eng.Item} {S : List World} {w w' : World} {B m cap : Nat} {O : Nat → Prop} {q : Option Addr} {e : TypeId} {l : List Bool} (h : Cls H S w') (hr : row B O q m cap e 1 (bls l) ∈ H) (hB : w.heap.size ≤ B) : BoolsO w' (fresh w w') l q := fun hl => by
  have hi := h.item hr
  obtain ⟨a, h1, h2, h3⟩ := SlAt.of_row hi (by rw [bls_length]; exact hl)
  refine ⟨a, h1, ?_, h3⟩
  rcases hi.2.2 with ⟨h4, h5⟩ | ⟨g, cap', cur, h4, h5, _⟩
  · simp only [Value.slice.injEq] at h4
    rw [h4.1] at h1; cases h1
  · simp only [Value.slice.injEq] at h4
    rw [h4.1] at h1
    obtain rfl := Option.some.inj h1
    exact ⟨Nat.le_trans hB h5, h2⟩
theorem bls_oneL : ∀ (l : List Bool), oneL (bls l) = true
  | [] => rfl
  | b :: l => by
    show (Value.oneCell' (.bool b) && oneL (bls l)) = true
    rw [bls_oneL l]; rfl
theorem ints_oneL : ∀ (l : List Int), oneL (ints l) = true
  | [] => rfl
  | b :: l => by
    show (Value.oneCell' (.int .i64 b) && oneL (ints l)) = true
    rw [ints_oneL l]; rfl
/-- the marked places below k -/
def onK (B : List Bool) (k : Nat) : List Int := ((List.range k).filter fun j => B.getD j false).map fun j : Nat => (j : Int)
theorem onK_succ (B : List Bool) (k : Nat) : onK B (k + 1) = onK B k ++ if B.getD k false then [(k : Int)] else [] := by
  unfold onK
  rw [List.range_succ, List.filter_append, List.map_append]
  congr 1
  cases h : B.getD k false with
  | false => rw [List.filter_cons_of_neg (by simp only [h]; decide)]; rfl
  | true => rw [List.filter_cons_of_pos (by simpa using h)]; rfl
theorem onK_len (B : List Bool) (k : Nat) : (onK B k).length ≤ k := by
  unfold onK
  rw [List.length_map]
  have := List.length_filter_le (fun j => B.getD j false) (List.range k)
  simpa using this
end Go.Ss
namespace Go.Proofs.Ytehelljmaiophaa.ss
set_option maxRecDepth 100000
open Go.Eng Go.RowKit Go.Ss
set_option linter.unusedVariables false
set_option linter.unusedSimpArgs false
theorem Fresh1_calls (bn : Nat) (a v : Int) (H : List Eng.Item) (S : List World) (w : World) (hc : Cls (blk bn 3 [.int .i64 a] :: H) S w) :
    Calls Try.prog 82 [.int .i64 v, .pointer (some ⟨bn, 0, none⟩)].toArray w fun e w' => e = .returned (.tuple #[]) ∧ Cls (blk bn 3 [.int .i64 (wmax a v)] :: H) S w' := by
  refine enter Try.func82 rfl Try.ntmps82 rfl hc ?_
  (simp only [argEnv, Nat.zero_add, Nat.reduceAdd])
  apply W.reg
  apply old; rfl; rfl; exact .head _; rfl; rfl
  apply omv; rfl; rfl
  apply obn; rfl; rfl; rfl; apply Bin.add
  apply oop; rfl; apply Pev.max2; rfl; exact yes; rfl; exact yes
  apply OL.storeB; rfl; rfl; exact CellsL.one rfl; rfl; rfl; rfl; exact Swap.au; exact Put.au
  apply OL.nil
  refine At.end_ (At.fin0 rfl (fun w' hw' => ⟨rfl, ?_⟩))
  unfold wmax
  exact hw'
theorem values_calls (bn : Nat) (es : List (Bk × BkY)) (q : Option Addr) (cap : Nat) (nm : Int) (s0 : World) (he : Arr bkR s0 (low s0) es q) (hlen : es.length ≤ 140737488355328) (S : List World) (hs0 : s0 ∈ S) (hbn : s0.heap.size ≤ bn) (w : World) (hc : Cls [blk bn 3 [.int .i64 0]] S w) :
    Calls Try.prog 81 [.agg #[.int .i64 nm, .slice q es.length cap], .func (.func 82) ([] : List Value).toArray [.pointer (some ⟨bn, 0, none⟩)].toArray].toArray w fun e w' => e = .returned (.tuple #[]) ∧ Cls [blk bn 3 [.int .i64 (freshF (es.map Prod.fst))]] S w' := by
  obtain ⟨bs, hbs⟩ : ∃ bs, es.map Prod.fst = bs := ⟨_, rfl⟩
  have hbl : bs.length = es.length := by rw [← hbs, List.length_map]
  rw [hbs]
  refine enter Try.func81 rfl Try.ntmps81 rfl hc ?_
  (simp only [argEnv, Nat.zero_add, Nat.reduceAdd])
  apply W.sr
  apply OL.box; rfl; rfl; exact CellsL.agg; intro bk hbk
  apply OL.nsr
  apply ofa; rfl; rfl; rfl
  apply old; rfl; rfl; exact .head _; rfl; rfl
  apply oop; rfl; apply Pev.len_slice; rfl; exact yes; rfl
  apply omv; rfl; rfl
  apply OL.nx
  apply W.block
  have hbF : AllLe S bk := by first | exact hbk | exact AllLe.mk hc
  refine W.loop (G := Nat) (fun k => k ≤ es.length) (fun k => es.length - k)
    (fun k => [(1, true, .func (.func 82) ([] : List Value).toArray [.pointer (some ⟨bn, 0, none⟩)].toArray), (11, true, .slice q es.length cap), (12, true, .int .i64 (es.length : Int)), (13, true, .int .i64 (k : Int))])
    (fun k => Cls [blk bn 3 [.int .i64 (freshF (bs.take k))]] S) 0 (by omega) (by exact Sub.au) (fun w' hw' => hw'.thin (.any (fun k hk => by rw [show k = bk from hk]; exact hbF) Thin.same)) ?_
  rintro k hk
  apply W.sr
  apply obn; rfl; rfl; rfl; apply Bin.lss
  apply OL.nx
  apply W.seq
  (refine W.cnd (fun hlt => ?_) (fun hlt => ?_)) <;> (try (exfalso; first | omega | exact hlt trivial | contradiction))
  · have hkl : k < es.length := by omega
    obtain ⟨a, p, hqa, hab, hp, hcell, hok⟩ := he.get hkl
    have hab : a.block < s0.heap.size := hab
    have hcell : CellsAt s0 (a.add (k * 7)) [.slice p.2.p.1 p.1.params.length p.2.p.2, .slice p.2.i.1 p.1.ins.length p.2.i.2, .int .i64 p.1.term.kind, .int .i64 p.1.term.arg, .int .i64 p.1.term.n, .slice p.2.t.c.1 p.1.term.cases.length p.2.t.c.2, .slice p.2.t.t.1 p.1.term.to_.length p.2.t.t.2] := hcell
    have hbsk : bs[k]? = some p.1 := by rw [← hbs, List.getElem?_map, hp]; rfl
    have hpl := hok.pl
    have hil := hok.il
    obtain ⟨pi, hpi, hiarr⟩ := hok.i
    have hpil : p.1.ins.length = pi.length := by rw [← hpi, List.length_map]
    have hnx : freshF (bs.take (k + 1)) = freshB (freshF (bs.take k)) p.1 := by
      unfold freshF
      rw [List.take_add_one, hbsk, Option.toList_some, List.foldl_append]
      rfl
    unfold freshB at hnx
    generalize freshF (bs.take k) = z0 at *
    rw [hqa]
    apply W.sk
    apply W.sb
    apply W.sr
    apply oop; rfl; apply Pev.idx; rfl; exact yes; rfl; exact yes; rfl; rfl; intro hcond; omega
    apply oop; rfl; apply Pev.load_keptA; rfl; exact yes; assumption; rfl; intro hcond; assumption; rfl; intro hcond; (rw [add_block]; assumption); intro hcond; exact NotOwned.au
    apply OL.alloc; rfl; rfl; exact CellsL.agg; intro bk hbk
    apply OL.storeB; rfl; rfl; exact CellsL.agg; rfl; rfl; rfl; exact Swap.au; exact Put.au
    apply OL.nx
    apply W.seq
    apply W.sr
    apply ofa; rfl; rfl; rfl
    apply old; rfl; rfl; exact .head _; rfl; rfl
    apply oop; rfl; apply Pev.len_slice; rfl; exact yes; rfl
    apply omv; rfl; rfl
    apply OL.nx
    apply W.block
    revert bk
    intro b5 hb5
    have hb51 : AllLe S b5 := by first | exact hb5 | exact hb5.1
    have hb52 : s0.heap.size ≤ b5 := hb51.mem s0 hs0
    have hFr := fun a v => Fresh1_calls bn a v
    refine W.loop (G := Nat) (fun j => j ≤ p.1.params.length) (fun j => p.1.params.length - j)
      (fun j => [(1, true, .func (.func 82) ([] : List Value).toArray [.pointer (some ⟨bn, 0, none⟩)].toArray), (5, true, .pointer (some ⟨b5, 0, none⟩)), (11, true, .slice (some a) es.length cap), (12, true, .int .i64 (es.length : Int)), (13, true, .int .i64 (k : Int)), (18, true, .slice p.2.p.1 p.1.params.length p.2.p.2), (19, true, .int .i64 (p.1.params.length : Int)), (20, true, .int .i64 (j : Int))])
      (fun j => Cls [blk b5 41 [.slice p.2.p.1 p.1.params.length p.2.p.2, .slice p.2.i.1 p.1.ins.length p.2.i.2, .int .i64 p.1.term.kind, .int .i64 p.1.term.arg, .int .i64 p.1.term.n, .slice p.2.t.c.1 p.1.term.cases.length p.2.t.c.2, .slice p.2.t.t.1 p.1.term.to_.length p.2.t.t.2], blk bn 3 [.int .i64 ((p.1.params.take j).foldl wmax z0)]] S) 0 (by omega) (by exact Sub.au) (fun w' hw' => hw') ?_
    rintro j hj
    apply W.sr
    apply obn; rfl; rfl; rfl; apply Bin.lss
    apply OL.nx
    apply W.seq
    (refine W.cnd (fun hlt1 => ?_) (fun hlt1 => ?_)) <;> (try (exfalso; first | omega | exact hlt1 trivial | contradiction))
    · obtain ⟨av, v, hqv, habv, hv, hcv⟩ := hok.p.get (show j < p.1.params.length by omega)
      have habv : av.block < s0.heap.size := habv
      have hn1 : (p.1.params.take (j + 1)).foldl wmax z0 = wmax ((p.1.params.take j).foldl wmax z0) v := by
        rw [List.take_add_one, hv, Option.toList_some, List.foldl_append]
        rfl
      rw [hqv]
      apply W.sk
      apply W.sb
      apply W.sr
      apply oop; rfl; apply Pev.idx; rfl; exact yes; rfl; exact yes; rfl; rfl; intro hcond; omega
      apply oop; rfl; apply Pev.load_kept; rfl; exact yes; assumption; rfl; intro hcond; assumption; intro hcond; (rw [add_block]; assumption); intro hcond; exact NotOwned.au
      apply oas; rfl; rfl
      apply OL.nx
      apply W.reg
      apply omv; rfl; rfl
      apply omv; rfl; rfl
      refine OL.callvE (α := Unit) (first := []) (cap := [.pointer (some ⟨bn, 0, none⟩)]) (vs := [.int .i64 v]) (fun _ => .tuple #[]) (fun _ => True) (fun _ => Cls [blk b5 41 [.slice (some av) p.1.params.length p.2.p.2, .slice p.2.i.1 p.1.ins.length p.2.i.2, .int .i64 p.1.term.kind, .int .i64 p.1.term.arg, .int .i64 p.1.term.n, .slice p.2.t.c.1 p.1.term.cases.length p.2.t.c.2, .slice p.2.t.t.1 p.1.term.to_.length p.2.t.t.2], blk bn 3 [.int .i64 (wmax ((p.1.params.take j).foldl wmax z0) v)]] S) rfl rfl rfl (by exact Args.au) (fun w2 hw2 => (hFr _ v _ _ w2 hw2.flip).mono fun e w3 h => ⟨(), h.1, trivial, h.2.flip⟩) ?_
      intro _ _
      apply OL.nil
      with_reducible apply At.in_normal
      with_reducible apply At.next
      apply W.reg
      apply obn; rfl; rfl; rfl; apply Bin.add_in; omega
      apply omv; rfl; rfl
      apply OL.nil
      exact At.again (j + 1) (by omega) (by omega) (by exact Sub.au) (fun w' hw' => by simp only [hn1]; exact hw')
    obtain rfl : j = p.1.params.length := by omega
    rw [List.take_length]
    generalize p.1.params.foldl wmax z0 = z1 at *
    refine W.xt ?_
    with_reducible apply At.next
    apply W.sr
    apply ofa; rfl; rfl; rfl
    apply old; rfl; rfl; exact .head _; rfl; rfl
    apply oop; rfl; apply Pev.len_slice; rfl; exact yes; rfl
    apply omv; rfl; rfl
    apply OL.nx
    apply W.block
    refine W.loop (G := Nat) (fun j => j ≤ pi.length) (fun j => pi.length - j)
      (fun j => [(1, true, .func (.func 82) ([] : List Value).toArray [.pointer (some ⟨bn, 0, none⟩)].toArray), (11, true, .slice (some a) es.length cap), (12, true, .int .i64 (es.length : Int)), (13, true, .int .i64 (k : Int)), (29, true, .slice p.2.i.1 pi.length p.2.i.2), (30, true, .int .i64 (pi.length : Int)), (31, true, .int .i64 (j : Int))])
      (fun j => Cls [blk bn 3 [.int .i64 (((p.1.ins.map In.to_).take j).foldl wmax z1)]] S) 0 (by omega) (by rw [← hpil]; exact Sub.au) (fun w' hw' => hw'.thin (.any (fun k hk => by rw [show k = b5 from hk]; exact hb51) Thin.same)) ?_
    rintro j hj
    apply W.sr
    apply obn; rfl; rfl; rfl; apply Bin.lss
    apply OL.nx
    apply W.seq
    (refine W.cnd (fun hlt2 => ?_) (fun hlt2 => ?_)) <;> (try (exfalso; first | omega | exact hlt2 trivial | contradiction))
    · obtain ⟨ai, u, hqi, haib, hu, hcu, hoku⟩ := hiarr.get (show j < pi.length by omega)
      have haib : ai.block < s0.heap.size := haib
      have hcu : CellsAt s0 (ai.add (j * 4)) [.int .i64 u.1.to_, .int .i64 u.1.op, .int .i64 u.1.n, .slice u.2.1 u.1.args.length u.2.2] := hcu
      have hui : (p.1.ins.map In.to_)[j]? = some u.1.to_ := by rw [← hpi]; simp [hu]
      have hn1 : ((p.1.ins.map In.to_).take (j + 1)).foldl wmax z1 = wmax (((p.1.ins.map In.to_).take j).foldl wmax z1) u.1.to_ := by
        rw [List.take_add_one, hui, Option.toList_some, List.foldl_append]
        rfl
      rw [hqi]
      apply W.sk
      apply W.sb
      apply W.sr
      apply oop; rfl; apply Pev.idx; rfl; exact yes; rfl; exact yes; rfl; rfl; intro hcond; omega
      apply oop; rfl; apply Pev.load_keptA; rfl; exact yes; assumption; rfl; intro hcond; assumption; rfl; intro hcond; (rw [add_block]; assumption); intro hcond; exact NotOwned.au
      apply OL.alloc; rfl; rfl; exact CellsL.agg; intro bk hbk
      apply OL.storeB; rfl; rfl; exact CellsL.agg; rfl; rfl; rfl; exact Swap.au; exact Put.au
      apply OL.nx
      apply W.reg
      apply omv; rfl; rfl
      apply ofa; rfl; rfl; rfl
      apply old; rfl; rfl; exact .head _; rfl; rfl
      have hb9 : AllLe S bk := by first | exact hbk | exact hbk.1
      refine OL.callvE (α := Unit) (first := []) (cap := [.pointer (some ⟨bn, 0, none⟩)]) (vs := [.int .i64 u.1.to_]) (fun _ => .tuple #[]) (fun _ => True) (fun _ => Cls [blk bk 85 [.int .i64 u.1.to_, .int .i64 u.1.op, .int .i64 u.1.n, .slice u.2.1 u.1.args.length u.2.2], blk bn 3 [.int .i64 (wmax (((p.1.ins.map In.to_).take j).foldl wmax z1) u.1.to_)]] S) rfl rfl rfl (by exact Args.au) (fun w2 hw2 => (hFr _ u.1.to_ _ _ w2 hw2.flip).mono fun e w3 h => ⟨(), h.1, trivial, h.2.flip⟩) ?_
      intro _ _
      apply OL.nil
      with_reducible apply At.in_normal
      with_reducible apply At.next
      apply W.reg
      apply obn; rfl; rfl; rfl; apply Bin.add_in; omega
      apply omv; rfl; rfl
      apply OL.nil
      exact At.again (j + 1) (by omega) (by omega) (by exact Sub.au) (fun w' hw' => by simp only [hn1]; exact hw'.thin (.any (fun k hk => by rw [show k = bk from hk]; exact hb9) Thin.same))
    obtain rfl : j = pi.length := by omega
    rw [show (p.1.ins.map In.to_).take pi.length = p.1.ins.map In.to_ by rw [List.take_of_length_le]; simp [hpil]]
    rw [← hnx]
    refine W.xt ?_
    with_reducible apply At.in_normal
    with_reducible apply At.next
    apply W.reg
    apply obn; rfl; rfl; rfl; apply Bin.add_in; omega
    apply omv; rfl; rfl
    apply OL.nil
    exact At.again (k + 1) (by omega) (by omega) (by exact Sub.au) (fun w' hw' => hw')
  obtain rfl : k = es.length := by omega
  rw [← hbl, List.take_length]
  refine W.xt ?_
  exact At.end_ (At.fin0 rfl (fun w' hw' => ⟨rfl, hw'⟩))
theorem SFresh_calls (es : List (Bk × BkY)) (q : Option Addr) (cap : Nat) (nm : Int) (w : World) (he : Arr bkR w (low w) es q) (hlen : es.length ≤ 140737488355328) :
    Calls Try.prog 31 [.agg #[.int .i64 nm, .slice q es.length cap]].toArray w fun e w' => e = .returned (.int .i64 (freshF (es.map Prod.fst))) ∧ Ext w w' := by
  refine enter Try.func31 rfl Try.ntmps31 rfl (Cls.start w) ?_
  (simp only [argEnv, Nat.zero_add, Nat.reduceAdd])
  apply W.sr
  apply OL.box; rfl; rfl; exact CellsL.agg; (intro bk hbk; simp only [AllLe, and_true] at hbk)
  apply oas; rfl; rfl
  apply OL.nsr
  apply OL.alloc; rfl; rfl; exact CellsL.one rfl; (intro bk hbk; simp only [AllLe, and_true] at hbk)
  apply OL.storeB; rfl; rfl; exact CellsL.one rfl; rfl; rfl; rfl; exact Swap.au; exact Put.au
  apply OL.nsr
  apply oop; rfl; apply Pev.load_blkA; rfl; exact yes; exact .tail _ (.head _); rfl; exact Take.au
  apply oop; rfl; apply Pev.makeFunc; exact Args.au; exact Args.au
  have hbn : w.heap.size ≤ bk := by first | exact hbk | exact hbk.1
  refine OL.callE (α := Unit) (fun _ => .tuple #[]) (fun _ => True) (fun _ => Cls [blk bk 3 [.int .i64 (freshF (es.map Prod.fst))]] [w]) rfl rfl (by exact Args.au) (fun w2 hw2 => (values_calls bk es q cap nm w he hlen [w] (.head _) hbn w2 (hw2.thin (.keep (.any (fun k hk => by rw [show k = _ from hk]; exact ⟨by assumption, trivial⟩) Thin.nil)))).mono fun e w3 h => ⟨(), h.1, trivial, h.2⟩) ?_
  intro _ _
  apply OL.nsr
  apply old; rfl; rfl; exact .head _; rfl; rfl
  apply oas; rfl; rfl
  apply OL.nx
  apply W.ret
  ((with_reducible apply At.fin1); rfl; rfl; intro w' hw')
  exact ⟨rfl, (hw'.thin (.any (fun k hk => by rw [show k = bk from hk]; exact ⟨hbn, trivial⟩) Thin.nil)).fr (by exact mau) (fun k hk => NotOwned.nil)⟩
/-- a copy, as a grown row -/
theorem BClone_calls (q : Option Addr) (cap : Nat) (l : List Bool) (w : World) (h : BoolsO w (low w) l q) (hl : l.length ≤ 1000000) (hn : 0 < l.length) :
    Calls Try.prog 104 [.slice q l.length cap].toArray w fun e w' => ∃ O q' c, e = .returned (.slice q' l.length c) ∧ Cls [row w.heap.size O q' l.length c 4 1 (bls l)] [w] w' := by
  refine enter Try.func104 rfl Try.ntmps104 rfl (Cls.start w) ?_
  (simp only [argEnv, Nat.zero_add, Nat.reduceAdd])
  obtain ⟨a, rfl, _⟩ := h hn
  apply W.sr
  apply oas; rfl; rfl
  apply OL.nx
  apply W.seq
  apply W.sr
  apply omv; rfl; rfl
  apply obn; rfl; rfl; rfl; apply Bin.slice_nil; rfl
  apply OL.nx
  refine W.cond rfl (fun hb => by simp at hb) (fun _ => ?_)
  apply W.sk
  apply W.sr
  apply OL.buildSlice; rfl; rfl; rfl; exact Elems.au; rfl; rfl; (intro bk hbk; simp only [AllLe, and_true] at hbk)
  apply omv; rfl; rfl
  refine OL.cls (fun w' hw' => hw'.blk_row (base := w.heap.size) (m := 0) (sz := 1) (by first | exact hbk | exact hbk.1) rfl (by decide)) ?_
  (apply OL.appendK (news := bls l)); rfl; rfl; rfl; rfl; (exact Hole.au); (exact fun w2 hw2 => (h.at hw2 (.head _) (fun k hk => NotOwned.row (by omega) NotOwned.nil)).slAt); (rw [bls_length, Nat.mul_one]); (exact bls_oneL _); (exact ⟨w, .head _, Nat.le_refl _⟩); (omega); (intro O1 q1 c1)
  simp only [Nat.zero_add, List.nil_append]
  apply oas; rfl; rfl
  apply OL.nx
  apply W.ret
  ((with_reducible apply At.fin1); rfl; rfl; intro w' hw')
  exact ⟨O1, q1, c1, rfl, hw'⟩
theorem BEqual_calls (q1 q2 : Option Addr) (cap1 cap2 : Nat) (l1 l2 : List Bool) (w : World) (hl1 : l1.length ≤ 9223372036854775807) (hl2 : l2.length ≤ 9223372036854775807) (h1 : BoolsO w (low w) l1 q1) (h2 : BoolsO w (low w) l2 q2) :
    Calls Try.prog 103 [.slice q1 l1.length cap1, .slice q2 l2.length cap2].toArray w fun e w' => e = .returned (.bool (decide (l1 = l2))) ∧ Ext w w' := by
  refine enter Try.func103 rfl Try.ntmps103 rfl (Cls.start w) ?_
  (simp only [argEnv, Nat.zero_add, Nat.reduceAdd])
  apply W.sr
  apply oas; rfl; rfl
  apply OL.nx
  apply W.seq
  apply W.sr
  apply omv; rfl; rfl
  apply oop; rfl; apply Pev.len_slice; rfl; exact yes; rfl
  apply omv; rfl; rfl
  apply oop; rfl; apply Pev.len_slice; rfl; exact yes; rfl
  apply obn; rfl; rfl; rfl; apply Bin.neq
  apply OL.nx
  (refine W.cnd (fun hne => ?_) (fun hne => ?_)) <;> (try (exfalso; first | omega | exact hne trivial | contradiction))
  · apply W.sr
    apply oas; rfl; rfl
    apply OL.nx
    refine W.rt ?_
    ((with_reducible apply At.fin1); rfl; rfl; intro w' hw')
    have : ¬ l1 = l2 := fun e => by subst e; exact hne rfl
    exact ⟨by simp [this], by (exact hw'.fr)⟩
  apply W.sk
  apply W.seq
  apply W.sr
  apply omv; rfl; rfl
  apply oop; rfl; apply Pev.len_slice; rfl; exact yes; rfl
  apply omv; rfl; rfl
  apply OL.nx
  apply W.block
  refine W.loop (G := Nat) (fun i => i ≤ l1.length ∧ ∀ j, j < i → l1[j]? = l2[j]?) (fun i => l1.length - i)
    (fun i => [(13, true, .int .i64 (i : Int)), (12, true, .int .i64 (l1.length : Int)), (0, true, .slice q1 l1.length cap1), (1, true, .slice q2 l2.length cap2)])
    (fun i => Cls [] [w]) 0 ⟨by omega, fun j hj => by omega⟩ (by exact Sub.au) (fun w' hw' => hw') ?_
  rintro i ⟨hi, hsame⟩
  apply W.sr
  apply obn; rfl; rfl; rfl; apply Bin.lss
  apply OL.nx
  apply W.seq
  (refine W.cnd (fun hlt => ?_) (fun hlt => ?_)) <;> (try (exfalso; first | omega | exact hlt trivial | contradiction))
  · obtain ⟨a, u, rfl, hab, hu, hcell⟩ := h1.get (show i < l1.length by omega)
    obtain ⟨a2, u2, rfl, hab2, hu2, hcell2⟩ := h2.get (show i < l2.length by omega)
    have hab : a.block < w.heap.size := hab
    have hab2 : a2.block < w.heap.size := hab2
    apply W.sk
    apply W.sb
    apply W.sr
    apply omv; rfl; rfl
    apply oas; rfl; rfl
    apply OL.nx
    apply W.seq
    apply W.regd0; decide +kernel; kernel_rfl; decide +kernel; exact fun w hw => hw.drew
    apply qmv; rfl; rfl
    apply qmv; rfl; rfl
    apply qop; rfl; apply Pev.idx; rfl; exact yes; rfl; exact yes; rfl; rfl; intro hcond; omega
    apply qop; rfl; apply Pev.load_kept; rfl; exact yes; exact .head _; rfl; intro hcond; assumption; intro hcond; (rw [add_block]; assumption); intro hcond; exact NotOwned.au
    apply qmv; rfl; rfl
    apply qmv; rfl; rfl
    apply qop; rfl; apply Pev.idx; rfl; exact yes; rfl; exact yes; rfl; rfl; intro hcond; omega
    apply qop; rfl; apply Pev.load_kept; rfl; exact yes; exact .head _; rfl; intro hcond; assumption; intro hcond; (rw [add_block]; assumption); intro hcond; exact NotOwned.au
    apply qbn; rfl; rfl; rfl; apply Bin.bool_neq; rfl
    apply QL.nil
    with_reducible apply At.next
    refine W.cond rfl (fun hd => ?_) (fun hd => ?_)
    · apply W.sr
      apply oas; rfl; rfl
      apply OL.nx
      refine W.rt ?_
      ((with_reducible apply At.fin1); rfl; rfl; intro w' hw')
      have : ¬ l1 = l2 := fun e => by
        subst e
        rw [hu] at hu2
        obtain rfl := Option.some.inj hu2
        cases u <;> simp at hd
      exact ⟨by simp [this], by (exact hw'.fr)⟩
    · apply W.skip
      with_reducible apply At.in_normal
      with_reducible apply At.next
      apply W.reg
      apply obn; rfl; rfl; rfl; apply Bin.add_in; omega
      apply omv; rfl; rfl
      apply OL.nil
      refine At.again (i + 1) ⟨by omega, fun j hj => ?_⟩ (by omega) (by exact Sub.au) (fun w' hw' => hw')
      by_cases hji : j = i
      · subst hji
        rw [hu, hu2]
        cases u <;> cases u2 <;> simp at hd ⊢
      · exact hsame j (by omega)
  · refine W.xt ?_
    with_reducible apply At.next
    apply W.sr
    apply oas; rfl; rfl
    apply OL.nx
    apply W.ret
    ((with_reducible apply At.fin1); rfl; rfl; intro w' hw')
    have : l1 = l2 := List.ext_getElem? fun j => by
      rcases Nat.lt_or_ge j l1.length with h | h
      · exact hsame j (by omega)
      · rw [List.getElem?_eq_none h, List.getElem?_eq_none (by omega)]
    exact ⟨by simp [this], by (exact hw'.fr)⟩
theorem list_calls (q : Option Addr) (cap : Nat) (l : List Bool) (w : World) (h : BoolsO w (low w) l q) (hl : l.length ≤ 1000000) :
    Calls Try.prog 63 [.slice q l.length cap].toArray w fun e w' => ∃ O q' c, e = .returned (.slice q' (onK l l.length).length c) ∧ Cls [row w.heap.size O q' (onK l l.length).length c 3 1 (ints (onK l l.length))] [w] w' := by
  refine enter Try.func63 rfl Try.ntmps63 rfl (Cls.start w) ?_
  (simp only [argEnv, Nat.zero_add, Nat.reduceAdd])
  apply W.sr
  apply oas; rfl; rfl
  apply OL.nsr
  apply oas; rfl; rfl
  apply OL.nx
  apply W.seq
  apply W.sr
  apply omv; rfl; rfl
  apply oop; rfl; apply Pev.len_slice; rfl; exact yes; rfl
  apply omv; rfl; rfl
  apply OL.nx
  apply W.block
  refine W.loop (G := Nat × GR) (fun g => g.1 ≤ l.length) (fun g => l.length - g.1)
    (fun g => [(3, true, .slice g.2.q (onK l g.1).length g.2.c), (6, true, .slice q l.length cap), (7, true, .int .i64 (l.length : Int)), (8, true, .int .i64 (g.1 : Int))])
    (fun g => Cls [row w.heap.size g.2.O g.2.q (onK l g.1).length g.2.c 3 1 (ints (onK l g.1))] [w]) (0, ⟨fun _ => False, none, 0⟩) (by simp) (by exact Sub.au) (fun w' hw' => hw'.row_nil w.heap.size 3 1) ?_
  rintro ⟨k, ⟨O0, q0, c0⟩⟩ hk
  simp only at hk ⊢
  apply W.sr
  apply obn; rfl; rfl; rfl; apply Bin.lss
  apply OL.nx
  apply W.seq
  (refine W.cnd (fun hlt => ?_) (fun hlt => ?_)) <;> (try (exfalso; first | omega | exact hlt trivial | contradiction))
  · have hkl : k < l.length := by omega
    obtain ⟨a, u, rfl, hab, hu, hcell⟩ := h.get hkl
    have hab : a.block < w.heap.size := hab
    have hsc := onK_succ l k
    have hal := onK_len l k
    have hgd : l.getD k false = u := by rw [List.getD_eq_getElem?_getD, hu]; rfl
    rw [hgd] at hsc
    apply W.sk
    apply W.sb
    apply W.sr
    apply omv; rfl; rfl
    apply oop; rfl; apply Pev.idx; rfl; exact yes; rfl; exact yes; rfl; rfl; intro hcond; omega
    apply oop; rfl; apply Pev.load_kept; rfl; exact yes; exact .head _; rfl; intro hcond; assumption; intro hcond; (rw [add_block]; assumption); intro hcond; exact NotOwned.au
    apply oas; rfl; rfl
    apply oas; rfl; rfl
    apply OL.nsr
    apply omv; rfl; rfl
    apply OL.nx
    cases u with
    | true =>
      rw [if_pos rfl] at hsc
      refine W.cond rfl (fun _ => ?_) (fun h => by cases h)
      apply W.reg
      apply omv; rfl; rfl
      apply omv; rfl; rfl
      apply OL.buildSlice; rfl; rfl; rfl; exact Elems.au; rfl; rfl; (intro bk hbk; simp only [AllLe, and_true] at hbk)
      apply OL.append; rfl; rfl; rfl; rfl; exact Hole.au; exact .head _; exact Take.au; rfl; rfl; exact ⟨_, .head _, Nat.le_refl _⟩; omega; intro O1 g1 cap1
      apply oas; rfl; rfl
      apply OL.nil
      with_reducible apply At.in_normal
      with_reducible apply At.next
      apply W.reg
      apply obn; rfl; rfl; rfl; apply Bin.add_in; omega
      apply omv; rfl; rfl
      apply OL.nil
      refine At.again (k + 1, ⟨O1, some ⟨g1, 0, none⟩, cap1⟩) (by simp only; omega) (by simp only; omega) (by simp only [hsc, List.length_append, List.length_cons, List.length_nil]; exact Sub.au) (fun w' hw' => ?_)
      simp only [hsc, ints_append, List.length_append, List.length_cons, List.length_nil]
      exact hw'.thin (.any (fun k hk => by rw [show k = bk from hk]; exact ⟨by first | exact hbk | exact hbk.1, trivial⟩) Thin.same)
    | false =>
      rw [if_neg (by decide), List.append_nil] at hsc
      refine W.cond rfl (fun h => by cases h) (fun _ => ?_)
      apply W.skip
      with_reducible apply At.in_normal
      with_reducible apply At.next
      apply W.reg
      apply obn; rfl; rfl; rfl; apply Bin.add_in; omega
      apply omv; rfl; rfl
      apply OL.nil
      refine At.again (k + 1, ⟨O0, q0, c0⟩) (by simp only; omega) (by simp only; omega) (by simp only [hsc]; exact Sub.au) (fun w' hw' => by simp only [hsc]; exact hw')
  · obtain rfl : k = l.length := by omega
    refine W.xt ?_
    with_reducible apply At.next
    apply W.sr
    apply omv; rfl; rfl
    apply oas; rfl; rfl
    apply OL.nx
    apply W.ret
    ((with_reducible apply At.fin1); rfl; rfl; intro w' hw')
    exact ⟨O0, q0, c0, rfl, hw'⟩
end Go.Proofs.Ytehelljmaiophaa.ss

/- The walk of live's last. Conditions: none. -/
namespace Go.Ss
open Go.Eng Go.RowKit
set_option linter.unusedVariables false
set_option linter.unusedSimpArgs false
def slS (p : List Bool × Sc) : Value := .slice p.2.1 p.1.length p.2.2
def edgeB (bs : List Bk) (F : List (List Bool)) (e : Ed) (v : Nat) : Bool := (F.getD e.block.toNat []).getD v false && !decide ((v : Int) ∈ (bs.getD e.block.toNat noB).params)
theorem marks_append (l m : List Int) (s : List Bool) : marks (l ++ m) s = marks m (marks l s) := by unfold marks; rw [List.foldl_append]
theorem marks_snoc (l : List Int) (a : Int) (s : List Bool) : marks (l ++ [a]) s = (marks l s).set a.toNat true := by rw [marks_append]; rfl
/-- what has been marked is what is live at the end -/
theorem last_eq {bs : List Bk} {m : Nat} {F : List (List Bool)} {t : Tm} {g : Nat → Bool} {s : List Bool} (ho : ∀ v ∈ operT t, 0 ≤ v ∧ v < (m : Int)) (hg : ∀ v, g v = t.to_.any fun e => edgeB bs F e v)
    (hs : s = if t.kind = 0 ∨ t.kind = 2 ∨ t.kind = 3 then (tab m g).set t.arg.toNat true else tab m g) : marks (t.to_.flatMap Ed.args) s = tab m (lastG bs F t) := by
  have hsl : s.length = m := by rw [hs]; split <;> simp [tab_length]
  have hm2 : ∀ a ∈ t.to_.flatMap Ed.args, 0 ≤ a ∧ a < (s.length : Int) := fun a ha => by
    rw [hsl]
    exact ho a (List.mem_append_right _ ha)
  refine on_ext (by rw [marks_length, hsl, tab_length]) fun v => ?_
  rw [marks_on hm2, tab_on]
  have hlg : lastG bs F t v = (decide ((v : Int) ∈ operT t) || g v) := by rw [hg]; rfl
  have hop : (v : Int) ∈ operT t ↔ ((t.kind = 0 ∨ t.kind = 2 ∨ t.kind = 3) ∧ (v : Int) = t.arg) ∨ (v : Int) ∈ t.to_.flatMap Ed.args := by
    unfold operT
    rw [List.mem_append]
    split
    · rename_i h; simp [h]
    · rename_i h; simp [h]
  rw [hlg, Bool.or_eq_true, decide_eq_true_eq, hop]
  have hlt : (v : Int) ∈ t.to_.flatMap Ed.args → v < m := fun h => by have := ho v (List.mem_append_right _ h); omega
  by_cases hk : t.kind = 0 ∨ t.kind = 2 ∨ t.kind = 3
  · rw [if_pos hk] at hs
    have ha := ho t.arg (by unfold operT; rw [if_pos hk]; exact List.mem_append_left _ (.head _))
    have hsv : On s v ↔ v = t.arg.toNat ∨ (v < m ∧ g v = true) := by
      rw [hs, on_set (by rw [tab_length]; omega), tab_on]
      constructor
      · rintro (⟨h1, _⟩ | ⟨_, h1⟩)
        · exact .inl h1
        · exact .inr h1
      · rintro (h1 | h1)
        · exact .inl ⟨h1, rfl⟩
        · by_cases e : v = t.arg.toNat
          · exact .inl ⟨e, rfl⟩
          · exact .inr ⟨e, h1⟩
    rw [hsv]
    constructor
    · rintro (h1 | h1 | ⟨h1, h2⟩)
      · exact ⟨hlt h1, .inl (.inr h1)⟩
      · exact ⟨by omega, .inl (.inl ⟨hk, by omega⟩)⟩
      · exact ⟨h1, .inr h2⟩
    · rintro ⟨h1, (⟨_, h2⟩ | h2) | h2⟩
      · exact .inr (.inl (by omega))
      · exact .inl h2
      · exact .inr (.inr ⟨h1, h2⟩)
  · rw [if_neg hk] at hs
    rw [hs, tab_on]
    constructor
    · rintro (h1 | ⟨h1, h2⟩)
      · exact ⟨hlt h1, .inl (.inr h1)⟩
      · exact ⟨h1, .inr h2⟩
    · rintro ⟨h1, (⟨h2, _⟩ | h2) | h2⟩
      · exact absurd h2 hk
      · exact .inl h2
      · exact .inr ⟨h1, h2⟩
end Go.Ss
namespace Go.Proofs.Ytehelljmaiophaa.ss
set_option maxRecDepth 100000
open Go.Eng Go.RowKit Go.Ss
set_option linter.unusedVariables false
set_option linter.unusedSimpArgs false
theorem last_calls (es : List (Bk × BkY)) (q : Option Addr) (cap : Nat) (nm : Int) (bL bFi m k : Nat) (vB : Value) (FI : List (List Bool × Sc)) (w : World) (he : Arr bkR w (low w) es q) (hlen : es.length ≤ 128) (hk : k < es.length) (hsh : shapeE (es.map Prod.fst) = 0)
    (hbd : Bnd (es.map Prod.fst) m) (hm : m ≤ 1000000) (hL : (blk bL 96 [.int .i64 nm, .slice q es.length cap, .int .i64 (m : Int), vB]).holds w) (hFi : (blk bFi 73 (FI.map slS)).holds w) (hFl : FI.length = es.length)
    (hFs : ∀ p ∈ FI, p.1.length ≤ m ∧ BoolsO w (low w) p.1 p.2.1) :
    Calls Try.prog 102 [.pointer (some ⟨bL, 0, none⟩), .int .i64 (k : Int), .slice (some ⟨bFi, 0, none⟩) es.length es.length].toArray w fun e w' => ∃ b, e = .returned (.slice (some ⟨b, 0, none⟩) m m) ∧ w.heap.size ≤ b ∧ Cls [blk b 4 (bls (tab m (lastG (es.map Prod.fst) (FI.map Prod.fst) ((es.map Prod.fst).getD k noB).term)))] [w] w' := by
  obtain ⟨bs, hbs⟩ : ∃ bs, es.map Prod.fst = bs := ⟨_, rfl⟩
  have hbl : bs.length = es.length := by rw [← hbs, List.length_map]
  rw [hbs] at hsh hbd ⊢
  obtain ⟨a, p, hqa, hab, hp, hcell, hok⟩ := he.get hk
  have hab : a.block < w.heap.size := hab
  have hcell : CellsAt w (a.add (k * 7)) [.slice p.2.p.1 p.1.params.length p.2.p.2, .slice p.2.i.1 p.1.ins.length p.2.i.2, .int .i64 p.1.term.kind, .int .i64 p.1.term.arg, .int .i64 p.1.term.n, .slice p.2.t.c.1 p.1.term.cases.length p.2.t.c.2, .slice p.2.t.t.1 p.1.term.to_.length p.2.t.t.2] := hcell
  have hkb : bs[k]? = some p.1 := by rw [← hbs, List.getElem?_map, hp]; rfl
  rw [show bs.getD k noB = p.1 by rw [List.getD_eq_getElem?_getD, hkb]; rfl]
  have htok := hok.t
  obtain ⟨ts, hts, harr⟩ := htok.t
  have htl := htok.tl
  have htl2 : p.1.term.to_.length = ts.length := by rw [← hts, List.length_map]
  obtain ⟨F, hF⟩ : ∃ F, FI.map Prod.fst = F := ⟨_, rfl⟩
  rw [hF]
  have hL0 : bL < w.heap.size := blk_lt hL
  have hFi0 : bFi < w.heap.size := blk_lt hFi
  have hLc : CellsAt w ⟨bL, 0, none⟩ [.int .i64 nm, .slice q es.length cap, .int .i64 (m : Int), vB] := fun j v hj => by rw [add_mid, blk_cell hL, Nat.zero_add]; exact hj
  have hLc1 : w.cell? ⟨bL, 0 + 0 + 1, none⟩ = some (.slice q es.length cap) := hLc 1 _ rfl
  have hLc2 : w.cell? ⟨bL, 0 + 2, none⟩ = some (.int .i64 (m : Int)) := hLc 2 _ rfl
  have hcT : CellsAt w ((a.add (k * 7)).add 2) [.int .i64 p.1.term.kind, .int .i64 p.1.term.arg, .int .i64 p.1.term.n, .slice p.2.t.c.1 p.1.term.cases.length p.2.t.c.2, .slice p.2.t.t.1 p.1.term.to_.length p.2.t.t.2] := fun j v hj => by
    rw [add_add]
    exact hcell (2 + j) v (by simpa [Nat.add_comm] using hj)
  subst hqa
  refine enter Try.func102 rfl Try.ntmps102 rfl (Cls.start w) ?_
  (simp only [argEnv, Nat.zero_add, Nat.reduceAdd])
  apply W.sr
  apply oas; rfl; rfl
  apply OL.nsr
  apply omv; rfl; rfl
  apply oop; rfl; apply Pev.nil_ptr; rfl; exact yes
  apply ofa; rfl; rfl; rfl
  apply ofa; rfl; rfl; rfl
  apply oop; rfl; apply Pev.load_kept; rfl; exact yes; exact .head _; rfl; intro hcond; assumption; intro hcond; assumption; intro hcond; exact NotOwned.au
  apply omv; rfl; rfl
  apply oop; rfl; apply Pev.idx; rfl; exact yes; rfl; exact yes; rfl; rfl; intro hcond; omega
  apply oop; rfl; apply Pev.fldA; rfl; exact yes; rfl
  apply oop; rfl; apply Pev.load_keptA; rfl; exact yes; exact .head _; rfl; intro hcond; assumption; rfl; intro hcond; (simp only [add_block]; assumption); intro hcond; exact NotOwned.au
  apply OL.alloc; rfl; rfl; exact CellsL.agg; (intro bk hbk; simp only [AllLe, and_true] at hbk)
  apply OL.storeB; rfl; rfl; exact CellsL.agg; rfl; rfl; rfl; exact Swap.au; exact Put.au
  apply OL.nsr
  apply omv; rfl; rfl
  apply oop; rfl; apply Pev.nil_ptr; rfl; exact yes
  apply ofa; rfl; rfl; rfl
  apply oop; rfl; apply Pev.load_kept; rfl; exact yes; exact .head _; rfl; intro hcond; assumption; intro hcond; assumption; intro hcond; exact NotOwned.au
  apply OL.makeSlice; rfl; rfl; rfl; rfl; rfl; rfl; rfl; omega; (intro bk hbk; simp only [AllLe, and_true] at hbk)
  apply oas; rfl; rfl
  apply OL.nx
  apply W.seq
  apply W.sr
  apply ofa; rfl; rfl; rfl
  apply old; rfl; rfl; exact .tail _ (.head _); rfl; rfl
  apply oop; rfl; apply Pev.len_slice; rfl; exact yes; rfl
  apply omv; rfl; rfl
  apply OL.nx
  apply W.block
  rename_i bT hbT
  revert bk
  intro bO hbO
  have hbT1 : w.heap.size ≤ bT := by first | exact hbT | exact hbT.1
  have hbO1 : w.heap.size ≤ bO := by first | exact hbO | exact hbO.1
  rw [bls_zero, tab_zero]
  refine W.loop (G := Nat) (fun j => j ≤ ts.length) (fun j => ts.length - j)
    (fun j => [(0, true, .pointer (some ⟨bL, 0, none⟩)), (2, true, .slice (some ⟨bFi, 0, none⟩) es.length es.length), (7, true, .pointer (some ⟨bT, 0, none⟩)), (8, true, .slice (some ⟨bO, 0, none⟩) m m), (32, true, .slice p.2.t.t.1 ts.length p.2.t.t.2), (33, true, .int .i64 (ts.length : Int)), (34, true, .int .i64 (j : Int))])
    (fun j => Cls [blk bO 4 (bls (tab m fun v => (p.1.term.to_.take j).any fun e => edgeB bs F e v)), blk bT 39 [.int .i64 p.1.term.kind, .int .i64 p.1.term.arg, .int .i64 p.1.term.n, .slice p.2.t.c.1 p.1.term.cases.length p.2.t.c.2, .slice p.2.t.t.1 ts.length p.2.t.t.2]] [w])
    0 (by omega) (by rw [htl2]; exact Sub.au) (fun w' hw' => by rw [htl2] at hw'; exact hw') ?_
  rintro j hj
  apply W.sr
  apply obn; rfl; rfl; rfl; apply Bin.lss
  apply OL.nx
  apply W.seq
  (refine W.cnd (fun hlt => ?_) (fun hlt => ?_)) <;> (try (exfalso; first | omega | exact hlt trivial | contradiction))
  · have hjl : j < ts.length := by omega
    obtain ⟨ae, u, hqt, hatb, hu, hcu, hoku⟩ := harr.get hjl
    have hatb : ae.block < w.heap.size := hatb
    have hcu : CellsAt w (ae.add (j * 2)) [.int .i64 u.1.block, .slice u.2.1 u.1.args.length u.2.2] := hcu
    have hto : p.1.term.to_[j]? = some u.1 := by rw [← hts, List.getElem?_map, hu]; rfl
    have hub := shape_edges hsh p.1 (List.mem_of_getElem? hkb) u.1 (List.mem_of_getElem? hto)
    obtain ⟨j2, hj2⟩ : ∃ m : Nat, u.1.block = (m : Int) := ⟨u.1.block.toNat, by omega⟩
    have hj2l : j2 < es.length := by omega
    obtain ⟨f, hf⟩ : ∃ f, FI[j2]? = some f := ⟨_, List.getElem?_eq_getElem (by omega)⟩
    obtain ⟨hfl, hfo⟩ := hFs f (List.mem_of_getElem? hf)
    have hfc : w.cell? ⟨bFi, 0 + (j2 : Int).toNat * 1, none⟩ = some (.slice f.2.1 f.1.length f.2.2) := by
      rw [blk_cell hFi, show 0 + (j2 : Int).toNat * 1 = j2 by omega, List.getElem?_map, hf]
      rfl
    have hFj : F.getD j2 [] = f.1 := by rw [List.getD_eq_getElem?_getD, ← hF, List.getElem?_map, hf]; rfl
    obtain ⟨ab, p2, hqab, habb, hp2, hcell2, hok2⟩ := he.get hj2l
    obtain rfl : a = ab := Option.some.inj hqab
    have hcell2 : CellsAt w (a.add (j2 * 7)) [.slice p2.2.p.1 p2.1.params.length p2.2.p.2, .slice p2.2.i.1 p2.1.ins.length p2.2.i.2, .int .i64 p2.1.term.kind, .int .i64 p2.1.term.arg, .int .i64 p2.1.term.n, .slice p2.2.t.c.1 p2.1.term.cases.length p2.2.t.c.2, .slice p2.2.t.t.1 p2.1.term.to_.length p2.2.t.t.2] := hcell2
    have hbk2 : bs.getD j2 noB = p2.1 := by rw [List.getD_eq_getElem?_getD, ← hbs, List.getElem?_map, hp2]; rfl
    have heb : ∀ v, edgeB bs F u.1 v = (f.1.getD v false && !decide ((v : Int) ∈ p2.1.params)) := fun v => by
      unfold edgeB
      rw [hj2, Int.toNat_natCast, hFj, hbk2]
    have hnx : ∀ v, ((p.1.term.to_.take (j + 1)).any fun e => edgeB bs F e v) = (((p.1.term.to_.take j).any fun e => edgeB bs F e v) || (f.1.getD v false && !decide ((v : Int) ∈ p2.1.params))) := fun v => by
      rw [List.take_add_one, hto, Option.toList_some, List.any_append, List.any_cons, List.any_nil, Bool.or_false, heb]
    generalize hG : (fun v => (p.1.term.to_.take j).any fun e => edgeB bs F e v) = Gj
    have hGv : ∀ v, ((p.1.term.to_.take j).any fun e => edgeB bs F e v) = Gj v := fun v => by rw [← hG]
    simp only [hGv] at hnx
    rw [hj2] at hcu
    rw [hqt]
    apply W.sk
    apply W.sb
    apply W.sr
    apply oop; rfl; apply Pev.idx; rfl; exact yes; rfl; exact yes; rfl; rfl; intro hcond; omega
    apply oop; rfl; apply Pev.load_keptA; rfl; exact yes; exact .head _; rfl; intro hcond; assumption; rfl; intro hcond; (rw [add_block]; assumption); intro hcond; exact NotOwned.au
    apply OL.alloc; rfl; rfl; exact CellsL.agg; (intro bk hbk; simp only [AllLe, and_true] at hbk)
    apply OL.storeB; rfl; rfl; exact CellsL.agg; rfl; rfl; rfl; exact Swap.au; exact Put.au
    apply OL.nsr
    apply omv; rfl; rfl
    apply ofa; rfl; rfl; rfl
    apply old; rfl; rfl; exact .head _; rfl; rfl
    apply oop; rfl; apply Pev.idxB; rfl; exact yes; rfl; exact yes; rfl; intro hcond; omega; rfl
    apply oop; rfl; apply Pev.load_kept; rfl; exact yes; exact .head _; rfl; intro hcond; assumption; intro hcond; assumption; intro hcond; exact NotOwned.au
    apply oop; rfl; apply Pev.len_slice; rfl; exact yes; rfl
    apply omv; rfl; rfl
    apply OL.nx
    apply W.block
    revert bk
    intro bE hbE
    have hbE1 : w.heap.size ≤ bE := by first | exact hbE | exact hbE.1
    refine W.loop (G := Nat) (fun i => i ≤ f.1.length) (fun i => f.1.length - i)
      (fun i => [(0, true, .pointer (some ⟨bL, 0, none⟩)), (2, true, .slice (some ⟨bFi, 0, none⟩) es.length es.length), (7, true, .pointer (some ⟨bT, 0, none⟩)), (8, true, .slice (some ⟨bO, 0, none⟩) m m), (10, true, .pointer (some ⟨bE, 0, none⟩)), (32, true, .slice (some ae) ts.length p.2.t.t.2), (33, true, .int .i64 (ts.length : Int)), (34, true, .int .i64 (j : Int)), (42, true, .slice f.2.1 f.1.length f.2.2), (43, true, .int .i64 (f.1.length : Int)), (44, true, .int .i64 (i : Int))])
      (fun i => Cls [blk bE 105 [.int .i64 (j2 : Int), .slice u.2.1 u.1.args.length u.2.2], blk bO 4 (bls (tab m fun v => Gj v || (decide (v < i) && (f.1.getD v false && !decide ((v : Int) ∈ p2.1.params))))), blk bT 39 [.int .i64 p.1.term.kind, .int .i64 p.1.term.arg, .int .i64 p.1.term.n, .slice p.2.t.c.1 p.1.term.cases.length p.2.t.c.2, .slice (some ae) ts.length p.2.t.t.2]] [w])
      0 (by omega) (by exact Sub.au) (fun w' hw' => by rw [tab_congr (h := Gj) (fun v _ => by simp)]; exact hw') ?_
    rintro i hi
    apply W.sr
    apply obn; rfl; rfl; rfl; apply Bin.lss
    apply OL.nx
    apply W.seq
    (refine W.cnd (fun hlt2 => ?_) (fun hlt2 => ?_)) <;> (try (exfalso; first | omega | exact hlt2 trivial | contradiction))
    · have hil : i < f.1.length := by omega
      obtain ⟨af, is, hqf, hafb, hif, hcf⟩ := hfo.get hil
      have hafb : af.block < w.heap.size := hafb
      have hgi : f.1.getD i false = is := by rw [List.getD_eq_getElem?_getD, hif]; rfl
      rw [hqf]
      apply W.sk
      apply W.sb
      apply W.sr
      apply omv; rfl; rfl
      apply oop; rfl; apply Pev.idx; rfl; exact yes; rfl; exact yes; rfl; rfl; intro hcond; omega
      apply oop; rfl; apply Pev.load_kept; rfl; exact yes; exact .head _; rfl; intro hcond; assumption; intro hcond; (rw [add_block]; assumption); intro hcond; exact NotOwned.au
      apply oas; rfl; rfl
      apply oas; rfl; rfl
      apply OL.nx
      apply W.seq
      apply W.regd0; decide +kernel; kernel_rfl; decide +kernel; exact fun w hw => hw.drew
      apply qmv; rfl; rfl
      apply qmv; rfl; rfl
      apply qy; rfl; rfl; rfl; apply Pev.move; rfl; exact yes
      apply qy; rfl; rfl; rfl; apply Pev.nil_ptr; rfl; exact fun h => h
      apply qy; rfl; rfl; rfl; apply Pev.fld; rfl; exact fun h => h; rfl
      apply qy; rfl; rfl; rfl; apply Pev.fld; rfl; exact fun h => h; rfl
      apply qy; rfl; rfl; rfl; apply Pev.load_kept; rfl; exact fun h => h; exact .head _; rfl; intro hcond; assumption; intro hcond; assumption; intro hcond; exact NotOwned.au
      apply qy; rfl; rfl; rfl; apply Pev.fld; rfl; exact yes; rfl
      apply qy; rfl; rfl; rfl; apply Pev.load_blk; rfl; exact fun h => h; exact .head _; rfl; rfl
      apply qy; rfl; rfl; rfl; apply Pev.idx; rfl; exact fun h => h; rfl; exact fun h => h; rfl; rfl; intro hcond; omega
      apply qy; rfl; rfl; rfl; apply Pev.fldA; rfl; exact fun h => h; rfl
      apply qy; rfl; rfl; rfl; apply Pev.load_kept; rfl; exact fun h => h; exact .head _; rfl; intro hcond; apply CellsAt.at_ (by assumption) rfl; intro hcond; (simp only [add_block]; assumption); intro hcond; exact NotOwned.au
      apply qy; rfl; rfl; rfl; apply Pev.move; rfl; exact yes
      (((first | (with_reducible apply OL.op) | (with_reducible apply QL.op)); (exact Guard.au); rfl; rfl); (exact Pev.call (v := .bool (decide ((i : Int) ∈ p2.1.params))) rfl (by exact Args.au) (fun _ w2 hw2 => (IContains_calls p2.2.p.1 p2.2.p.2 p2.1.params (i : Int) w2 (by have := hok2.pl; omega) (hok2.p.at hw2 (by exact mau) (fun k hk => NotOwned.blk (by omega) (NotOwned.blk (by omega) (NotOwned.blk (by omega) NotOwned.nil))))).mono (fun e w3 h => ⟨h.1, hw2.ext h.2⟩))))
      apply qy; rfl; rfl; rfl; apply Pev.not; rfl; exact fun h => h
      apply qop; rfl; apply Pev.pick_and; rfl; exact yes; rfl; exact fun h => h
      apply QL.nil
      with_reducible apply At.next
      have hsx : ∀ v, v < m → (Gj v || (decide (v < i + 1) && (f.1.getD v false && !decide ((v : Int) ∈ p2.1.params)))) = if v = i then (Gj v || (is && !decide ((i : Int) ∈ p2.1.params))) else (Gj v || (decide (v < i) && (f.1.getD v false && !decide ((v : Int) ∈ p2.1.params)))) := fun v _ => by
        by_cases e : v = i
        · subst e
          rw [if_pos rfl, hgi]
          simp
        · rw [if_neg e]
          have e1 : decide (v < i + 1) = decide (v < i) := decide_eq_decide.2 (by omega)
          rw [e1]
      have hi0 : ∀ v, v = i → (Gj v || (decide (v < i) && (f.1.getD v false && !decide ((v : Int) ∈ p2.1.params)))) = Gj v := fun v e => by
        have : decide (v < i) = false := decide_eq_false (by omega)
        rw [this]; simp
      refine W.cond rfl (fun h3 => ?_) (fun h3 => ?_)
      · apply W.reg
        apply omv; rfl; rfl
        apply omv; rfl; rfl
        apply oop; rfl; apply Pev.idxB; rfl; exact yes; rfl; exact yes; rfl; intro hcond; omega; rfl
        (apply OL.storeI); rfl; rfl; rfl; rfl; rfl; (exact Swap.au); (rw [bls_length, tab_length]; omega)
        rw [bls_set, tab_set]
        apply OL.nil
        with_reducible apply At.in_normal
        with_reducible apply At.next
        apply W.reg
        apply obn; rfl; rfl; rfl; apply Bin.add_in; omega
        apply omv; rfl; rfl
        apply OL.nil
        refine At.again (i + 1) (by omega) (by omega) (by exact Sub.au) (fun w' hw' => ?_)
        rw [tab_congr hsx]
        rw [tab_congr (h := fun v => if v = i then (Gj v || (is && !decide ((i : Int) ∈ p2.1.params))) else (Gj v || (decide (v < i) && (f.1.getD v false && !decide ((v : Int) ∈ p2.1.params))))) (fun v _ => ?_)] at hw'
        · exact hw'
        · by_cases e : v = i
          · rw [if_pos (by omega), if_pos e]
            rw [h3]; simp
          · rw [if_neg (by omega), if_neg e]
      · apply W.skip
        with_reducible apply At.in_normal
        with_reducible apply At.next
        apply W.reg
        apply obn; rfl; rfl; rfl; apply Bin.add_in; omega
        apply omv; rfl; rfl
        apply OL.nil
        refine At.again (i + 1) (by omega) (by omega) (by exact Sub.au) (fun w' hw' => ?_)
        rw [tab_congr hsx]
        rw [tab_congr (h := fun v => if v = i then (Gj v || (is && !decide ((i : Int) ∈ p2.1.params))) else (Gj v || (decide (v < i) && (f.1.getD v false && !decide ((v : Int) ∈ p2.1.params))))) (fun v _ => ?_)] at hw'
        · exact hw'
        · by_cases e : v = i
          · rw [if_pos e, hi0 v e, h3, Bool.or_false]
          · rw [if_neg e]
    · obtain rfl : i = f.1.length := by omega
      refine W.xt ?_
      with_reducible apply At.in_normal
      with_reducible apply At.next
      apply W.reg
      apply obn; rfl; rfl; rfl; apply Bin.add_in; omega
      apply omv; rfl; rfl
      apply OL.nil
      refine At.again (j + 1) (by omega) (by omega) (by exact Sub.au) (fun w' hw' => ?_)
      rw [tab_congr (h := fun v => (p.1.term.to_.take (j + 1)).any fun e => edgeB bs F e v) (fun v _ => ?_)] at hw'
      · exact hw'.thin (.any (fun k hk => by rw [show k = bE from hk]; exact ⟨hbE1, trivial⟩) Thin.same)
      · rw [hnx]
        congr 1
        by_cases e : v < f.1.length
        · simp [e]
        · rw [List.getD_eq_getElem?_getD, List.getElem?_eq_none (by omega)]
          simp
  obtain rfl : j = ts.length := by omega
  rw [show p.1.term.to_.take ts.length = p.1.term.to_ by rw [← htl2, List.take_length]]
  obtain ⟨G0, hG0⟩ : ∃ G0, (fun v => p.1.term.to_.any fun e => edgeB bs F e v) = G0 := ⟨_, rfl⟩
  rw [hG0]
  refine W.xt ?_
  with_reducible apply At.next
  apply W.seq
  apply W.sr
  apply ofa; rfl; rfl; rfl
  apply old; rfl; rfl; exact .tail _ (.head _); rfl; rfl
  apply obn; rfl; rfl; rfl; apply Bin.neq
  apply omv; rfl; rfl
  apply oy; rfl; rfl; rfl; apply Pev.fld; rfl; exact yes; rfl
  apply oy; rfl; rfl; rfl; apply Pev.load_blk; rfl; exact fun h => h; exact .tail _ (.head _); rfl; rfl
  apply oy; rfl; rfl; rfl; apply Pev.bin; rfl; exact fun h => h; rfl; exact yes; intro hcond; apply Bin.neq
  apply oop; rfl; apply Pev.pick_and; rfl; exact yes; rfl; exact fun h => h
  apply OL.nx
  have hkind := shape_kind (term_zero (block_zero (shape_block hsh hkb)).2.2).1
  have hoB := hbd.term p.1 (List.mem_of_getElem? hkb)
  obtain ⟨sK, hsK⟩ : ∃ sK, (if p.1.term.kind = 0 ∨ p.1.term.kind = 2 ∨ p.1.term.kind = 3 then (tab m G0).set p.1.term.arg.toNat true else tab m G0) = sK := ⟨_, rfl⟩
  have hsKl : sK.length = m := by rw [← hsK]; split <;> simp [tab_length]
  have hfin := last_eq (bs := bs) (F := F) (g := G0) (s := sK) hoB (fun v => by rw [← hG0]) hsK.symm
  refine W.joinc [(7, true, .pointer (some ⟨bT, 0, none⟩)), (8, true, .slice (some ⟨bO, 0, none⟩) m m)] (Cls [blk bO 4 (bls sK), blk bT 39 [.int .i64 p.1.term.kind, .int .i64 p.1.term.arg, .int .i64 p.1.term.n, .slice p.2.t.c.1 p.1.term.cases.length p.2.t.c.2, .slice p.2.t.t.1 ts.length p.2.t.t.2]] [w]) ?_ ?_
  · refine W.cond rfl (fun h3 => ?_) (fun h3 => ?_)
    · have hk3 : p.1.term.kind = 0 ∨ p.1.term.kind = 2 ∨ p.1.term.kind = 3 := by simp at h3; omega
      have harg := hoB p.1.term.arg (by unfold operT; rw [if_pos hk3]; exact List.mem_append_left _ (.head _))
      rw [if_pos hk3] at hsK
      apply W.reg
      apply omv; rfl; rfl
      apply ofa; rfl; rfl; rfl
      apply old; rfl; rfl; exact .tail _ (.head _); rfl; rfl
      apply oop; rfl; apply Pev.idxB; rfl; exact yes; rfl; exact yes; rfl; intro hcond; omega; rfl
      (apply OL.storeI); rfl; rfl; rfl; rfl; rfl; (exact Swap.au); (rw [bls_length, tab_length]; omega)
      rw [show (bls (tab m G0)).set (0 + p.1.term.arg.toNat * 1) (.bool true) = bls sK by rw [← hsK, show 0 + p.1.term.arg.toNat * 1 = p.1.term.arg.toNat by omega]; exact bls_set _ _ _]
      apply OL.nil
      exact At.joined (by exact Sub.au) (fun w' hw' => hw')
    · have hk3 : ¬ (p.1.term.kind = 0 ∨ p.1.term.kind = 2 ∨ p.1.term.kind = 3) := fun h => by
        have : p.1.term.kind ≠ 1 ∧ p.1.term.kind ≠ 4 := by omega
        simp [this] at h3
      rw [if_neg hk3] at hsK
      rw [hsK]
      apply W.skip
      exact At.joined (by exact Sub.au) (fun w' hw' => hw')
  apply W.seq
  apply W.sr
  apply ofa; rfl; rfl; rfl
  apply old; rfl; rfl; exact .tail _ (.head _); rfl; rfl
  apply oop; rfl; apply Pev.len_slice; rfl; exact yes; rfl
  apply omv; rfl; rfl
  apply OL.nx
  apply W.block
  refine W.loop (G := Nat) (fun j => j ≤ ts.length) (fun j => ts.length - j)
    (fun j => [(8, true, .slice (some ⟨bO, 0, none⟩) m m), (83, true, .slice p.2.t.t.1 ts.length p.2.t.t.2), (84, true, .int .i64 (ts.length : Int)), (85, true, .int .i64 (j : Int))])
    (fun j => Cls [blk bO 4 (bls (marks ((p.1.term.to_.take j).flatMap Ed.args) sK))] [w])
    0 (by omega) (by exact Sub.au) (fun w' hw' => hw'.thin (.keep (.any (fun k hk => by rw [show k = bT from hk]; exact ⟨hbT1, trivial⟩) Thin.nil))) ?_
  rintro j hj
  apply W.sr
  apply obn; rfl; rfl; rfl; apply Bin.lss
  apply OL.nx
  apply W.seq
  (refine W.cnd (fun hlt3 => ?_) (fun hlt3 => ?_)) <;> (try (exfalso; first | omega | exact hlt3 trivial | contradiction))
  · have hjl : j < ts.length := by omega
    obtain ⟨ae, u, hqt, hatb, hu, hcu, hoku⟩ := harr.get hjl
    have hatb : ae.block < w.heap.size := hatb
    have hcu : CellsAt w (ae.add (j * 2)) [.int .i64 u.1.block, .slice u.2.1 u.1.args.length u.2.2] := hcu
    have hto : p.1.term.to_[j]? = some u.1 := by rw [← hts, List.getElem?_map, hu]; rfl
    have hal := hoku.2.1.1
    have hnx : (p.1.term.to_.take (j + 1)).flatMap Ed.args = (p.1.term.to_.take j).flatMap Ed.args ++ u.1.args := by
      rw [List.take_add_one, hto, Option.toList_some, List.flatMap_append]
      simp
    rw [hqt]
    apply W.sk
    apply W.sb
    apply W.sr
    apply oop; rfl; apply Pev.idx; rfl; exact yes; rfl; exact yes; rfl; rfl; intro hcond; omega
    apply oop; rfl; apply Pev.load_keptA; rfl; exact yes; exact .head _; rfl; intro hcond; assumption; rfl; intro hcond; (rw [add_block]; assumption); intro hcond; exact NotOwned.au
    apply OL.alloc; rfl; rfl; exact CellsL.agg; (intro bk hbk; simp only [AllLe, and_true] at hbk)
    apply OL.storeB; rfl; rfl; exact CellsL.agg; rfl; rfl; rfl; exact Swap.au; exact Put.au
    apply OL.nsr
    apply ofa; rfl; rfl; rfl
    apply old; rfl; rfl; exact .head _; rfl; rfl
    apply oop; rfl; apply Pev.len_slice; rfl; exact yes; rfl
    apply omv; rfl; rfl
    apply OL.nx
    apply W.block
    have hbE1 : w.heap.size ≤ bk := by first | exact hbk | exact hbk.1
    refine W.loop (G := Nat) (fun i => i ≤ u.1.args.length) (fun i => u.1.args.length - i)
      (fun i => [(8, true, .slice (some ⟨bO, 0, none⟩) m m), (83, true, .slice (some ae) ts.length p.2.t.t.2), (84, true, .int .i64 (ts.length : Int)), (85, true, .int .i64 (j : Int)), (90, true, .slice u.2.1 u.1.args.length u.2.2), (91, true, .int .i64 (u.1.args.length : Int)), (92, true, .int .i64 (i : Int))])
      (fun i => Cls [blk bO 4 (bls (marks ((p.1.term.to_.take j).flatMap Ed.args ++ u.1.args.take i) sK))] [w])
      0 (by omega) (by exact Sub.au) (fun w' hw' => by rw [List.take_zero, List.append_nil]; exact hw'.thin (.any (fun k hk => by rw [show k = bk from hk]; exact ⟨hbE1, trivial⟩) Thin.same)) ?_
    rintro i hi
    apply W.sr
    apply obn; rfl; rfl; rfl; apply Bin.lss
    apply OL.nx
    apply W.seq
    (refine W.cnd (fun hlt4 => ?_) (fun hlt4 => ?_)) <;> (try (exfalso; first | omega | exact hlt4 trivial | contradiction))
    · obtain ⟨av, v, hqv, habv, hv, hcv⟩ := hoku.2.2.1.get (show i < u.1.args.length by omega)
      have habv : av.block < w.heap.size := habv
      have hvb := hoB v (List.mem_append_right _ (List.mem_flatMap.2 ⟨u.1, List.mem_of_getElem? hto, List.mem_of_getElem? hv⟩))
      have hn1 : (p.1.term.to_.take j).flatMap Ed.args ++ u.1.args.take (i + 1) = ((p.1.term.to_.take j).flatMap Ed.args ++ u.1.args.take i) ++ [v] := by
        rw [List.take_add_one, hv, Option.toList_some, List.append_assoc]
      rw [hqv]
      apply W.sk
      apply W.sb
      apply W.sr
      apply oop; rfl; apply Pev.idx; rfl; exact yes; rfl; exact yes; rfl; rfl; intro hcond; omega
      apply oop; rfl; apply Pev.load_kept; rfl; exact yes; exact .head _; rfl; intro hcond; assumption; intro hcond; (rw [add_block]; assumption); intro hcond; exact NotOwned.au
      apply oas; rfl; rfl
      apply OL.nx
      apply W.reg
      apply omv; rfl; rfl
      apply omv; rfl; rfl
      apply oop; rfl; apply Pev.idxB; rfl; exact yes; rfl; exact yes; rfl; intro hcond; omega; rfl
      (apply OL.storeI); rfl; rfl; rfl; rfl; rfl; (exact Swap.au); (rw [bls_length, marks_length, hsKl]; omega)
      rw [show 0 + v.toNat * 1 = v.toNat by omega, bls_set, ← marks_snoc]
      apply OL.nil
      with_reducible apply At.in_normal
      with_reducible apply At.next
      apply W.reg
      apply obn; rfl; rfl; rfl; apply Bin.add_in; omega
      apply omv; rfl; rfl
      apply OL.nil
      exact At.again (i + 1) (by omega) (by omega) (by exact Sub.au) (fun w' hw' => by rw [hn1]; exact hw')
    obtain rfl : i = u.1.args.length := by omega
    rw [List.take_length]
    refine W.xt ?_
    with_reducible apply At.in_normal
    with_reducible apply At.next
    apply W.reg
    apply obn; rfl; rfl; rfl; apply Bin.add_in; omega
    apply omv; rfl; rfl
    apply OL.nil
    exact At.again (j + 1) (by omega) (by omega) (by exact Sub.au) (fun w' hw' => by rw [hnx]; exact hw')
  obtain rfl : j = ts.length := by omega
  rw [show p.1.term.to_.take ts.length = p.1.term.to_ by rw [← htl2, List.take_length], hfin]
  refine W.xt ?_
  with_reducible apply At.next
  apply W.sr
  apply omv; rfl; rfl
  apply oas; rfl; rfl
  apply OL.nx
  apply W.ret
  ((with_reducible apply At.fin1); rfl; rfl; intro w' hw')
  exact ⟨bO, rfl, hbO1, hw'⟩
end Go.Proofs.Ytehelljmaiophaa.ss

/- The walk of live's back. Conditions: none. -/
namespace Go.Eng
open Go.RowKit
set_option linter.unusedVariables false
set_option linter.unusedSimpArgs false
def funcB (P : Program) (t : TypeId) : Bool := match P.underlying t with | some (.func ..) => true | _ => false
section
variable {P : Program} {t : TypeId}
theorem guard_func {op : BinOp} {x y : Operand} {f : Fn} {a b : Array Value} {w : World} : (eqGuard op t x y (.func f a b) .nilFunc).run P w = .ok () w := by cases op <;> rfl
theorem guard_func0 {op : BinOp} {x y : Operand} {w : World} : (eqGuard op t x y .nilFunc .nilFunc).run P w = .ok () w := by cases op <;> rfl
theorem run_equalIn_func {w : World} {f : Fn} {a b : Array Value} (dd : Nat) (hu : funcB P t = true) : (Op.equalIn (dd + 1) t (.func f a b) .nilFunc).run P w = .ok false w := by
  unfold funcB at hu
  cases h : P.underlying t with
  | none => simp [h] at hu
  | some d =>
    rw [h] at hu
    cases d <;> simp at hu
    simp only [Op.equalIn, Sem.run_bind, run_underlying h, Result.andThen_ok]; rfl
theorem run_equal_func {w : World} {f : Fn} {a b : Array Value} (hu : funcB P t = true) : (Op.equal t (.func f a b) .nilFunc).run P w = .ok false w := run_equalIn_func 9999 hu
theorem run_equalIn_func0 {w : World} (dd : Nat) (hu : funcB P t = true) : (Op.equalIn (dd + 1) t .nilFunc .nilFunc).run P w = .ok true w := by
  unfold funcB at hu
  cases h : P.underlying t with
  | none => simp [h] at hu
  | some d =>
    rw [h] at hu
    cases d <;> simp at hu
    simp only [Op.equalIn, Sem.run_bind, run_underlying h, Result.andThen_ok]; rfl
theorem run_equal_func0 {w : World} (hu : funcB P t = true) : (Op.equal t .nilFunc .nilFunc).run P w = .ok true w := run_equalIn_func0 9999 hu
theorem Bin.func_nnil {f : Fn} {a b : Array Value} (hu : funcB P t = true) : Bin P .neq t (.func f a b) .nilFunc (.bool true) := ⟨fun x y w => by
  rw [Sem.run_bind, guard_func, Result.andThen_ok]
  simp only [binOp, Sem.run_bind, run_equal_func hu, Result.andThen_ok]; rfl⟩
theorem Bin.func_nnil0 (hu : funcB P t = true) : Bin P .neq t .nilFunc .nilFunc (.bool false) := ⟨fun x y w => by
  rw [Sem.run_bind, guard_func0, Result.andThen_ok]
  simp only [binOp, Sem.run_bind, run_equal_func0 hu, Result.andThen_ok]; rfl⟩
end
theorem Cls.plusD {H : List Eng.Item} {S S2 : List World} {w2 w3 : World} {i : Eng.Item} (h : Cls H S w2) (hc : Cls [i] S2 w3) (h2 : w2 ∈ S2) (ho : ∀ k, i.own k → w2.heap.size ≤ k) : Cls (i :: H) S w3 :=
  h.add (hc.toExt h2 (fun k hk => NotOwned.any (fun hm => by have := ho k hm; omega) .nil)) i (hc.holds _ (.head _)) (fun k hk => ⟨ho k hk, hc.lt _ (.head _) k hk⟩)
end Go.Eng
namespace Go.Proofs.Ytehelljmaiophaa.ss
set_option maxRecDepth 100000
open Go.Eng Go.RowKit Go.Ss
set_option linter.unusedVariables false
set_option linter.unusedSimpArgs false
theorem back0_calls (s0 : World) (es : List (Bk × BkY)) (q : Option Addr) (cap : Nat) (nm : Int) (bL bB m k : Nat) (BH : List (List Bool × Sc)) (sb : List Bool × Sc) (he : Arr bkR s0 (low s0) es q) (hk : k < es.length) (hbd : Bnd (es.map Prod.fst) m) (hm : m ≤ 1000000) (hm0 : 0 < m)
    (hL : (blk bL 96 [.int .i64 nm, .slice q es.length cap, .int .i64 (m : Int), .slice (some ⟨bB, 0, none⟩) es.length es.length]).holds s0) (hB : (blk bB 73 (BH.map slS)).holds s0) (hsb : BH[k]? = some sb) (hsl : sb.1.length = m) (hso : BoolsO s0 (low s0) sb.1 sb.2.1)
    (SS : List World) (hs0 : s0 ∈ SS) (hSS : ∀ s ∈ SS, s.heap.size ≤ s0.heap.size) (w : World) (hc : Cls [] SS w) :
    Calls Try.prog 61 [.pointer (some ⟨bL, 0, none⟩), .int .i64 (k : Int), .nilFunc].toArray w fun e w' => ∃ B O q' c, e = .returned (.slice q' m c) ∧ s0.heap.size ≤ B ∧ Cls [row B O q' m c 4 1 (bls (backS ((es.map Prod.fst).getD k noB).ins sb.1))] SS w' := by
  have hno : ∀ k, k < s0.heap.size → NotOwned [] k := fun k hk => NotOwned.nil
  obtain ⟨a, p, hqa, hab, hp, hcell, hok⟩ := he.get hk
  have hab : a.block < s0.heap.size := hab
  have hcell : CellsAt s0 (a.add (k * 7)) [.slice p.2.p.1 p.1.params.length p.2.p.2, .slice p.2.i.1 p.1.ins.length p.2.i.2, .int .i64 p.1.term.kind, .int .i64 p.1.term.arg, .int .i64 p.1.term.n, .slice p.2.t.c.1 p.1.term.cases.length p.2.t.c.2, .slice p.2.t.t.1 p.1.term.to_.length p.2.t.t.2] := hcell
  have hkb : (es.map Prod.fst)[k]? = some p.1 := by rw [List.getElem?_map, hp]; rfl
  have hgk : (es.map Prod.fst).getD k noB = p.1 := by rw [List.getD_eq_getElem?_getD, hkb]; rfl
  rw [hgk]
  have hinB : ∀ i ∈ p.1.ins, InLt m i := hbd.ins p.1 (List.mem_of_getElem? hkb)
  obtain ⟨pi, hpi, hiarr⟩ := hok.i
  have hpil : p.1.ins.length = pi.length := by rw [← hpi, List.length_map]
  have hil := hok.il
  have hL0 : bL < s0.heap.size := blk_lt hL
  have hB0 : bB < s0.heap.size := blk_lt hB
  have hLc : CellsAt s0 ⟨bL, 0, none⟩ [.int .i64 nm, .slice q es.length cap, .int .i64 (m : Int), .slice (some ⟨bB, 0, none⟩) es.length es.length] := fun j v hj => by rw [add_mid, blk_cell hL, Nat.zero_add]; exact hj
  have hLc1 : s0.cell? ⟨bL, 0 + 0 + 1, none⟩ = some (.slice q es.length cap) := hLc 1 _ rfl
  have hLc3 : s0.cell? ⟨bL, 0 + 3, none⟩ = some (.slice (some ⟨bB, 0, none⟩) es.length es.length) := hLc 3 _ rfl
  have hBc : s0.cell? ⟨bB, 0 + (k : Int).toNat * 1, none⟩ = some (.slice sb.2.1 m sb.2.2) := by
    rw [blk_cell hB, show 0 + (k : Int).toNat * 1 = k by omega, List.getElem?_map, hsb, ← hsl]
    rfl
  have hLim : ∀ x, s0.heap.size ≤ x → AllLe SS x := fun x hx => AllLe.of fun s hs => Nat.le_trans (hSS s hs) hx
  subst hqa
  refine enter Try.func61 rfl Try.ntmps61 rfl hc ?_
  (simp only [argEnv, Nat.zero_add, Nat.reduceAdd])
  apply W.sr
  apply oas; rfl; rfl
  apply OL.nsr
  apply omv; rfl; rfl
  apply oop; rfl; apply Pev.nil_ptr; rfl; exact yes
  apply ofa; rfl; rfl; rfl
  apply ofa; rfl; rfl; rfl
  apply oop; rfl; apply Pev.load_kept; rfl; exact yes; assumption; rfl; intro hcond; assumption; intro hcond; assumption; intro hcond; exact NotOwned.au
  apply omv; rfl; rfl
  apply oop; rfl; apply Pev.idx; rfl; exact yes; rfl; exact yes; rfl; rfl; intro hcond; omega
  apply oop; rfl; apply Pev.load_keptA; rfl; exact yes; assumption; rfl; intro hcond; assumption; rfl; intro hcond; (rw [add_block]; assumption); intro hcond; exact NotOwned.au
  apply OL.alloc; rfl; rfl; exact CellsL.agg; intro bk hbk
  apply OL.storeB; rfl; rfl; exact CellsL.agg; rfl; rfl; rfl; exact Swap.au; exact Put.au
  apply OL.nsr
  apply omv; rfl; rfl
  apply oop; rfl; apply Pev.nil_ptr; rfl; exact yes
  apply ofa; rfl; rfl; rfl
  revert bk
  intro b7 hb7
  have hb71 : AllLe SS b7 := by first | exact hb7 | exact AllLe.mk hc
  have hb72 : s0.heap.size ≤ b7 := hb71.mem s0 hs0
  apply oop; rfl; apply Pev.load_kept; rfl; exact yes; assumption; rfl; intro hcond; assumption; intro hcond; assumption; intro hcond; exact NotOwned.au
  apply omv; rfl; rfl
  apply oop; rfl; apply Pev.idxB; rfl; exact yes; rfl; exact yes; rfl; intro hcond; omega; rfl
  apply oop; rfl; apply Pev.load_kept; rfl; exact yes; assumption; rfl; intro hcond; assumption; intro hcond; assumption; intro hcond; exact NotOwned.au
  rw [← hsl]
  refine OL.callE (α := (Nat → Prop) × Option Addr × Nat × Nat) (fun z => .slice z.2.1 sb.1.length z.2.2.1) (fun z => s0.heap.size ≤ z.2.2.2) (fun z => Cls (row z.2.2.2 z.1 z.2.1 sb.1.length z.2.2.1 4 1 (bls sb.1) :: blk b7 41 [.slice p.2.p.1 p.1.params.length p.2.p.2, .slice p.2.i.1 p.1.ins.length p.2.i.2, .int .i64 p.1.term.kind, .int .i64 p.1.term.arg, .int .i64 p.1.term.n, .slice p.2.t.c.1 p.1.term.cases.length p.2.t.c.2, .slice p.2.t.t.1 p.1.term.to_.length p.2.t.t.2] :: []) SS) rfl rfl (by exact Args.au) (fun w2 hw2 => (BClone_calls sb.2.1 sb.2.2 sb.1 w2 (hso.at hw2 hs0 (fun k hk => NotOwned.blk (by omega) (hno _ hk))) (by omega) (by omega)).mono fun e w3 ⟨O', q', c', h1, h2⟩ => ⟨(O', q', c', w2.heap.size), h1, (hw2.kp s0 hs0).size, hw2.plusD h2 (.head _) (fun k hk => hk.1)⟩) ?_
  rintro ⟨O1, q1, c1, B1⟩ hB1
  simp only at hB1 ⊢
  rw [hsl]
  refine OL.fact (fun w2 hw2 => row_some (hw2.item (.head _)) (by omega)) ?_
  rintro ⟨g1, rfl⟩
  apply oas; rfl; rfl
  apply OL.nsr
  apply ofa; rfl; rfl; rfl
  apply old; rfl; rfl; exact .tail _ (.head _); rfl; rfl
  apply oop; rfl; apply Pev.len_slice; rfl; exact yes; rfl
  apply oas; rfl; rfl
  apply OL.nx
  apply W.block
  refine W.loop (G := Nat) (fun g => g ≤ pi.length ) (fun g => g)
    (fun g => [(2, true, .nilFunc), (7, true, .pointer (some ⟨b7, 0, none⟩)), (8, true, .slice (some ⟨g1, 0, none⟩) m c1), (9, true, .int .i64 (g : Int))])
    (fun g => Cls (row B1 O1 (some ⟨g1, 0, none⟩) m c1 4 1 (bls (backS (p.1.ins.drop (g)) sb.1)) :: blk b7 41 [.slice p.2.p.1 p.1.params.length p.2.p.2, .slice p.2.i.1 pi.length p.2.i.2, .int .i64 p.1.term.kind, .int .i64 p.1.term.arg, .int .i64 p.1.term.n, .slice p.2.t.c.1 p.1.term.cases.length p.2.t.c.2, .slice p.2.t.t.1 p.1.term.to_.length p.2.t.t.2] :: []) SS)
    pi.length (by omega) (by rw [hpil]; exact Sub.au) (fun w' hw' => by rw [List.drop_eq_nil_of_le (by omega), backS, List.foldr_nil]; rw [hpil] at hw'; exact hw') ?_
  rintro n hn
  apply W.sb
  apply W.seq
  apply W.sr
  apply omv; rfl; rfl
  apply obn; rfl; rfl; rfl; apply Bin.func_nnil0; rfl
  apply OL.nx
  refine W.cond rfl (fun h => by cases h) (fun _ => ?_)
  apply W.sk
  apply W.seq
  apply W.sr
  apply omv; rfl; rfl
  apply obn; rfl; rfl; rfl; apply Bin.eql
  apply OL.nx
  by_cases hn0 : n = 0
  · subst hn0
    refine W.cond rfl (fun _ => ?_) (fun h => by simp at h)
    apply W.sr
    apply omv; rfl; rfl
    apply oas; rfl; rfl
    apply OL.nx
    refine W.rt ?_
    ((with_reducible apply At.fin1); rfl; rfl; intro w' hw')
    exact ⟨B1, O1, _, c1, rfl, hB1, hw'.thin (.keep (.any (fun k hk => by rw [show k = b7 from hk]; exact hb71) Thin.nil))⟩
  refine W.cond rfl (fun h => by simp at h; omega) (fun _ => ?_)
  obtain ⟨n', rfl⟩ : ∃ n', n = n' + 1 := ⟨n - 1, by omega⟩
  obtain ⟨ai, u, hqi, haib, hu, hcu, hoku⟩ := hiarr.get (show n' < pi.length by omega)
  have haib : ai.block < s0.heap.size := haib
  have hcu : CellsAt s0 (ai.add (n' * 4)) [.int .i64 u.1.to_, .int .i64 u.1.op, .int .i64 u.1.n, .slice u.2.1 u.1.args.length u.2.2] := hcu
  have hui : p.1.ins[n']? = some u.1 := by rw [← hpi, List.getElem?_map, hu]; rfl
  have hub := hinB u.1 (List.mem_of_getElem? hui)
  have hub1 := hub.1
  have hn1 : ((n' + 1 : Nat) : Int) - 1 = (n' : Int) := by omega
  have hual := hoku.al
  have hdr := backS_drop hui sb.1
  obtain ⟨s1, hs1⟩ : ∃ s1, backS (p.1.ins.drop (n' + 1)) sb.1 = s1 := ⟨_, rfl⟩
  have hs1l : s1.length = m := by rw [← hs1, backS_length, hsl]
  rw [hs1] at hdr ⊢
  unfold stepS at hdr
  rw [hqi]
  apply W.sk
  apply W.sr
  apply ofa; rfl; rfl; rfl
  apply old; rfl; rfl; exact .tail _ (.head _); rfl; rfl
  apply omv; rfl; rfl
  apply obn; rfl; rfl; rfl; apply Bin.sub_in; omega
  apply oop; rfl; apply Pev.idxI; rfl; exact yes; rfl; exact yes; rfl; intro hcond; omega
  simp only [hn1]
  apply oop; rfl; apply Pev.load_keptA; rfl; exact yes; assumption; rfl; intro hcond; assumption; rfl; intro hcond; (rw [add_block]; assumption); intro hcond; exact NotOwned.au
  apply OL.alloc; rfl; rfl; exact CellsL.agg; intro bk hbk
  apply OL.storeB; rfl; rfl; exact CellsL.agg; rfl; rfl; rfl; exact Swap.au; exact Put.au
  apply OL.nsr
  apply omv; rfl; rfl
  apply ofa; rfl; rfl; rfl
  apply old; rfl; rfl; exact .head _; rfl; rfl
  apply oop; rfl; apply Pev.idxB; rfl; exact yes; rfl; exact yes; rfl; intro hcond; omega; rfl
  have hbI : AllLe SS bk := by first | exact hbk | exact hbk.1
  have hbI2 : s0.heap.size ≤ bk := hbI.mem s0 hs0
  (apply OL.storeR); rfl; rfl; rfl; rfl; rfl; (exact Hole.au); (rw [bls_length]; omega)
  rw [show 0 + u.1.to_.toNat * 1 = u.1.to_.toNat by omega, bls_set]
  apply OL.nsr
  apply ofa; rfl; rfl; rfl
  apply old; rfl; rfl; exact .head _; rfl; rfl
  apply oop; rfl; apply Pev.len_slice; rfl; exact yes; rfl
  apply omv; rfl; rfl
  apply OL.nx
  apply W.block
  refine W.loop (G := Nat) (fun i => i ≤ u.1.args.length) (fun i => u.1.args.length - i)
    (fun i => [(2, true, .nilFunc), (7, true, .pointer (some ⟨b7, 0, none⟩)), (8, true, .slice (some ⟨g1, 0, none⟩) m c1), (9, true, .int .i64 ((n' + 1 : Nat) : Int)), (54, true, .slice u.2.1 u.1.args.length u.2.2), (55, true, .int .i64 (u.1.args.length : Int)), (56, true, .int .i64 (i : Int))])
    (fun i => Cls (row B1 O1 (some ⟨g1, 0, none⟩) m c1 4 1 (bls (marks (u.1.args.take i) (s1.set u.1.to_.toNat false))) :: blk b7 41 [.slice p.2.p.1 p.1.params.length p.2.p.2, .slice (some ai) pi.length p.2.i.2, .int .i64 p.1.term.kind, .int .i64 p.1.term.arg, .int .i64 p.1.term.n, .slice p.2.t.c.1 p.1.term.cases.length p.2.t.c.2, .slice p.2.t.t.1 p.1.term.to_.length p.2.t.t.2] :: []) SS)
    0 (by omega) (by exact Sub.au) (fun w' hw' => hw'.thin (.any (fun k hk => by rw [show k = bk from hk]; exact hbI) Thin.same)) ?_
  rintro i hi
  apply W.sr
  apply obn; rfl; rfl; rfl; apply Bin.lss
  apply OL.nx
  apply W.seq
  (refine W.cnd (fun hlt => ?_) (fun hlt => ?_)) <;> (try (exfalso; first | omega | exact hlt trivial | contradiction))
  · obtain ⟨av, v, hqv, habv, hv, hcv⟩ := hoku.a.get (show i < u.1.args.length by omega)
    have habv : av.block < s0.heap.size := habv
    have hvb := hub.2 v (List.mem_of_getElem? hv)
    have hn1 : u.1.args.take (i + 1) = u.1.args.take i ++ [v] := by rw [List.take_add_one, hv, Option.toList_some]
    rw [hqv]
    apply W.sk
    apply W.sb
    apply W.sr
    apply oop; rfl; apply Pev.idx; rfl; exact yes; rfl; exact yes; rfl; rfl; intro hcond; omega
    apply oop; rfl; apply Pev.load_kept; rfl; exact yes; assumption; rfl; intro hcond; assumption; intro hcond; (rw [add_block]; assumption); intro hcond; exact NotOwned.au
    apply oas; rfl; rfl
    apply OL.nx
    apply W.reg
    apply omv; rfl; rfl
    apply omv; rfl; rfl
    apply oop; rfl; apply Pev.idxB; rfl; exact yes; rfl; exact yes; rfl; intro hcond; omega; rfl
    (apply OL.storeR); rfl; rfl; rfl; rfl; rfl; (exact Hole.au); (rw [bls_length, marks_length, List.length_set]; omega)
    rw [show 0 + v.toNat * 1 = v.toNat by omega, bls_set, ← marks_snoc]
    apply OL.nil
    with_reducible apply At.in_normal
    with_reducible apply At.next
    apply W.reg
    apply obn; rfl; rfl; rfl; apply Bin.add_in; omega
    apply omv; rfl; rfl
    apply OL.nil
    exact At.again (i + 1) (by omega) (by omega) (by exact Sub.au) (fun w' hw' => by rw [hn1]; exact hw')
  obtain rfl : i = u.1.args.length := by omega
  rw [List.take_length, ← hdr]
  refine W.xt ?_
  with_reducible apply At.in_normal
  with_reducible apply At.next
  apply W.reg
  apply omv; rfl; rfl
  apply obn; rfl; rfl; rfl; apply Bin.sub_in; omega
  apply oas; rfl; rfl
  apply OL.nil
  exact At.again n' (by omega) (by omega) (by exact Sub.au) (fun w' hw' => hw')
theorem back_calls (s0 : World) (es : List (Bk × BkY)) (q : Option Addr) (cap : Nat) (nm : Int) (bL bB m k : Nat) (BH : List (List Bool × Sc)) (sb : List Bool × Sc) (he : Arr bkR s0 (low s0) es q) (hk : k < es.length) (hbd : Bnd (es.map Prod.fst) m) (hm : m ≤ 1000000) (hm0 : 0 < m)
    (hL : (blk bL 96 [.int .i64 nm, .slice q es.length cap, .int .i64 (m : Int), .slice (some ⟨bB, 0, none⟩) es.length es.length]).holds s0) (hB : (blk bB 73 (BH.map slS)).holds s0) (hsb : BH[k]? = some sb) (hsl : sb.1.length = m) (hso : BoolsO s0 (low s0) sb.1 sb.2.1)
    (SS : List World) (hs0 : s0 ∈ SS) (hSS : ∀ s ∈ SS, s.heap.size ≤ s0.heap.size) {σ : Type} (I : σ → List Eng.Item) (φ : Nat → σ → Prop) (x0 : σ) (f : FuncId) (first caps : List Value) (hf : callable Try.prog f = true) (hx0 : φ (((es.map Prod.fst).getD k noB).ins.length + 1) x0)
    (hnoI : ∀ x k, k < s0.heap.size → NotOwned (I x) k)
    (hcl : ∀ (n : Nat) (x : σ) (B : Nat) (O : Nat → Prop) (g c : Nat) (X : Eng.Item) (w' : World), n ≤ ((es.map Prod.fst).getD k noB).ins.length → φ (n + 1) x → AllLe SS B → (∀ k, k < s0.heap.size → ¬ X.own k) → Cls (row B O (some ⟨g, 0, none⟩) m c 4 1 (bls (backS (((es.map Prod.fst).getD k noB).ins.drop n) sb.1)) :: X :: I x) SS w' → Calls Try.prog f (first ++ [Value.int .i64 (n : Int), .slice (some ⟨g, 0, none⟩) m c] ++ caps).toArray w' fun e w'' => ∃ x', e = .returned (.tuple #[]) ∧ φ n x' ∧ Cls (row B O (some ⟨g, 0, none⟩) m c 4 1 (bls (backS (((es.map Prod.fst).getD k noB).ins.drop n) sb.1)) :: X :: I x') SS w'')
    (w : World) (hc : Cls (I x0) SS w) :
    Calls Try.prog 61 [.pointer (some ⟨bL, 0, none⟩), .int .i64 (k : Int), .func (.func f) first.toArray caps.toArray].toArray w fun e w' => ∃ v x', e = .returned v ∧ φ 0 x' ∧ Cls (I x') SS w' := by
  have hno := hnoI x0
  obtain ⟨a, p, hqa, hab, hp, hcell, hok⟩ := he.get hk
  have hab : a.block < s0.heap.size := hab
  have hcell : CellsAt s0 (a.add (k * 7)) [.slice p.2.p.1 p.1.params.length p.2.p.2, .slice p.2.i.1 p.1.ins.length p.2.i.2, .int .i64 p.1.term.kind, .int .i64 p.1.term.arg, .int .i64 p.1.term.n, .slice p.2.t.c.1 p.1.term.cases.length p.2.t.c.2, .slice p.2.t.t.1 p.1.term.to_.length p.2.t.t.2] := hcell
  have hkb : (es.map Prod.fst)[k]? = some p.1 := by rw [List.getElem?_map, hp]; rfl
  have hgk : (es.map Prod.fst).getD k noB = p.1 := by rw [List.getD_eq_getElem?_getD, hkb]; rfl
  rw [hgk] at hx0
  simp only [hgk] at hcl
  have hinB : ∀ i ∈ p.1.ins, InLt m i := hbd.ins p.1 (List.mem_of_getElem? hkb)
  obtain ⟨pi, hpi, hiarr⟩ := hok.i
  have hpil : p.1.ins.length = pi.length := by rw [← hpi, List.length_map]
  have hil := hok.il
  have hL0 : bL < s0.heap.size := blk_lt hL
  have hB0 : bB < s0.heap.size := blk_lt hB
  have hLc : CellsAt s0 ⟨bL, 0, none⟩ [.int .i64 nm, .slice q es.length cap, .int .i64 (m : Int), .slice (some ⟨bB, 0, none⟩) es.length es.length] := fun j v hj => by rw [add_mid, blk_cell hL, Nat.zero_add]; exact hj
  have hLc1 : s0.cell? ⟨bL, 0 + 0 + 1, none⟩ = some (.slice q es.length cap) := hLc 1 _ rfl
  have hLc3 : s0.cell? ⟨bL, 0 + 3, none⟩ = some (.slice (some ⟨bB, 0, none⟩) es.length es.length) := hLc 3 _ rfl
  have hBc : s0.cell? ⟨bB, 0 + (k : Int).toNat * 1, none⟩ = some (.slice sb.2.1 m sb.2.2) := by
    rw [blk_cell hB, show 0 + (k : Int).toNat * 1 = k by omega, List.getElem?_map, hsb, ← hsl]
    rfl
  have hLim : ∀ x, s0.heap.size ≤ x → AllLe SS x := fun x hx => AllLe.of fun s hs => Nat.le_trans (hSS s hs) hx
  subst hqa
  refine enter Try.func61 rfl Try.ntmps61 rfl hc ?_
  (simp only [argEnv, Nat.zero_add, Nat.reduceAdd])
  apply W.sr
  apply oas; rfl; rfl
  apply OL.nsr
  apply omv; rfl; rfl
  apply oop; rfl; apply Pev.nil_ptr; rfl; exact yes
  apply ofa; rfl; rfl; rfl
  apply ofa; rfl; rfl; rfl
  apply oop; rfl; apply Pev.load_kept; rfl; exact yes; assumption; rfl; intro hcond; assumption; intro hcond; assumption; intro hcond; exact NotOwned.au
  apply omv; rfl; rfl
  apply oop; rfl; apply Pev.idx; rfl; exact yes; rfl; exact yes; rfl; rfl; intro hcond; omega
  apply oop; rfl; apply Pev.load_keptA; rfl; exact yes; assumption; rfl; intro hcond; assumption; rfl; intro hcond; (rw [add_block]; assumption); intro hcond; exact NotOwned.au
  apply OL.alloc; rfl; rfl; exact CellsL.agg; intro bk hbk
  apply OL.storeB; rfl; rfl; exact CellsL.agg; rfl; rfl; rfl; exact Swap.au; exact Put.au
  apply OL.nsr
  apply omv; rfl; rfl
  apply oop; rfl; apply Pev.nil_ptr; rfl; exact yes
  apply ofa; rfl; rfl; rfl
  revert bk
  intro b7 hb7
  have hb71 : AllLe SS b7 := by first | exact hb7 | exact AllLe.mk hc
  have hb72 : s0.heap.size ≤ b7 := hb71.mem s0 hs0
  apply oop; rfl; apply Pev.load_kept; rfl; exact yes; assumption; rfl; intro hcond; assumption; intro hcond; assumption; intro hcond; exact NotOwned.au
  apply omv; rfl; rfl
  apply oop; rfl; apply Pev.idxB; rfl; exact yes; rfl; exact yes; rfl; intro hcond; omega; rfl
  apply oop; rfl; apply Pev.load_kept; rfl; exact yes; assumption; rfl; intro hcond; assumption; intro hcond; assumption; intro hcond; exact NotOwned.au
  rw [← hsl]
  refine OL.callE (α := (Nat → Prop) × Option Addr × Nat × Nat) (fun z => .slice z.2.1 sb.1.length z.2.2.1) (fun z => s0.heap.size ≤ z.2.2.2) (fun z => Cls (row z.2.2.2 z.1 z.2.1 sb.1.length z.2.2.1 4 1 (bls sb.1) :: blk b7 41 [.slice p.2.p.1 p.1.params.length p.2.p.2, .slice p.2.i.1 p.1.ins.length p.2.i.2, .int .i64 p.1.term.kind, .int .i64 p.1.term.arg, .int .i64 p.1.term.n, .slice p.2.t.c.1 p.1.term.cases.length p.2.t.c.2, .slice p.2.t.t.1 p.1.term.to_.length p.2.t.t.2] :: I x0) SS) rfl rfl (by exact Args.au) (fun w2 hw2 => (BClone_calls sb.2.1 sb.2.2 sb.1 w2 (hso.at hw2 hs0 (fun k hk => NotOwned.blk (by omega) (hno _ hk))) (by omega) (by omega)).mono fun e w3 ⟨O', q', c', h1, h2⟩ => ⟨(O', q', c', w2.heap.size), h1, (hw2.kp s0 hs0).size, hw2.plusD h2 (.head _) (fun k hk => hk.1)⟩) ?_
  rintro ⟨O1, q1, c1, B1⟩ hB1
  simp only at hB1 ⊢
  rw [hsl]
  refine OL.fact (fun w2 hw2 => row_some (hw2.item (.head _)) (by omega)) ?_
  rintro ⟨g1, rfl⟩
  apply oas; rfl; rfl
  apply OL.nsr
  apply ofa; rfl; rfl; rfl
  apply old; rfl; rfl; exact .tail _ (.head _); rfl; rfl
  apply oop; rfl; apply Pev.len_slice; rfl; exact yes; rfl
  apply oas; rfl; rfl
  apply OL.nx
  apply W.block
  refine W.loop (G := Nat × σ) (fun g => g.1 ≤ pi.length ∧ φ (g.1 + 1) g.2) (fun g => g.1)
    (fun g => [(2, true, .func (.func f) first.toArray caps.toArray), (7, true, .pointer (some ⟨b7, 0, none⟩)), (8, true, .slice (some ⟨g1, 0, none⟩) m c1), (9, true, .int .i64 (g.1 : Int))])
    (fun g => Cls (row B1 O1 (some ⟨g1, 0, none⟩) m c1 4 1 (bls (backS (p.1.ins.drop (g.1)) sb.1)) :: blk b7 41 [.slice p.2.p.1 p.1.params.length p.2.p.2, .slice p.2.i.1 pi.length p.2.i.2, .int .i64 p.1.term.kind, .int .i64 p.1.term.arg, .int .i64 p.1.term.n, .slice p.2.t.c.1 p.1.term.cases.length p.2.t.c.2, .slice p.2.t.t.1 p.1.term.to_.length p.2.t.t.2] :: I g.2) SS)
    (pi.length, x0) ⟨by omega, by rw [← hpil]; exact hx0⟩ (by rw [hpil]; exact Sub.au) (fun w' hw' => by rw [List.drop_eq_nil_of_le (by omega), backS, List.foldr_nil]; rw [hpil] at hw'; exact hw') ?_
  rintro ⟨n, x⟩ ⟨hn, hx⟩
  simp only at hn hx ⊢
  have hno := hnoI x
  apply W.sb
  apply W.seq
  apply W.sr
  apply omv; rfl; rfl
  apply obn; rfl; rfl; rfl; apply Bin.func_nnil; rfl
  apply OL.nx
  refine W.joinx (G := σ) (fun x' => φ n x') (fun _ => [(2, true, .func (.func f) first.toArray caps.toArray), (7, true, .pointer (some ⟨b7, 0, none⟩)), (8, true, .slice (some ⟨g1, 0, none⟩) m c1), (9, true, .int .i64 (n : Int))]) (fun x' => Cls (row B1 O1 (some ⟨g1, 0, none⟩) m c1 4 1 (bls (backS (p.1.ins.drop n) sb.1)) :: blk b7 41 [.slice p.2.p.1 p.1.params.length p.2.p.2, .slice p.2.i.1 pi.length p.2.i.2, .int .i64 p.1.term.kind, .int .i64 p.1.term.arg, .int .i64 p.1.term.n, .slice p.2.t.c.1 p.1.term.cases.length p.2.t.c.2, .slice p.2.t.t.1 p.1.term.to_.length p.2.t.t.2] :: I x') SS) ?_ ?_
  · refine W.cond rfl (fun _ => ?_) (fun h => by cases h)
    apply W.reg
    apply omv; rfl; rfl
    apply omv; rfl; rfl
    apply omv; rfl; rfl
    refine OL.callvE (α := σ) (first := first) (cap := caps) (vs := [.int .i64 (n : Int), .slice (some ⟨g1, 0, none⟩) m c1]) (fun _ => .tuple #[]) (fun x' => φ n x') (fun x' => Cls (row B1 O1 (some ⟨g1, 0, none⟩) m c1 4 1 (bls (backS (p.1.ins.drop n) sb.1)) :: blk b7 41 [.slice p.2.p.1 p.1.params.length p.2.p.2, .slice p.2.i.1 pi.length p.2.i.2, .int .i64 p.1.term.kind, .int .i64 p.1.term.arg, .int .i64 p.1.term.n, .slice p.2.t.c.1 p.1.term.cases.length p.2.t.c.2, .slice p.2.t.t.1 p.1.term.to_.length p.2.t.t.2] :: I x') SS) rfl rfl hf (by exact Args.au) (fun w2 hw2 => (hcl n x B1 O1 g1 c1 _ w2 (by omega) hx (hLim _ hB1) (fun k hk hX => by have hX : k = b7 := hX; omega) hw2).mono fun e w3 ⟨x', h1, h2, h3⟩ => ⟨x', h1, h2, h3⟩) ?_
    intro x' hx'
    apply OL.nil
    exact At.joinedx x' hx' (by exact Sub.au) (fun w' hw' => hw')
  intro x1 hx1
  have hno := hnoI x1
  apply W.seq
  apply W.sr
  apply omv; rfl; rfl
  apply obn; rfl; rfl; rfl; apply Bin.eql
  apply OL.nx
  by_cases hn0 : n = 0
  · subst hn0
    refine W.cond rfl (fun _ => ?_) (fun h => by simp at h)
    apply W.sr
    apply omv; rfl; rfl
    apply oas; rfl; rfl
    apply OL.nx
    refine W.rt ?_
    ((with_reducible apply At.fin1); rfl; rfl; intro w' hw')
    exact ⟨_, x1, rfl, hx1, hw'.thin (.any (fun k hk => hLim _ (Nat.le_trans hB1 hk.1)) (.any (fun k hk => by rw [show k = b7 from hk]; exact hb71) Thin.same))⟩
  refine W.cond rfl (fun h => by simp at h; omega) (fun _ => ?_)
  obtain ⟨n', rfl⟩ : ∃ n', n = n' + 1 := ⟨n - 1, by omega⟩
  obtain ⟨ai, u, hqi, haib, hu, hcu, hoku⟩ := hiarr.get (show n' < pi.length by omega)
  have haib : ai.block < s0.heap.size := haib
  have hcu : CellsAt s0 (ai.add (n' * 4)) [.int .i64 u.1.to_, .int .i64 u.1.op, .int .i64 u.1.n, .slice u.2.1 u.1.args.length u.2.2] := hcu
  have hui : p.1.ins[n']? = some u.1 := by rw [← hpi, List.getElem?_map, hu]; rfl
  have hub := hinB u.1 (List.mem_of_getElem? hui)
  have hub1 := hub.1
  have hn1 : ((n' + 1 : Nat) : Int) - 1 = (n' : Int) := by omega
  have hual := hoku.al
  have hdr := backS_drop hui sb.1
  obtain ⟨s1, hs1⟩ : ∃ s1, backS (p.1.ins.drop (n' + 1)) sb.1 = s1 := ⟨_, rfl⟩
  have hs1l : s1.length = m := by rw [← hs1, backS_length, hsl]
  rw [hs1] at hdr ⊢
  unfold stepS at hdr
  rw [hqi]
  apply W.sk
  apply W.sr
  apply ofa; rfl; rfl; rfl
  apply old; rfl; rfl; exact .tail _ (.head _); rfl; rfl
  apply omv; rfl; rfl
  apply obn; rfl; rfl; rfl; apply Bin.sub_in; omega
  apply oop; rfl; apply Pev.idxI; rfl; exact yes; rfl; exact yes; rfl; intro hcond; omega
  simp only [hn1]
  apply oop; rfl; apply Pev.load_keptA; rfl; exact yes; assumption; rfl; intro hcond; assumption; rfl; intro hcond; (rw [add_block]; assumption); intro hcond; exact NotOwned.au
  apply OL.alloc; rfl; rfl; exact CellsL.agg; intro bk hbk
  apply OL.storeB; rfl; rfl; exact CellsL.agg; rfl; rfl; rfl; exact Swap.au; exact Put.au
  apply OL.nsr
  apply omv; rfl; rfl
  apply ofa; rfl; rfl; rfl
  apply old; rfl; rfl; exact .head _; rfl; rfl
  apply oop; rfl; apply Pev.idxB; rfl; exact yes; rfl; exact yes; rfl; intro hcond; omega; rfl
  have hbI : AllLe SS bk := by first | exact hbk | exact hbk.1
  have hbI2 : s0.heap.size ≤ bk := hbI.mem s0 hs0
  (apply OL.storeR); rfl; rfl; rfl; rfl; rfl; (exact Hole.au); (rw [bls_length]; omega)
  rw [show 0 + u.1.to_.toNat * 1 = u.1.to_.toNat by omega, bls_set]
  apply OL.nsr
  apply ofa; rfl; rfl; rfl
  apply old; rfl; rfl; exact .head _; rfl; rfl
  apply oop; rfl; apply Pev.len_slice; rfl; exact yes; rfl
  apply omv; rfl; rfl
  apply OL.nx
  apply W.block
  refine W.loop (G := Nat) (fun i => i ≤ u.1.args.length) (fun i => u.1.args.length - i)
    (fun i => [(2, true, .func (.func f) first.toArray caps.toArray), (7, true, .pointer (some ⟨b7, 0, none⟩)), (8, true, .slice (some ⟨g1, 0, none⟩) m c1), (9, true, .int .i64 ((n' + 1 : Nat) : Int)), (54, true, .slice u.2.1 u.1.args.length u.2.2), (55, true, .int .i64 (u.1.args.length : Int)), (56, true, .int .i64 (i : Int))])
    (fun i => Cls (row B1 O1 (some ⟨g1, 0, none⟩) m c1 4 1 (bls (marks (u.1.args.take i) (s1.set u.1.to_.toNat false))) :: blk b7 41 [.slice p.2.p.1 p.1.params.length p.2.p.2, .slice (some ai) pi.length p.2.i.2, .int .i64 p.1.term.kind, .int .i64 p.1.term.arg, .int .i64 p.1.term.n, .slice p.2.t.c.1 p.1.term.cases.length p.2.t.c.2, .slice p.2.t.t.1 p.1.term.to_.length p.2.t.t.2] :: I x1) SS)
    0 (by omega) (by exact Sub.au) (fun w' hw' => hw'.thin (.any (fun k hk => by rw [show k = bk from hk]; exact hbI) Thin.same)) ?_
  rintro i hi
  apply W.sr
  apply obn; rfl; rfl; rfl; apply Bin.lss
  apply OL.nx
  apply W.seq
  (refine W.cnd (fun hlt => ?_) (fun hlt => ?_)) <;> (try (exfalso; first | omega | exact hlt trivial | contradiction))
  · obtain ⟨av, v, hqv, habv, hv, hcv⟩ := hoku.a.get (show i < u.1.args.length by omega)
    have habv : av.block < s0.heap.size := habv
    have hvb := hub.2 v (List.mem_of_getElem? hv)
    have hn1 : u.1.args.take (i + 1) = u.1.args.take i ++ [v] := by rw [List.take_add_one, hv, Option.toList_some]
    rw [hqv]
    apply W.sk
    apply W.sb
    apply W.sr
    apply oop; rfl; apply Pev.idx; rfl; exact yes; rfl; exact yes; rfl; rfl; intro hcond; omega
    apply oop; rfl; apply Pev.load_kept; rfl; exact yes; assumption; rfl; intro hcond; assumption; intro hcond; (rw [add_block]; assumption); intro hcond; exact NotOwned.au
    apply oas; rfl; rfl
    apply OL.nx
    apply W.reg
    apply omv; rfl; rfl
    apply omv; rfl; rfl
    apply oop; rfl; apply Pev.idxB; rfl; exact yes; rfl; exact yes; rfl; intro hcond; omega; rfl
    (apply OL.storeR); rfl; rfl; rfl; rfl; rfl; (exact Hole.au); (rw [bls_length, marks_length, List.length_set]; omega)
    rw [show 0 + v.toNat * 1 = v.toNat by omega, bls_set, ← marks_snoc]
    apply OL.nil
    with_reducible apply At.in_normal
    with_reducible apply At.next
    apply W.reg
    apply obn; rfl; rfl; rfl; apply Bin.add_in; omega
    apply omv; rfl; rfl
    apply OL.nil
    exact At.again (i + 1) (by omega) (by omega) (by exact Sub.au) (fun w' hw' => by rw [hn1]; exact hw')
  obtain rfl : i = u.1.args.length := by omega
  rw [List.take_length, ← hdr]
  refine W.xt ?_
  with_reducible apply At.in_normal
  with_reducible apply At.next
  apply W.reg
  apply omv; rfl; rfl
  apply obn; rfl; rfl; rfl; apply Bin.sub_in; omega
  apply oas; rfl; rfl
  apply OL.nil
  exact At.again (n', x1) ⟨by simp only; omega, hx1⟩ (by simp only; omega) (by exact Sub.au) (fun w' hw' => hw')
end Go.Proofs.Ytehelljmaiophaa.ss

/- Plain: a function without fault: what it uses and defines lies below its fresh number. No program in sight. No condition. -/
namespace Go.Ss
open Go.Eng Go.RowKit
set_option linter.unusedVariables false
set_option linter.unusedSimpArgs false
theorem func_uses {f : Go.Ss.Fn} (h : funcE f = 0) : ∀ (k : Nat) b, f.blocks[k]? = some b → UsesB f.blocks k b := by
  unfold funcE at h
  split at h
  · cases h
  · split at h
    · cases h
    · split at h
      · cases h
      · split at h
        · rename_i h4; exact absurd h h4
        · split at h
          · assumption
          · cases h
theorem wmax_in {a v : Int} (h : 0 ≤ v ∧ v ≤ 4095) : wmax a v = max a (v + 1) := by
  unfold wmax
  rw [IntWalk.i64_in _ (by omega)]
  split <;> omega
theorem foldw : ∀ {l : List Int} {a : Int}, (∀ v ∈ l, 0 ≤ v ∧ v ≤ 4095) → a ≤ l.foldl wmax a ∧ (∀ v ∈ l, v < l.foldl wmax a) ∧ (a ≤ 4096 → l.foldl wmax a ≤ 4096)
  | [], a, _ => ⟨Int.le_refl _, fun v hv => (by cases hv), fun h => h⟩
  | v :: l, a, h => by
    have h0 := h v (.head _)
    obtain ⟨h1, h2, h3⟩ := foldw (l := l) (a := wmax a v) fun u hu => h u (.tail _ hu)
    rw [List.foldl_cons]
    rw [wmax_in h0] at h1 h2 h3 ⊢
    refine ⟨by omega, fun u hu => ?_, fun ha => h3 (by omega)⟩
    rcases List.mem_cons.1 hu with rfl | hu
    · omega
    · exact h2 u hu
theorem freshB_eq (a : Int) (b : Bk) : freshB a b = (defsB b).foldl wmax a := by
  unfold freshB defsB
  rw [List.foldl_append]
theorem freshF_eq (bs : List Bk) : freshF bs = (defsF bs).foldl wmax 0 := by
  unfold freshF
  have key : ∀ (l : List Bk) (a : Int), l.foldl freshB a = (defsF l).foldl wmax a := by
    intro l
    induction l with
    | nil => exact fun a => rfl
    | cons b l ih =>
      intro a
      rw [List.foldl_cons, ih, freshB_eq]
      show _ = (defsB b ++ defsF l).foldl wmax a
      rw [List.foldl_append]
  exact key bs 0
theorem defs_small {bs : List Bk} (h : shapeE bs = 0) : ∀ v ∈ defsF bs, 0 ≤ v ∧ v ≤ 4095 := by
  intro v hv
  obtain ⟨b, hb, hv⟩ := List.mem_flatMap.1 hv
  obtain ⟨k, hk⟩ := List.getElem?_of_mem hb
  obtain ⟨h1, h2, _⟩ := block_zero (shape_block h hk)
  rcases List.mem_append.1 hv with hv | hv
  · obtain ⟨j, hj⟩ := List.getElem?_of_mem hv
    have h3 := firstR_zero.1 h1 j (List.getElem?_eq_some_iff.1 hj).1
    rw [paramE_at hj] at h3
    have := def_zero h3
    exact ⟨this.1, this.2.1⟩
  · obtain ⟨i, hi, rfl⟩ := List.mem_map.1 hv
    obtain ⟨j, hj⟩ := List.getElem?_of_mem hi
    have h3 := firstR_zero.1 h2 j (List.getElem?_eq_some_iff.1 hj).1
    rw [insE_at hj] at h3
    split at h3
    · rename_i h4; exact absurd h3 h4
    · rename_i h4
      have := def_zero (Classical.not_not.1 h4)
      exact ⟨this.1, this.2.1⟩
theorem fresh_bounds {bs : List Bk} (h : shapeE bs = 0) : 0 ≤ freshF bs ∧ freshF bs ≤ 4096 ∧ ∀ v ∈ defsF bs, 0 ≤ v ∧ v < freshF bs := by
  rw [freshF_eq]
  obtain ⟨h1, h2, h3⟩ := foldw (a := 0) (defs_small h)
  exact ⟨h1, h3 (by omega), fun v hv => ⟨(defs_small h v hv).1, h2 v hv⟩⟩
theorem defAt_mem {bs : List Bk} {v : Int} {b a : Nat} (h : DefAt bs v b a) : v ∈ defsF bs := by
  obtain ⟨x, hx, h⟩ := h
  refine List.mem_flatMap.2 ⟨x, List.mem_of_getElem? hx, ?_⟩
  rcases h with ⟨_, h⟩ | ⟨j, i, _, hi, rfl⟩
  · exact List.mem_append_left _ h
  · exact List.mem_append_right _ (List.mem_map.2 ⟨i, List.mem_of_getElem? hi, rfl⟩)
theorem bnd_of {nm : Int} {bs : List Bk} (h : funcE ⟨nm, bs⟩ = 0) {m : Nat} (hm : freshF bs ≤ (m : Int)) : Bnd bs m := by
  obtain ⟨_, _, hs⟩ := func_zero h
  simp only at hs
  have hu := func_uses h
  simp only at hu
  obtain ⟨_, _, hd⟩ := fresh_bounds hs
  have hf : ∀ {v : Int} {k a : Nat}, Fine bs v k a → 0 ≤ v ∧ v < (m : Int) := fun {v k a} hf => by
    obtain ⟨b, a, h1, _⟩ := hf
    have := hd v (defAt_mem h1)
    omega
  refine ⟨fun b hb i hi => ⟨?_, fun a ha => ?_⟩, fun b hb v hv => ?_, fun b hb e he => ?_⟩
  · have := hd i.to_ (List.mem_flatMap.2 ⟨b, hb, List.mem_append_right _ (List.mem_map.2 ⟨i, hi, rfl⟩)⟩)
    omega
  · obtain ⟨k, hk⟩ := List.getElem?_of_mem hb
    obtain ⟨n, hn⟩ := List.getElem?_of_mem hi
    exact hf ((hu k b hk).1 n i hn a ha)
  · obtain ⟨k, hk⟩ := List.getElem?_of_mem hb
    exact hf ((hu k b hk).2 v hv)
  · have := shape_edges hs b hb e he
    omega
end Go.Ss

/- The walk of live's build. Conditions: none. -/
namespace Go.Ss
open Go.Eng Go.RowKit
set_option linter.unusedVariables false
set_option linter.unusedSimpArgs false
def boolR : Rel (List Bool) Sc where
  sz := 1
  pos := by decide
  cells := fun l y => [slS (l, y)]
  ok := fun w O l y => BoolsO w O l y.1
  len := fun _ _ => rfl
  stab := fun hk h => h.stab hk
  mono := fun hk h => h.mono hk
/-- a set, or none yet -/
def SetOk (m : Nat) (p : List Bool × Sc) : Prop := (p.1 = [] ∧ p.2 = (none, 0)) ∨ (p.1.length = m ∧ ∃ a, p.2.1 = some a)
/-- the state of the iteration with its memory -/
structure LS where
  B : List (List Bool × Sc)
  F : List (List Bool × Sc)
  L : List (List Bool × Sc)
  O : Nat → Prop
structure LSok (bs : List Bk) (m : Nat) (g : LS) : Prop where
  st : LSt bs m (g.B.map Prod.fst) (g.F.map Prod.fst)
  b : ∀ p ∈ g.B, SetOk m p ∧ (p.1 = [] ∨ p ∈ g.L)
  f : ∀ p ∈ g.F, SetOk m p ∧ (p.1 = [] ∨ p ∈ g.L)
theorem LSok.len {bs : List Bk} {m : Nat} {g : LS} (h : LSok bs m g) : g.B.length = bs.length ∧ g.F.length = bs.length := ⟨by have := h.st.bl; simpa using this, by have := h.st.fl; simpa using this⟩
def muT (m : Nat) (g : LS) : Nat := muL m (g.B.map Prod.fst)
theorem slS_zero (n : Nat) : List.replicate n (Value.slice none 0 0) = (List.replicate n (([], (none, 0)) : List Bool × Sc)).map slS := by rw [List.map_replicate]; rfl
/-- the sets read -/
theorem pool_sets {H : List Eng.Item} {S : List World} {w : World} {B m : Nat} {O : Nat → Prop} {L l : List (List Bool × Sc)} (h : Cls H S w) (hp : pool boolR B O L ∈ H) (hl : ∀ p ∈ l, SetOk m p ∧ (p.1 = [] ∨ p ∈ L)) : ∀ p ∈ l, p.1.length ≤ m ∧ BoolsO w (low w) p.1 p.2.1 := fun p hpl => by
  obtain ⟨h1, h2⟩ := hl p hpl
  refine ⟨?_, ?_⟩
  · rcases h1 with ⟨h1, _⟩ | ⟨h1, _⟩
    · rw [h1]; simp
    · omega
  · rcases h2 with h2 | h2
    · rw [h2]; exact BoolsO.nil
    · exact BoolsO.mono (fun k hk => h.lt _ hp k hk) (h.item hp p h2)
theorem blk_fresh {S : List World} {w w' : World} {b : Nat} {e : TypeId} {l : List Bool} (h : Cls [blk b e (bls l)] S w') (hb : w.heap.size ≤ b) : BoolsO w' (fresh w w') l (some ⟨b, 0, none⟩) := fun _ =>
  ⟨_, rfl, ⟨hb, blk_lt (h.item (.head _))⟩, fun j v hj => by rw [add_mid, blk_cell (h.item (.head _)), Nat.zero_add]; exact hj⟩
theorem blk_ext {S : List World} {w w' : World} {b : Nat} {e : TypeId} {l : List Value} (h : Cls [blk b e l] S w') (hs : w ∈ S) (hb : w.heap.size ≤ b) : Ext w w' := h.toExt hs (fun k hk => NotOwned.blk (by omega) NotOwned.nil)
theorem row_ext {S : List World} {w w' : World} {B m cap size : Nat} {O : Nat → Prop} {q : Option Addr} {e : TypeId} {l : List Value} (h : Cls [row B O q m cap e size l] S w') (hs : w ∈ S) (hb : w.heap.size ≤ B) : Ext w w' := h.toExt hs (fun k hk => NotOwned.row (by omega) NotOwned.nil)
theorem LSok.step {bs : List Bk} {m : Nat} {g : LS} (hb : Bnd bs m) (hm : 0 < m) (h : LSok bs m g) {k : Nat} {b : Bk} {p : List Bool × Sc} (hk : bs[k]? = some b) (hp : g.B[k]? = some p) {nx : List Bool} (hnx : tab m (lastG bs (g.F.map Prod.fst) b.term) = nx) (hne : p.1 = [] ∨ nx ≠ p.1) {x y : Sc} (hx : ∃ a, x.1 = some a) (hy : ∃ a, y.1 = some a) {O : Nat → Prop} :
    LSok bs m ⟨g.B.set k (nx, x), g.F.set k (backS b.ins nx, y), g.L ++ [(nx, x)] ++ [(backS b.ins nx, y)], O⟩ ∧ muL m ((g.B.set k (nx, x)).map Prod.fst) < muT m g := by
  have h1 := h.st.step hb hm hk (s := p.1) (by rw [List.getElem?_map, hp]; rfl) (by rw [hnx]; exact hne)
  rw [hnx] at h1
  have hnl : nx.length = m := by rw [← hnx, tab_length]
  have e1 : (g.B.set k (nx, x)).map Prod.fst = (g.B.map Prod.fst).set k nx := by rw [List.map_set]
  have e2 : (g.F.set k (backS b.ins nx, y)).map Prod.fst = (g.F.map Prod.fst).set k (backS b.ins nx) := by rw [List.map_set]
  refine ⟨⟨by simp only [e1, e2]; exact h1.1, fun p hp => ?_, fun p hp => ?_⟩, by rw [e1]; exact h1.2⟩
  · rcases List.mem_or_eq_of_mem_set hp with hp | rfl
    · exact ⟨(h.b p hp).1, (h.b p hp).2.imp id fun hm => by simp [hm]⟩
    · exact ⟨.inr ⟨hnl, hx⟩, .inr (by simp)⟩
  · rcases List.mem_or_eq_of_mem_set hp with hp | rfl
    · exact ⟨(h.f p hp).1, (h.f p hp).2.imp id fun hm => by simp [hm]⟩
    · exact ⟨.inr ⟨by rw [backS_length]; exact hnl, hy⟩, .inr (by simp)⟩
theorem LSok.init (bs : List Bk) (m : Nat) : LSok bs m ⟨List.replicate bs.length ([], (none, 0)), List.replicate bs.length ([], (none, 0)), [], fun _ => False⟩ where
  st := by simp only [List.map_replicate]; exact LSt.init
  b := fun p hp => by rw [List.eq_of_mem_replicate hp]; exact ⟨.inl ⟨rfl, rfl⟩, .inl rfl⟩
  f := fun p hp => by rw [List.eq_of_mem_replicate hp]; exact ⟨.inl ⟨rfl, rfl⟩, .inl rfl⟩
theorem LSok.all {bs : List Bk} {m : Nat} {g : LS} (h : LSok bs m g) (hm : 0 < m) (hst : Stable bs m (g.B.map Prod.fst) (g.F.map Prod.fst) 0) : (∀ p ∈ g.B, p.1.length = m) ∧ ∀ p ∈ g.F, p.1.length = m := by
  have hB : ∀ (k : Nat) p, g.B[k]? = some p → p.1.length = m ∧ ∀ pf, g.F[k]? = some pf → pf.1.length = m := fun k p hp => by
    have hkl := (List.getElem?_eq_some_iff.1 hp).1
    obtain ⟨b, hb⟩ : ∃ b, bs[k]? = some b := ⟨_, List.getElem?_eq_getElem (by rw [← h.len.1]; exact hkl)⟩
    have hs : (g.B.map Prod.fst)[k]? = some p.1 := by rw [List.getElem?_map, hp]; rfl
    have h1 := (hst k b p.1 (Nat.zero_le _) hb hs).1
    rcases h.st.ok k b p.1 hb hs with ⟨h2, _⟩ | ⟨h2, h3⟩
    · exact absurd h2 h1
    · refine ⟨h2, fun pf hpf => ?_⟩
      rw [List.getElem?_map, hpf] at h3
      rw [show pf.1 = _ from Option.some.inj h3, backS_length, h2]
  refine ⟨fun p hp => ?_, fun p hp => ?_⟩
  · obtain ⟨k, hk⟩ := List.getElem?_of_mem hp
    exact (hB k p hk).1
  · obtain ⟨k, hk⟩ := List.getElem?_of_mem hp
    have hkl := (List.getElem?_eq_some_iff.1 hk).1
    obtain ⟨pb, hpb⟩ : ∃ pb, g.B[k]? = some pb := ⟨_, List.getElem?_eq_getElem (by rw [h.len.1, ← h.len.2]; exact hkl)⟩
    exact (hB k pb hpb).2 p hk
end Go.Ss
namespace Go.Proofs.Ytehelljmaiophaa.ss
set_option maxRecDepth 100000
open Go.Eng Go.RowKit Go.Ss
set_option linter.unusedVariables false
set_option linter.unusedSimpArgs false
structure XLv (B : Nat) where
  b7 : Nat
  h7 : B ≤ b7
  b9 : Nat
  h9 : B ≤ b9
  old : Nat → Value
/-- what build hands out -/
structure Built (w : World) (fn : Go.Ss.Fn) (y : FnY) (m bL bB bF : Nat) (B F : List (List Bool × Sc)) : Prop where
  life : (blk bL 96 [.int .i64 fn.name, .slice y.q fn.blocks.length y.c, .int .i64 (m : Int), .slice (some ⟨bB, 0, none⟩) fn.blocks.length fn.blocks.length]).holds w
  b : (blk bB 73 (B.map slS)).holds w
  f : (blk bF 73 (F.map slS)).holds w
  bo : ∀ p ∈ B, p.1.length = m ∧ BoolsO w (low w) p.1 p.2.1
  fo : ∀ p ∈ F, p.1.length = m ∧ BoolsO w (low w) p.1 p.2.1
  st : LSt fn.blocks m (B.map Prod.fst) (F.map Prod.fst)
  fix : Stable fn.blocks m (B.map Prod.fst) (F.map Prod.fst) 0
theorem build_calls (fn : Go.Ss.Fn) (y : FnY) (w : World) (hfn : FnOk w (low w) fn y) :
    Calls Try.prog 60 [.agg (fnC fn y).toArray].toArray w fun e w' => Ext w w' ∧ ((funcE fn ≠ 0 ∧ e = .returned (.tuple #[.pointer none, .slice none 0 0, .int .i64 (funcE fn)])) ∨
      (funcE fn = 0 ∧ ∃ bL bB bF B F, e = .returned (.tuple #[.pointer (some ⟨bL, 0, none⟩), .slice (some ⟨bF, 0, none⟩) fn.blocks.length fn.blocks.length, .int .i64 0]) ∧ Built w' fn y ((freshF fn.blocks).toNat + 1) bL bB bF B F)) := by
  have hfn0 := hfn
  obtain ⟨es, hes, he⟩ := hfn.b
  obtain ⟨nm, bs⟩ := fn
  obtain ⟨q, cap⟩ := y
  have hbl := hfn.bl
  simp only at hes he hbl ⊢
  have hbl2 : bs.length = es.length := by rw [← hes, List.length_map]
  have hF : ∀ (H : List Eng.Item) (S : List World) (w2 : World), Cls H S w2 → w ∈ S → (∀ k, k < w.heap.size → NotOwned H k) → FnOk w2 (low w2) ⟨nm, bs⟩ ⟨q, cap⟩ := fun H S w2 hw2 hs hno => fnR.mono (hw2.up hs) (fnR.stab (hw2.same hs hno) hfn0)
  have hcC : (fnC ⟨nm, bs⟩ ⟨q, cap⟩) = [.int .i64 nm, .slice q es.length cap] := by simp only [fnC]; rw [hbl2]
  have hFe := fun w2 (H : List Eng.Item) (S : List World) hw2 hs hno => CheckFunc_calls ⟨nm, bs⟩ ⟨q, cap⟩ w2 (hF H S w2 hw2 hs hno)
  obtain ⟨er, her⟩ : ∃ er, funcE ⟨nm, bs⟩ = er := ⟨_, rfl⟩
  rw [hcC, her]
  simp only [hcC, her] at hFe
  refine enter Try.func60 rfl Try.ntmps60 rfl (Cls.start w) ?_
  (simp only [argEnv, Nat.zero_add, Nat.reduceAdd])
  apply W.sr
  apply OL.box; rfl; rfl; exact CellsL.agg; (intro bk hbk; simp only [AllLe, and_true] at hbk)
  apply oas; rfl; rfl
  apply oas; rfl; rfl
  apply oas; rfl; rfl
  apply OL.nx
  apply W.seq
  apply W.sr
  apply oop; rfl; apply Pev.load_blkA; rfl; exact yes; exact .head _; rfl; exact Take.au
  have hb1 : w.heap.size ≤ bk := by first | exact hbk | exact hbk.1
  (((first | (with_reducible apply OL.op) | (with_reducible apply QL.op)); (exact Guard.au); rfl; rfl); (exact Pev.call (v := .int .i64 er) rfl (by exact Args.au) (fun _ w2 hw2 => (hFe w2 _ _ hw2 (by exact mau) (fun k hk => NotOwned.blk (by omega) NotOwned.nil)).mono (fun e w3 h => ⟨h.1, hw2.ext h.2⟩))))
  apply oas; rfl; rfl
  apply OL.nsr
  apply omv; rfl; rfl
  apply obn; rfl; rfl; rfl; apply Bin.neq
  apply OL.nx
  refine W.cond rfl (fun hne => ?_) (fun hne => ?_)
  · have hne2 : er ≠ 0 := by simpa using hne
    apply W.sr
    apply omv; rfl; rfl
    apply oas; rfl; rfl
    apply oas; rfl; rfl
    apply oas; rfl; rfl
    apply OL.nx
    refine W.rt ?_
    ((with_reducible apply At.fin3); rfl; rfl; rfl; rfl; intro w' hw')
    exact ⟨(hw'.thin (.any (fun k hk => by rw [show k = bk from hk]; exact ⟨hb1, trivial⟩) Thin.nil)).fr (by exact mau) (fun k hk => NotOwned.nil), .inl ⟨hne2, rfl⟩⟩
  obtain rfl : er = 0 := by simpa using hne
  obtain ⟨h0, h128, hs0⟩ := func_zero her
  simp only at h0 h128 hs0
  obtain ⟨hfr0, hfr1, _⟩ := fresh_bounds hs0
  obtain ⟨m, hm⟩ : ∃ m, (freshF bs).toNat + 1 = m := ⟨_, rfl⟩
  rw [hm]
  have hmI : freshF bs + 1 = (m : Int) := by omega
  have hbd := bnd_of her (m := m) (by omega)
  have hSF := fun w2 (H : List Eng.Item) (S : List World) (hw2 : Cls H S w2) hs hno => SFresh_calls es q cap nm w2 (he.at hw2 hs hno) (by omega)
  rw [hes] at hSF
  apply W.sk
  apply W.seq
  revert bk
  intro b1 hb1x hb1
  refine W.regany (X := XLv w.heap.size) (fun x e => [(6, true, bif e 10 then .pointer (some ⟨x.b9, 0, none⟩) else x.old 6), (25, true, bif e 9 then .pointer (some ⟨x.b9, 0, none⟩) else x.old 25), (24, true, bif e 8 then .agg #[.int .i64 nm, .slice q es.length cap, .int .i64 (m : Int), .slice (some ⟨x.b7, 0, none⟩) es.length es.length] else x.old 24), (23, true, bif e 7 then .slice (some ⟨x.b7, 0, none⟩) es.length es.length else x.old 23), (22, true, bif e 6 then .int .i64 (es.length : Int) else x.old 22), (21, true, bif e 5 then .slice q es.length cap else x.old 21), (20, true, bif e 4 then .pointer (some ⟨b1, 0 + 1, none⟩) else x.old 20), (19, true, bif e 3 then .int .i64 (m : Int) else x.old 19), (18, true, bif e 2 then .int .i64 (freshF bs) else x.old 18), (17, true, bif e 1 then .agg #[.int .i64 nm, .slice q es.length cap] else x.old 17), (16, true, bif e 0 then .agg #[.int .i64 nm, .slice q es.length cap] else x.old 16), (4, true, .int .i64 0), (1, true, .pointer (some ⟨b1, 0, none⟩))])
    (fun x e => (blk b1 24 [.int .i64 nm, .slice q es.length cap]) :: (bif e 7 then blk x.b7 73 (List.replicate es.length (.slice none 0 0)) else nothing) :: (bif e 9 then blk x.b9 96 [.int .i64 nm, .slice q es.length cap, .int .i64 (m : Int), .slice (some ⟨x.b7, 0, none⟩) es.length es.length] else nothing) :: [])
    (fun old => ⟨w.heap.size, Nat.le_refl _, w.heap.size, Nat.le_refl _, old⟩) (by kernel_rfl) (by kernel_rfl) (fun w hw => hw.drew) (fun old => by repeat (first | exact SubO.nil | apply SubO.cons rfl | refine SubO.old rfl ?_)) (fun old w' hw' => hw'.add_nothing.add_nothing) ?_ ?_
  · intro x e i o ho hei hd hcl
    have hi : i < 11 := (List.getElem?_eq_some_iff.1 ho).1
    obtain rfl | rfl | rfl | rfl | rfl | rfl | rfl | rfl | rfl | rfl | rfl : i = 0 ∨ i = 1 ∨ i = 2 ∨ i = 3 ∨ i = 4 ∨ i = 5 ∨ i = 6 ∨ i = 7 ∨ i = 8 ∨ i = 9 ∨ i = 10 := by omega
    · cases ho
      have v0 : Eng.upd e 0 0 = true := upd_eq
      simp only [hei, cond_true, cond_false]
      have hx7 := x.h7
      have hx9 := x.h9
      apply oop; rfl; apply Pev.load_blkA; rfl; exact yes; exact .head _; rfl; exact Take.au
      apply OL.nil
      exact At.beside x (by repeat (first | exact Sub.nil | apply Sub.cons rfl | refine Sub.cons_eq rfl (by simp only [v0, cond_true, cond_false]) ?_)) (fun w' hw' => by first | exact hw' | (simp only [v0, cond_true, cond_false]; exact hw'))
    · cases ho
      have v1 : Eng.upd e 1 1 = true := upd_eq
      simp only [hei, cond_true, cond_false]
      have hx7 := x.h7
      have hx9 := x.h9
      apply oop; rfl; apply Pev.load_blkA; rfl; exact yes; exact .head _; rfl; exact Take.au
      apply OL.nil
      exact At.beside x (by repeat (first | exact Sub.nil | apply Sub.cons rfl | refine Sub.cons_eq rfl (by simp only [v1, cond_true, cond_false]) ?_)) (fun w' hw' => by first | exact hw' | (simp only [v1, cond_true, cond_false]; exact hw'))
    · cases ho
      have h1 : e 1 = true := hd ⟨1, .data⟩ (by simp) rfl
      have v2 : Eng.upd e 2 2 = true := upd_eq
      have v1 : Eng.upd e 2 1 = true := upd_mono h1
      simp only [hei, h1, cond_true, cond_false]
      have hx7 := x.h7
      have hx9 := x.h9
      (((first | (with_reducible apply OL.op) | (with_reducible apply QL.op)); (exact Guard.au); rfl; rfl); (refine Pev.call (v := .int .i64 (freshF bs)) rfl (by exact Args.au) (fun _ w2 hw2 => (hSF w2 _ _ hw2 (by exact mau) (fun k hk => NotOwned.blk (by omega) ?_)).mono (fun e w3 h => ⟨h.1, hw2.ext h.2⟩))))
      · repeat (first | exact NotOwned.nil | (refine NotOwned.nothing ?_) | (refine NotOwned.blk (by omega) ?_) | (apply NotOwned.bif))
      apply OL.nil
      exact At.beside x (by repeat (first | exact Sub.nil | apply Sub.cons rfl | refine Sub.cons_eq rfl (by simp only [v2, v1, cond_true, cond_false]) ?_)) (fun w' hw' => by first | exact hw' | (simp only [v2, v1, cond_true, cond_false]; exact hw'))
    · cases ho
      have h2 : e 2 = true := hd ⟨2, .data⟩ (by simp) rfl
      have v3 : Eng.upd e 3 3 = true := upd_eq
      have v2 : Eng.upd e 3 2 = true := upd_mono h2
      simp only [hei, h2, cond_true, cond_false]
      apply obn; rfl; rfl; rfl; apply Bin.add_in; omega
      apply OL.nil
      rw [hmI]
      exact At.beside x (by repeat (first | exact Sub.nil | apply Sub.cons rfl | refine Sub.cons_eq rfl (by simp only [v3, v2, cond_true, cond_false]) ?_)) (fun w' hw' => by first | exact hw' | (simp only [v3, v2, cond_true, cond_false]; exact hw'))
    · cases ho
      have v4 : Eng.upd e 4 4 = true := upd_eq
      simp only [hei, cond_true, cond_false]
      apply ofa; rfl; rfl; rfl
      apply OL.nil
      exact At.beside x (by repeat (first | exact Sub.nil | apply Sub.cons rfl | refine Sub.cons_eq rfl (by simp only [v4, cond_true, cond_false]) ?_)) (fun w' hw' => by first | exact hw' | (simp only [v4, cond_true, cond_false]; exact hw'))
    · cases ho
      have h4 : e 4 = true := hd ⟨4, .data⟩ (by simp) rfl
      have v5 : Eng.upd e 5 5 = true := upd_eq
      have v4 : Eng.upd e 5 4 = true := upd_mono h4
      simp only [hei, h4, cond_true, cond_false]
      have hx7 := x.h7
      have hx9 := x.h9
      apply old; rfl; rfl; exact .head _; rfl; rfl
      apply OL.nil
      exact At.beside x (by repeat (first | exact Sub.nil | apply Sub.cons rfl | refine Sub.cons_eq rfl (by simp only [v5, v4, cond_true, cond_false]) ?_)) (fun w' hw' => by first | exact hw' | (simp only [v5, v4, cond_true, cond_false]; exact hw'))
    · cases ho
      have h5 : e 5 = true := hd ⟨5, .data⟩ (by simp) rfl
      have v6 : Eng.upd e 6 6 = true := upd_eq
      have v5 : Eng.upd e 6 5 = true := upd_mono h5
      simp only [hei, h5, cond_true, cond_false]
      apply oop; rfl; apply Pev.len_slice; rfl; exact yes; rfl
      apply OL.nil
      exact At.beside x (by repeat (first | exact Sub.nil | apply Sub.cons rfl | refine Sub.cons_eq rfl (by simp only [v6, v5, cond_true, cond_false]) ?_)) (fun w' hw' => by first | exact hw' | (simp only [v6, v5, cond_true, cond_false]; exact hw'))
    · cases ho
      have h6 : e 6 = true := hd ⟨6, .data⟩ (by simp) rfl
      have h8 : e 8 = false := hcl.not (i := 7) (j := 8) rfl hei (by kernel_rfl)
      have h9 : e 9 = false := hcl.not (i := 8) (j := 9) rfl h8 (by kernel_rfl)
      have v7 : Eng.upd e 7 7 = true := upd_eq
      have v6 : Eng.upd e 7 6 = true := upd_mono h6
      have v8 : Eng.upd e 7 8 = false := h8
      have v9 : Eng.upd e 7 9 = false := h9
      simp only [hei, h6, h8, h9, cond_true, cond_false]
      have hx7 := x.h7
      have hx9 := x.h9
      apply OL.makeSlice; rfl; rfl; rfl; rfl; rfl; rfl; rfl; omega; (intro bk hbk; simp only [AllLe, and_true] at hbk)
      apply OL.nil
      exact At.beside { x with b7 := bk, h7 := hbk } (by repeat (first | exact Sub.nil | apply Sub.cons rfl | refine Sub.cons_eq rfl (by simp only [v7, v6, v8, v9, cond_true, cond_false]) ?_)) (fun w' hw' => by simp only [v7, v6, v8, v9, cond_true, cond_false]; exact Cls.fill (p := 1) (H := _ :: _ :: _ :: []) (.s .z) hw')
    · cases ho
      have h0 : e 0 = true := hd ⟨0, .data⟩ (by simp) rfl
      have h3 : e 3 = true := hd ⟨3, .data⟩ (by simp) rfl
      have h7 : e 7 = true := hd ⟨7, .data⟩ (by simp) rfl
      have v8 : Eng.upd e 8 8 = true := upd_eq
      have v0 : Eng.upd e 8 0 = true := upd_mono h0
      have v3 : Eng.upd e 8 3 = true := upd_mono h3
      have v7 : Eng.upd e 8 7 = true := upd_mono h7
      simp only [hei, h0, h3, h7, cond_true, cond_false]
      have hx7 := x.h7
      have hx9 := x.h9
      apply oop; rfl; apply Pev.build; rfl; exact CellsL.agg; rfl; exact Fill.au; rfl
      apply OL.nil
      exact At.beside x (by repeat (first | exact Sub.nil | apply Sub.cons rfl | refine Sub.cons_eq rfl (by simp only [v8, v0, v3, v7, cond_true, cond_false]) ?_)) (fun w' hw' => by first | exact hw' | (simp only [v8, v0, v3, v7, cond_true, cond_false]; exact hw'))
    · cases ho
      have h8 : e 8 = true := hd ⟨8, .data⟩ (by simp) rfl
      have h10 : e 10 = false := hcl.not (i := 9) (j := 10) rfl hei (by kernel_rfl)
      have v9 : Eng.upd e 9 9 = true := upd_eq
      have v8 : Eng.upd e 9 8 = true := upd_mono h8
      have v10 : Eng.upd e 9 10 = false := h10
      simp only [hei, h8, h10, cond_true, cond_false]
      have hx7 := x.h7
      have hx9 := x.h9
      apply OL.box; rfl; rfl; exact CellsL.agg; (intro bk hbk; simp only [AllLe, and_true] at hbk)
      apply OL.nil
      exact At.beside { x with b9 := bk, h9 := hbk } (by repeat (first | exact Sub.nil | apply Sub.cons rfl | refine Sub.cons_eq rfl (by simp only [v9, v8, v10, cond_true, cond_false]) ?_)) (fun w' hw' => by simp only [v9, v8, v10, cond_true, cond_false]; exact Cls.fill (p := 2) (H := _ :: _ :: _ :: []) (.s (.s .z)) hw')
    · cases ho
      have h9 : e 9 = true := hd ⟨9, .data⟩ (by simp) rfl
      have v10 : Eng.upd e 10 10 = true := upd_eq
      have v9 : Eng.upd e 10 9 = true := upd_mono h9
      simp only [hei, h9, cond_true, cond_false]
      have hx7 := x.h7
      have hx9 := x.h9
      apply oas; rfl; rfl
      apply OL.nil
      exact At.beside x (by repeat (first | exact Sub.nil | apply Sub.cons rfl | refine Sub.cons_eq rfl (by simp only [v10, v9, cond_true, cond_false]) ?_)) (fun w' hw' => by first | exact hw' | (simp only [v10, v9, cond_true, cond_false]; exact hw'))
  intro x e hall
  obtain ⟨bB, hbB, bL, hbL, old⟩ := x
  simp only [hall 0 (by decide), hall 1 (by decide), hall 2 (by decide), hall 3 (by decide), hall 4 (by decide), hall 5 (by decide), hall 6 (by decide), hall 7 (by decide), hall 8 (by decide), hall 9 (by decide), hall 10 (by decide), cond_true, cond_false]
  with_reducible apply At.next
  apply W.sr
  apply ofa; rfl; rfl; rfl
  apply oop; rfl; apply Pev.load_blk; rfl; exact yes; exact .head _; rfl; rfl
  apply oop; rfl; apply Pev.len_slice; rfl; exact yes; rfl
  apply OL.makeSlice; rfl; rfl; rfl; rfl; rfl; rfl; rfl; omega; (intro bk hbk; simp only [AllLe, and_true] at hbk)
  apply oas; rfl; rfl
  apply OL.nx
  apply W.seq
  apply W.sr
  apply oas; rfl; rfl
  apply OL.nx
  apply W.block
  revert bk
  intro bF hbF
  have hbF1 : w.heap.size ≤ bF := by first | exact hbF | exact hbF.1
  have hbLi : LSok bs m ⟨List.replicate bs.length ([], (none, 0)), List.replicate bs.length ([], (none, 0)), [], fun _ => False⟩ := LSok.init bs m
  rw [slS_zero, ← hbl2]
  have hm0 : 0 < m := by omega
  have hm1 : m ≤ 1000000 := by omega
  refine W.loop (G := LS × Bool) (fun g => LSok bs m g.1 ∧ (g.2 = false → Stable bs m (g.1.B.map Prod.fst) (g.1.F.map Prod.fst) 0)) (fun g => 2 * muT m g.1 + if g.2 then 1 else 0)
    (fun g => [(1, true, .pointer (some ⟨b1, 0, none⟩)), (6, true, .pointer (some ⟨bL, 0, none⟩)), (7, true, .slice (some ⟨bF, 0, none⟩) bs.length bs.length), (8, true, .bool g.2)])
    (fun g => Cls [pool boolR w.heap.size g.1.O g.1.L, blk bF 73 (g.1.F.map slS), blk b1 24 [.int .i64 nm, .slice q bs.length cap], blk bB 73 (g.1.B.map slS), blk bL 96 [.int .i64 nm, .slice q bs.length cap, .int .i64 (m : Int), .slice (some ⟨bB, 0, none⟩) bs.length bs.length]] [w])
    (⟨List.replicate bs.length ([], (none, 0)), List.replicate bs.length ([], (none, 0)), [], fun _ => False⟩, true) ⟨hbLi, fun h => by cases h⟩ (by exact Sub.au) (fun w' hw' => hw'.pool_nil boolR w.heap.size) ?_
  rintro ⟨g, ag⟩ ⟨hg, hst⟩
  simp only at hg hst ⊢
  apply W.seq
  apply W.sr
  apply omv; rfl; rfl
  apply OL.nx
  cases ag with
  | false =>
    refine W.cond rfl (fun h => by cases h) (fun _ => ?_)
    have hst0 := hst rfl
    obtain ⟨hal1, hal2⟩ := hg.all hm0 hst0
    refine W.xt ?_
    with_reducible apply At.next
    apply W.sr
    apply omv; rfl; rfl
    apply omv; rfl; rfl
    apply oas; rfl; rfl
    apply oas; rfl; rfl
    apply oas; rfl; rfl
    apply OL.nx
    apply W.ret
    ((with_reducible apply At.fin3); rfl; rfl; rfl; rfl; intro w' hw')
    refine ⟨hw'.toExt (by exact mau) (fun k hk => NotOwned.pool (by omega) (NotOwned.blk (by omega) (NotOwned.blk (by omega) (NotOwned.blk (by omega) (NotOwned.blk (by omega) NotOwned.nil))))), .inr ?_⟩
    refine ⟨by trivial, bL, bB, bF, g.B, g.F, rfl, ?_⟩
    have hsB := pool_sets hw' (.head _) hg.b
    have hsF := pool_sets hw' (.head _) hg.f
    exact ⟨hw'.item (by exact mau), hw'.item (by exact mau), hw'.item (by exact mau), fun p hp => ⟨hal1 p hp, (hsB p hp).2⟩, fun p hp => ⟨hal2 p hp, (hsF p hp).2⟩, hg.st, hst0⟩
  | true =>
    refine W.cond rfl (fun _ => ?_) (fun h => by cases h)
    apply W.sk
    apply W.block
    apply W.sr
    apply oas; rfl; rfl
    apply OL.nsr
    apply ofa; rfl; rfl; rfl
    apply oop; rfl; apply Pev.load_blk; rfl; exact yes; exact .tail _ (.tail _ (.head _)); rfl; rfl
    apply oop; rfl; apply Pev.len_slice; rfl; exact yes; rfl
    apply obn; rfl; rfl; rfl; apply Bin.sub_in; omega
    apply oas; rfl; rfl
    apply OL.nx
    apply W.block
    refine W.loop (G := Nat × LS × Bool) (fun z => z.1 ≤ bs.length ∧ LSok bs m z.2.1 ∧ ((z.2.2 = false ∧ (z.2.1.B = g.B ∧ z.2.1.F = g.F) ∧ Stable bs m (g.B.map Prod.fst) (g.F.map Prod.fst) z.1) ∨ (z.2.2 = true ∧ muT m z.2.1 < muT m g))) (fun z => z.1)
      (fun z => [(1, true, .pointer (some ⟨b1, 0, none⟩)), (6, true, .pointer (some ⟨bL, 0, none⟩)), (7, true, .slice (some ⟨bF, 0, none⟩) bs.length bs.length), (8, true, .bool z.2.2), (9, true, .int .i64 ((z.1 : Int) - 1))])
      (fun z => Cls [pool boolR w.heap.size z.2.1.O z.2.1.L, blk bF 73 (z.2.1.F.map slS), blk b1 24 [.int .i64 nm, .slice q bs.length cap], blk bB 73 (z.2.1.B.map slS), blk bL 96 [.int .i64 nm, .slice q bs.length cap, .int .i64 (m : Int), .slice (some ⟨bB, 0, none⟩) bs.length bs.length]] [w])
      (bs.length, g, false) ⟨Nat.le_refl _, hg, .inl ⟨rfl, ⟨rfl, rfl⟩, fun j b s hj hb _ => by have := (List.getElem?_eq_some_iff.1 hb).1; omega⟩⟩ (by exact Sub.au) (fun w' hw' => hw') ?_
    rintro ⟨k1, z, ag⟩ ⟨hk1, hz, hag⟩
    simp only at hk1 hz hag ⊢
    apply W.seq
    apply W.sr
    apply omv; rfl; rfl
    apply obn; rfl; rfl; rfl; apply Bin.geq
    apply OL.nx
    (refine W.cnd (fun hlt => ?_) (fun hlt => ?_)) <;> (try (exfalso; first | omega | exact hlt trivial | contradiction))
    · obtain ⟨k, rfl⟩ : ∃ k, k1 = k + 1 := ⟨k1 - 1, by omega⟩
      have hkI : ((k + 1 : Nat) : Int) - 1 = (k : Int) := by omega
      have hkl : k < es.length := by omega
      obtain ⟨b, hkb⟩ : ∃ b, bs[k]? = some b := ⟨_, List.getElem?_eq_getElem (by omega)⟩
      have hgb : bs.getD k noB = b := by rw [List.getD_eq_getElem?_getD, hkb]; rfl
      obtain ⟨pB, hpB⟩ : ∃ p, z.B[k]? = some p := ⟨_, List.getElem?_eq_getElem (by rw [hz.len.1]; omega)⟩
      have hpBok := hz.b pB (List.mem_of_getElem? hpB)
      obtain ⟨nx, hnx⟩ : ∃ nx, tab m (lastG bs (z.F.map Prod.fst) b.term) = nx := ⟨_, rfl⟩
      have hnl : nx.length = m := by rw [← hnx, tab_length]
      have hbv : (z.B.map slS)[0 + (k : Int).toNat * 1]? = some (.slice pB.2.1 pB.1.length pB.2.2) := by
        rw [show 0 + (k : Int).toNat * 1 = k by omega, List.getElem?_map, hpB]; rfl
      have hLa := fun w2 (hw2 : Cls [pool boolR w.heap.size z.O z.L, blk bF 73 (z.F.map slS), blk b1 24 [.int .i64 nm, .slice q bs.length cap], blk bB 73 (z.B.map slS), blk bL 96 [.int .i64 nm, .slice q bs.length cap, .int .i64 (m : Int), .slice (some ⟨bB, 0, none⟩) bs.length bs.length]] [w] w2) => last_calls es q cap nm bL bF m k (.slice (some ⟨bB, 0, none⟩) bs.length bs.length) z.F w2 (he.at hw2 (.head _) (fun k hk => NotOwned.pool (by omega) (NotOwned.blk (by omega) (NotOwned.blk (by omega) (NotOwned.blk (by omega) (NotOwned.blk (by omega) NotOwned.nil)))))) (by omega) hkl (by rw [hes]; exact hs0) (by rw [hes]; exact hbd) hm1 (by rw [← hbl2]; exact hw2.item (by exact mau)) (hw2.item (by exact mau)) (by rw [hz.len.2, hbl2]) (pool_sets hw2 (.head _) hz.f)
      simp only [hes, hgb, hnx, ← hbl2] at hLa
      simp only [hkI]
      apply W.sk
      apply W.sb
      apply W.sr
      apply omv; rfl; rfl
      apply omv; rfl; rfl
      apply omv; rfl; rfl
      refine OL.callE (α := Nat × (Nat → Prop)) (fun u => .slice (some ⟨u.1, 0, none⟩) m m) (fun _ => True) (fun u => Cls [pool boolR w.heap.size u.2 (z.L ++ [(nx, (some ⟨u.1, 0, none⟩, m))]), blk bF 73 (z.F.map slS), blk b1 24 [.int .i64 nm, .slice q bs.length cap], blk bB 73 (z.B.map slS), blk bL 96 [.int .i64 nm, .slice q bs.length cap, .int .i64 (m : Int), .slice (some ⟨bB, 0, none⟩) bs.length bs.length]] [w]) rfl rfl (by exact Args.au) (fun w2 hw2 => (hLa w2 hw2).mono fun e w3 ⟨b', h1, h2, h3⟩ => ⟨(b', fun k => z.O k ∨ Eng.fresh w2 w3 k), h1, trivial, Cls.pool_push (R := boolR) (x := nx) (y := (some ⟨b', 0, none⟩, m)) .z hw2 (hw2.kp w (by exact mau)).size (blk_ext h3 (.head _) h2) (blk_fresh h3 h2)⟩) ?_
      rintro ⟨bN, O1⟩ _
      simp only
      apply oas; rfl; rfl
      apply OL.nx
      apply W.seq
      apply W.sr
      apply omv; rfl; rfl
      apply oop; rfl; apply Pev.nil_ptr; rfl; exact yes
      apply ofa; rfl; rfl; rfl
      apply oop; rfl; apply Pev.load_blk; rfl; exact yes; apply List.Mem.tail; apply List.Mem.tail; exact .tail _ (.tail _ (.head _)); rfl; rfl
      apply omv; rfl; rfl
      apply oop; rfl; apply Pev.idxB; rfl; exact yes; rfl; exact yes; rfl; intro hcond; omega; rfl
      apply oop; rfl; apply Pev.load_blk; rfl; exact yes; apply List.Mem.tail; exact .tail _ (.tail _ (.head _)); rfl; assumption
      apply obn; rfl; rfl; rfl; apply Bin.slice_nnil; rfl
      apply omv; rfl; rfl
      apply oy; rfl; rfl; rfl; apply Pev.move; rfl; exact yes
      apply oy; rfl; rfl; rfl; apply Pev.move; rfl; exact yes
      apply oy; rfl; rfl; rfl; apply Pev.nil_ptr; rfl; exact fun h => h
      apply oy; rfl; rfl; rfl; apply Pev.fld; rfl; exact fun h => h; rfl
      apply oy; rfl; rfl; rfl; apply Pev.load_blk; rfl; exact fun h => h; apply List.Mem.tail; apply List.Mem.tail; exact .tail _ (.tail _ (.head _)); rfl; rfl
      apply oy; rfl; rfl; rfl; apply Pev.move; rfl; exact yes
      apply oy; rfl; rfl; rfl; apply Pev.idxB; rfl; exact fun h => h; rfl; exact fun h => h; rfl; intro hcond; omega; rfl
      apply oy; rfl; rfl; rfl; apply Pev.load_blk; rfl; exact fun h => h; apply List.Mem.tail; exact .tail _ (.tail _ (.head _)); rfl; assumption
      have hEq := fun w2 (hw2 : Cls [pool boolR w.heap.size O1 (z.L ++ [(nx, (some ⟨bN, 0, none⟩, m))]), blk bF 73 (z.F.map slS), blk b1 24 [.int .i64 nm, .slice q bs.length cap], blk bB 73 (z.B.map slS), blk bL 96 [.int .i64 nm, .slice q bs.length cap, .int .i64 (m : Int), .slice (some ⟨bB, 0, none⟩) bs.length bs.length]] [w] w2) => BEqual_calls (some ⟨bN, 0, none⟩) pB.2.1 m pB.2.2 nx pB.1 w2 (by omega) (by have := (pool_sets hw2 (.head _) (fun p hp => ⟨(hz.b p hp).1, (hz.b p hp).2.imp id fun hm => by simp [hm]⟩) pB (List.mem_of_getElem? hpB)).1; omega) (BoolsO.mono (fun k hk => hw2.lt _ (.head _) k hk) (hw2.item (.head _) (nx, (some ⟨bN, 0, none⟩, m)) (by simp))) (pool_sets hw2 (.head _) (fun p hp => ⟨(hz.b p hp).1, (hz.b p hp).2.imp id fun hm => by simp [hm]⟩) pB (List.mem_of_getElem? hpB)).2
      simp only [hnl] at hEq
      (((first | (with_reducible apply OL.op) | (with_reducible apply QL.op)); (exact Guard.au); rfl; rfl); (exact Pev.call (v := .bool (decide (nx = pB.1))) rfl (by exact Args.au) (fun _ w2 hw2 => (hEq w2 hw2).mono (fun e w3 h => ⟨h.1, hw2.ext h.2⟩))))
      apply oop; rfl; apply Pev.pick_and; rfl; exact yes; rfl; exact fun h => h
      apply OL.nx
      refine W.cond rfl (fun h3 => ?_) (fun h3 => ?_)
      · have h4 : pB.2.1.isNone = false ∧ nx = pB.1 := by simpa using h3
        refine W.xt ?_
        with_reducible apply At.next
        apply W.reg
        apply omv; rfl; rfl
        apply obn; rfl; rfl; rfl; apply Bin.sub_in; omega
        apply oas; rfl; rfl
        apply OL.nil
        refine At.again (k, ⟨z.B, z.F, z.L ++ [(nx, (some ⟨bN, 0, none⟩, m))], O1⟩, ag) ⟨by simp only; omega, ⟨hz.st, fun p hp => ⟨(hz.b p hp).1, (hz.b p hp).2.imp id fun hm => by simp [hm]⟩, fun p hp => ⟨(hz.f p hp).1, (hz.f p hp).2.imp id fun hm => by simp [hm]⟩⟩, ?_⟩ (by simp only; omega) (by exact Sub.au) (fun w' hw' => hw')
        simp only
        rcases hag with ⟨h5, ⟨e1, e2⟩, hst1⟩ | ⟨h5, hmu⟩
        · refine .inl ⟨h5, ⟨e1, e2⟩, fun j b' s hj hb' hs' => ?_⟩
          by_cases ej : j = k
          · subst ej
            rw [hkb] at hb'
            obtain rfl := Option.some.inj hb'
            rw [← e1, List.getElem?_map, hpB] at hs'
            obtain rfl := Option.some.inj hs'
            rw [← e2, hnx]
            refine ⟨fun e => ?_, h4.2⟩
            rw [← h4.2] at e
            rw [e] at hnl
            simp at hnl
            omega
          · exact hst1 j b' s (by omega) hb' hs'
        · exact .inr ⟨h5, hmu⟩
      · have hne : pB.1 = [] ∨ nx ≠ pB.1 := by
          rcases hpBok.1 with ⟨h4, _⟩ | ⟨_, a4, h4⟩
          · exact .inl h4
          · rw [h4] at h3
            right
            intro e
            rw [e] at h3
            simp at h3
        apply W.sk
        apply W.sr
        apply omv; rfl; rfl
        apply oop; rfl; apply Pev.nil_ptr; rfl; exact yes
        apply ofa; rfl; rfl; rfl
        apply oop; rfl; apply Pev.load_blk; rfl; exact yes; apply List.Mem.tail; apply List.Mem.tail; exact .tail _ (.tail _ (.head _)); rfl; rfl
        apply omv; rfl; rfl
        apply omv; rfl; rfl
        apply oop; rfl; apply Pev.idxB; rfl; exact yes; rfl; exact yes; rfl; intro hcond; omega; rfl
        (apply OL.storeI); rfl; rfl; rfl; rfl; rfl; (exact Swap.au); (rw [List.length_map, hz.len.1]; omega)
        rw [show (z.B.map slS).set (0 + (k : Int).toNat * 1) (.slice (some ⟨bN, 0, none⟩) m m) = (z.B.set k (nx, (some ⟨bN, 0, none⟩, m))).map slS by rw [show 0 + (k : Int).toNat * 1 = k by omega, List.map_set]; simp only [slS, hnl]]
        apply oas; rfl; rfl
        apply OL.nx
        apply W.reg
        apply omv; rfl; rfl
        apply omv; rfl; rfl
        apply omv; rfl; rfl
        apply omv; rfl; rfl
        have hBa := fun w2 (hw2 : Cls [pool boolR w.heap.size O1 (z.L ++ [(nx, (some ⟨bN, 0, none⟩, m))]), blk bF 73 (z.F.map slS), blk b1 24 [.int .i64 nm, .slice q bs.length cap], blk bB 73 ((z.B.set k (nx, (some ⟨bN, 0, none⟩, m))).map slS), blk bL 96 [.int .i64 nm, .slice q bs.length cap, .int .i64 (m : Int), .slice (some ⟨bB, 0, none⟩) bs.length bs.length]] [w] w2) => back0_calls w2 es q cap nm bL bB m k (z.B.set k (nx, (some ⟨bN, 0, none⟩, m))) (nx, (some ⟨bN, 0, none⟩, m)) (he.at hw2 (.head _) (fun k hk => NotOwned.pool (by omega) (NotOwned.blk (by omega) (NotOwned.blk (by omega) (NotOwned.blk (by omega) (NotOwned.blk (by omega) NotOwned.nil)))))) hkl (by rw [hes]; exact hbd) hm1 hm0 (by rw [← hbl2]; exact hw2.item (by exact mau)) (hw2.item (by exact mau)) (by rw [List.getElem?_set, if_pos rfl, if_pos (by rw [hz.len.1]; omega)]) hnl (BoolsO.mono (fun k hk => hw2.lt _ (.head _) k hk) (hw2.item (.head _) (nx, (some ⟨bN, 0, none⟩, m)) (by simp))) [w2] (.head _) (fun s hs => by rw [List.mem_singleton.1 hs]; exact Nat.le_refl _) w2 (Cls.start w2)
        simp only [hes, hgb] at hBa
        refine OL.callE (α := (Option Addr × Nat) × (Nat → Prop)) (fun u => .slice u.1.1 m u.1.2) (fun u => ∃ a, u.1.1 = some a) (fun u => Cls [pool boolR w.heap.size u.2 (z.L ++ [(nx, (some ⟨bN, 0, none⟩, m))] ++ [(backS b.ins nx, u.1)]), blk bF 73 (z.F.map slS), blk b1 24 [.int .i64 nm, .slice q bs.length cap], blk bB 73 ((z.B.set k (nx, (some ⟨bN, 0, none⟩, m))).map slS), blk bL 96 [.int .i64 nm, .slice q bs.length cap, .int .i64 (m : Int), .slice (some ⟨bB, 0, none⟩) bs.length bs.length]] [w]) rfl rfl (by exact Args.au) (fun w2 hw2 => (hBa w2 hw2).mono fun e w3 ⟨B', O', q', c', h1, h2, h3⟩ => ⟨((q', c'), fun k => O1 k ∨ Eng.fresh w2 w3 k), h1, ?_, Cls.pool_push (R := boolR) (x := backS b.ins nx) (y := (q', c')) .z hw2 (hw2.kp w (by exact mau)).size (row_ext h3 (.head _) h2) (rowBools h3 (.head _) h2)⟩) ?_
        · obtain ⟨a5, h5, _⟩ := rowBools h3 (.head _) h2 (by rw [backS_length, hnl]; exact hm0)
          exact ⟨a5, h5⟩
        rintro ⟨⟨q5, c5⟩, O2⟩ hq5
        simp only at hq5 ⊢
        apply oop; rfl; apply Pev.idxB; rfl; exact yes; rfl; exact yes; rfl; intro hcond; omega; rfl
        (apply OL.storeI); rfl; rfl; rfl; rfl; rfl; (exact Swap.au); (rw [List.length_map, hz.len.2]; omega)
        rw [show (z.F.map slS).set (0 + (k : Int).toNat * 1) (.slice q5 m c5) = (z.F.set k (backS b.ins nx, (q5, c5))).map slS by rw [show 0 + (k : Int).toNat * 1 = k by omega, List.map_set]; simp only [slS, backS_length, hnl]]
        apply OL.nil
        with_reducible apply At.in_normal
        with_reducible apply At.next
        apply W.reg
        apply omv; rfl; rfl
        apply obn; rfl; rfl; rfl; apply Bin.sub_in; omega
        apply oas; rfl; rfl
        apply OL.nil
        obtain ⟨hs1, hs2⟩ := hz.step hbd hm0 hkb hpB hnx hne (x := (some ⟨bN, 0, none⟩, m)) (y := (q5, c5)) ⟨_, rfl⟩ hq5 (O := O2)
        refine At.again (k, ⟨z.B.set k (nx, (some ⟨bN, 0, none⟩, m)), z.F.set k (backS b.ins nx, (q5, c5)), z.L ++ [(nx, (some ⟨bN, 0, none⟩, m))] ++ [(backS b.ins nx, (q5, c5))], O2⟩, true) ⟨by simp only; omega, hs1, .inr ⟨rfl, ?_⟩⟩ (by simp only; omega) (by exact Sub.au) (fun w' hw' => hw')
        simp only [muT] at hs2 hag ⊢
        rcases hag with ⟨_, ⟨e1, _⟩, _⟩ | ⟨_, hmu⟩
        · rw [e1] at hs2 ⊢; exact hs2
        · omega
    · obtain rfl : k1 = 0 := by omega
      refine W.xt ?_
      with_reducible apply At.in_normal
      rcases hag with ⟨rfl, ⟨e1, e2⟩, hst1⟩ | ⟨rfl, hmu⟩
      · exact At.again (z, false) ⟨hz, fun _ => by rw [e1, e2]; exact hst1⟩ (by simp [muT, e1]) (by exact Sub.au) (fun w' hw' => hw')
      · exact At.again (z, true) ⟨hz, fun h => by cases h⟩ (by simp only; omega) (by exact Sub.au) (fun w' hw' => hw')
end Go.Proofs.Ytehelljmaiophaa.ss

/- The walk of live's Live. Conditions: none. -/
namespace Go.Eng
open Go.RowKit
set_option linter.unusedVariables false
set_option linter.unusedSimpArgs false
/-- an item that is finished goes into the pool -/
theorem Cls.pool_item {α μ : Type} {R : Rel α μ} {H : List Item} {S : List World} {w : World} {B : Nat} {O : Nat → Prop} {L : List (α × μ)} {i : Item} {x : α} {y : μ} (h : Cls (i :: pool R B O L :: H) S w) (hB : ∀ k, i.own k → B ≤ k) (hok : R.ok w i.own x y) : Cls (pool R B (fun k => O k ∨ i.own k) (L ++ [(x, y)]) :: H) S w := by
  have hp := h.item (i := pool R B O L) (by simp)
  have hd := h.dj
  rw [List.pairwise_cons, List.pairwise_cons] at hd
  obtain ⟨hr1, hp1, hH⟩ := hd
  refine ⟨fun j hj => ?_, fun j hj => ?_, ?_, fun s hs => (h.kp s hs).mono fun k _ ⟨j, hj, hk⟩ => ?_⟩
  · rcases List.mem_cons.1 hj with rfl | hj
    · intro p hpm
      rcases List.mem_append.1 hpm with hpm | hpm
      · exact R.mono (fun k hk => ⟨hk.1, .inl hk.2⟩) (hp p hpm)
      · obtain rfl := List.mem_singleton.1 hpm
        exact R.mono (fun k hk => ⟨hB k hk, .inr hk⟩) hok
    · exact h.holds j (by simp [hj])
  · rcases List.mem_cons.1 hj with rfl | hj
    · rintro k ⟨h1, h2 | h2⟩
      · exact h.lt (pool R B O L) (by simp) k ⟨h1, h2⟩
      · exact h.lt i (by simp) k h2
    · exact h.lt j (by simp [hj])
  · refine List.pairwise_cons.2 ⟨fun j hj k hk hj2 => ?_, hH⟩
    obtain ⟨h1, h2 | h2⟩ := hk
    · exact hp1 j hj k ⟨h1, h2⟩ hj2
    · exact hr1 j (by simp [hj]) k h2 hj2
  · rcases List.mem_cons.1 hj with rfl | hj
    · exact ⟨_, .head _, hB k hk, .inr hk⟩
    · rcases List.mem_cons.1 hj with rfl | hj
      · exact ⟨_, .head _, hk.1, .inl hk.2⟩
      · exact ⟨j, by simp [hj], hk⟩
section
variable {P : Program} {n : Nat} {l : Env} {C : World → Prop} {ops : Array Oper} {rest : List Oper} {Q : Exit → Act → World → Prop}
/-- the world as it stands is kept -/
theorem OL.frz {C' : World → World → Prop} (hc : ∀ w0, C w0 → C' w0 w0) (h : ∀ w0, C w0 → OL P n ops Q rest l (C' w0)) : OL P n ops Q rest l C := ⟨fun a w s c => (h w c).run a w s (hc w c)⟩
end
theorem Cls.p5a {S : List World} {w : World} {a b c d e : Item} (h : Cls [a, b, c, d, e] S w) : Cls [d, c, a, b, e] S w :=
  h.perm ((List.perm_middle (l₁ := [a, b, c]) (l₂ := [e])).trans (.cons _ (List.perm_middle (l₁ := [a, b]) (l₂ := [e]))))
theorem Cls.p4a {S : List World} {w : World} {a b c d : Item} (h : Cls [a, b, c, d] S w) : Cls [d, a, b, c] S w := h.perm (List.perm_middle (l₁ := [a, b, c]) (l₂ := []))
theorem Cls.p3a {S : List World} {w : World} {a b c : Item} (h : Cls [c, a, b] S w) : Cls [a, b, c] S w := h.perm (List.perm_middle (l₁ := [a, b]) (l₂ := [])).symm
theorem rowArr {α μ : Type} {R : Rel α μ} {H : List Item} {S : List World} {w : World} {B m cap : Nat} {O : Nat → Prop} {q : Option Addr} {e : TypeId} {l : List (α × μ)} (h : Cls H S w) (hr : row B O q m cap e R.sz (cat R.c l) ∈ H) (hel : ∀ p ∈ l, R.ok w (low w) p.1 p.2) : Arr R w (low w) l q :=
  ⟨fun hl => by
    obtain ⟨a, h1, h2, h3⟩ := SlAt.of_row (h.item hr) (by rw [cat_length (f := R.c) R.clen]; exact Nat.mul_pos hl R.pos)
    refine ⟨a, h1, ?_, h3⟩
    have h4 := h3 0 _ (List.getElem?_eq_getElem (by rw [cat_length (f := R.c) R.clen]; exact Nat.mul_pos hl R.pos))
    have := cell_lt h4
    rwa [add_block] at this, hel⟩
end Go.Eng
namespace Go.Ss
open Go.Eng Go.RowKit
set_option linter.unusedVariables false
set_option linter.unusedSimpArgs false
def slI (p : List Int × Sc) : Value := .slice p.2.1 p.1.length p.2.2
def intsR : Rel (List Int) Sc where
  sz := 1
  pos := by decide
  cells := fun l y => [slI (l, y)]
  ok := fun w O l y => IntsO w O l y.1
  len := fun _ _ => rfl
  stab := fun hk h => h.stab hk
  mono := fun hk h => h.mono hk
/-- a grown row of ints as a finished one -/
theorem rowOwn {w : World} {B m cap : Nat} {O : Nat → Prop} {q : Option Addr} {e : TypeId} {l : List Int} (h : (row B O q m cap e 1 (ints l)).holds w) : IntsO w (row B O q m cap e 1 (ints l)).own l q := fun hl => by
  obtain ⟨a, h1, h2, h3⟩ := SlAt.of_row h (by rw [ints_length]; exact hl)
  refine ⟨a, h1, ?_, h3⟩
  rcases h.2.2 with ⟨h4, h5⟩ | ⟨g, cap', cur, h4, h5, _⟩
  · simp only [Value.slice.injEq] at h4
    rw [h4.1] at h1; cases h1
  · simp only [Value.slice.injEq] at h4
    rw [h4.1] at h1
    obtain rfl := Option.some.inj h1
    exact ⟨h5, h.1 _ h4.1⟩
/-- the values that are live at a place -/
noncomputable def liveL (bs : List Bk) (m k j : Nat) : List Int := ((List.range m).filter fun v : Nat => liveB bs (v : Int) k j).map fun v : Nat => (v : Int)
theorem onK_live {bs : List Bk} {m k j : Nat} {s : List Bool} (hs : s.length = m) (h : ∀ v : Nat, On s v ↔ LiveS bs (v : Int) k j) : onK s m = liveL bs m k j := by
  unfold onK liveL
  congr 1
  refine List.filter_congr fun v _ => ?_
  have h1 : (s.getD v false = true) ↔ (liveB bs (v : Int) k j = true) := by rw [← on_getD, liveB_iff]; exact h v
  cases hx : s.getD v false <;> cases hy : liveB bs (v : Int) k j <;> simp_all
end Go.Ss
namespace Go.Proofs.Ytehelljmaiophaa.ss
set_option maxRecDepth 100000
open Go.Eng Go.RowKit Go.Ss
set_option linter.unusedVariables false
set_option linter.unusedSimpArgs false
structure XLf (B : Nat) where
  q5 : Option Addr
  c5 : Nat
  O5 : Nat → Prop
  B5 : Nat
  h5 : B ≤ B5
  b6 : Nat
  h6 : B ≤ b6
  g7 : Nat
  c7 : Nat
  O7 : Nat → Prop
  q16 : Option Addr
  c16 : Nat
  O16 : Nat → Prop
  B16 : Nat
  h16 : B ≤ B16
  b17 : Nat
  h17 : B ≤ b17
  g18 : Nat
  c18 : Nat
  O18 : Nat → Prop
  old : Nat → Value
/-- the sets that build hands out, at each place -/
theorem Built.live {w : World} {fn : Go.Ss.Fn} {y : FnY} {m bL bB bF : Nat} {B F : List (List Bool × Sc)} (h : Built w fn y m bL bB bF B F) (hb : Bnd fn.blocks m) {k n : Nat} {b : Bk} {p : List Bool × Sc} (hk : fn.blocks[k]? = some b) (hp : B[k]? = some p) (hn : n ≤ b.ins.length) (v : Nat) : On (backS (b.ins.drop n) p.1) v ↔ LiveS fn.blocks (v : Int) k n :=
  live_done hb h.st h.fix hk (by rw [List.getElem?_map, hp]; rfl) hn v
theorem Built.first {w : World} {fn : Go.Ss.Fn} {y : FnY} {m bL bB bF : Nat} {B F : List (List Bool × Sc)} (h : Built w fn y m bL bB bF B F) (hm : 0 < m) {k : Nat} {b : Bk} {p pf : List Bool × Sc} (hk : fn.blocks[k]? = some b) (hp : B[k]? = some p) (hf : F[k]? = some pf) : pf.1 = backS b.ins p.1 := by
  rcases h.st.ok k b p.1 hk (by rw [List.getElem?_map, hp]; rfl) with ⟨h1, _⟩ | ⟨_, h1⟩
  · have := (h.bo p (List.mem_of_getElem? hp)).1
    rw [h1] at this
    simp at this
    omega
  · rw [List.getElem?_map, hf] at h1
    exact Option.some.inj h1
theorem Live_calls (fn : Go.Ss.Fn) (y : FnY) (w : World) (hfn : FnOk w (low w) fn y) :
    Calls Try.prog 18 [.agg (fnC fn y).toArray].toArray w fun e w' => Ext w w' ∧ ((funcE fn ≠ 0 ∧ e = .returned (.tuple #[.slice none 0 0, .slice none 0 0, .int .i64 (funcE fn)])) ∨
      (funcE fn = 0 ∧ ∃ (qa qb : Option Addr) (ca cb : Nat) (A B : List (List Int × Sc)), e = .returned (.tuple #[.slice qa fn.blocks.length ca, .slice qb fn.blocks.length cb, .int .i64 0]) ∧ Arr intsR w' (low w') A qa ∧ Arr intsR w' (low w') B qb ∧ A.length = fn.blocks.length ∧ B.length = fn.blocks.length ∧
        (∀ (k : Nat) p, A[k]? = some p → p.1 = liveL fn.blocks ((freshF fn.blocks).toNat + 1) k 0) ∧ (∀ (k : Nat) p b, B[k]? = some p → fn.blocks[k]? = some b → p.1 = liveL fn.blocks ((freshF fn.blocks).toNat + 1) k b.ins.length))) := by
  obtain ⟨er, her⟩ : ∃ er, funcE fn = er := ⟨_, rfl⟩
  rw [her]
  refine enter Try.func18 rfl Try.ntmps18 rfl (Cls.start w) ?_
  (simp only [argEnv, Nat.zero_add, Nat.reduceAdd])
  obtain ⟨nm, bs⟩ := fn
  obtain ⟨q, cap⟩ := y
  simp only [fnC]
  have hF : ∀ (H : List Eng.Item) (S : List World) (w2 : World), Cls H S w2 → w ∈ S → (∀ k, k < w.heap.size → NotOwned H k) → FnOk w2 (low w2) ⟨nm, bs⟩ ⟨q, cap⟩ := fun H S w2 hw2 hs hno => fnR.mono (hw2.up hs) (fnR.stab (hw2.same hs hno) hfn)
  have hBu := fun w2 (H : List Eng.Item) (S : List World) hw2 hs hno => build_calls ⟨nm, bs⟩ ⟨q, cap⟩ w2 (hF H S w2 hw2 hs hno)
  simp only [fnC, her] at hBu
  apply W.sr
  apply OL.box; rfl; rfl; exact CellsL.agg; (intro bk hbk; simp only [AllLe, and_true] at hbk)
  apply oas; rfl; rfl
  apply oas; rfl; rfl
  apply oas; rfl; rfl
  apply OL.nsr
  apply oop; rfl; apply Pev.load_blkA; rfl; exact yes; exact .head _; rfl; exact Take.au
  revert bk
  intro b1 hb1x
  have hb1 : w.heap.size ≤ b1 := by first | exact hb1x | exact hb1x.1
  refine OL.frz (C' := fun w0 => Cls [] [w0, w]) (fun w0 hc0 => (hc0.thin (.any (fun k hk => by rw [show k = b1 from hk]; exact ⟨hb1, trivial⟩) Thin.nil)).note) (fun w0 hc0 => ?_)
  have hb10 : b1 < w0.heap.size := blk_lt (hc0.item (.head _))
  have hw0 : w.heap.size ≤ w0.heap.size := (hc0.kp w (.head _)).size
  have hc1 : CellsAt w0 ⟨b1, 0, none⟩ [.int .i64 nm, .slice q bs.length cap] := fun j v hj => by
    rw [add_mid, blk_cell (hc0.item (.head _)), Nat.zero_add]
    exact hj
  have hc11 : w0.cell? ⟨b1, 0 + 1, none⟩ = some (.slice q bs.length cap) := hc1 1 _ rfl
  by_cases hne : er ≠ 0
  · (((first | (with_reducible apply OL.op) | (with_reducible apply QL.op)); (exact Guard.au); rfl; rfl); (exact Pev.call (v := .tuple #[.pointer none, .slice none 0 0, .int .i64 er]) rfl (by exact Args.au) (fun _ w2 hw2 => (hBu w2 _ _ hw2 (by exact mau) (fun k hk => NotOwned.nil)).mono (fun e w3 h => ⟨by rcases h.2 with h2 | h2; exact h2.2; exact absurd h2.1 hne, hw2.ext h.1⟩))))
    apply omv; rfl; rfl
    apply oex; rfl; rfl; rfl
    apply oex; rfl; rfl; rfl
    apply oex; rfl; rfl; rfl
    apply oas; rfl; rfl
    apply oas; rfl; rfl
    apply oas; rfl; rfl
    apply OL.nx
    apply W.seq
    apply W.sr
    apply omv; rfl; rfl
    apply obn; rfl; rfl; rfl; apply Bin.neq
    apply OL.nx
    refine W.cond rfl (fun _ => ?_) (fun h => by simp at h; exact absurd h hne)
    apply W.sr
    apply omv; rfl; rfl
    apply oas; rfl; rfl
    apply oas; rfl; rfl
    apply oas; rfl; rfl
    apply OL.nx
    refine W.rt ?_
    ((with_reducible apply At.fin3); rfl; rfl; rfl; rfl; intro w' hw')
    exact ⟨hw'.fr (by exact mau) (fun k hk => NotOwned.nil), .inl ⟨hne, rfl⟩⟩
  have he0 : er = 0 := Classical.not_not.1 hne
  subst he0
  obtain ⟨h0, h128, hs0⟩ := func_zero her
  simp only at h0 h128 hs0
  obtain ⟨m, hm⟩ : ∃ m, (freshF bs).toNat + 1 = m := ⟨_, rfl⟩
  obtain ⟨hfr0, hfr1, _⟩ := fresh_bounds hs0
  have hbd := bnd_of her (m := m) (by omega)
  simp only [hm] at hBu ⊢
  have hm0 : 0 < m := by omega
  refine OL.callE (α := (Nat × Nat × Nat × List (List Bool × Sc) × List (List Bool × Sc)) × World) (fun z => .tuple #[.pointer (some ⟨z.1.1, 0, none⟩), .slice (some ⟨z.1.2.2.1, 0, none⟩) bs.length bs.length, .int .i64 0]) (fun z => w.heap.size ≤ z.2.heap.size ∧ w0.heap.size ≤ z.2.heap.size ∧ Built z.2 ⟨nm, bs⟩ ⟨q, cap⟩ m z.1.1 z.1.2.1 z.1.2.2.1 z.1.2.2.2.1 z.1.2.2.2.2) (fun z => Cls [] [z.2, w0, w]) rfl rfl (by exact Args.au) (fun w2 hw2 => (hBu w2 _ _ hw2 (by exact mau) (fun k hk => NotOwned.nil)).mono fun e w3 ⟨h2, h3⟩ => ?_) ?_
  · rcases h3 with ⟨h3, _⟩ | ⟨_, bL, bB, bF, B, F, h4, h5⟩
    · exact absurd rfl h3
    · have hx := hw2.ext h2
      exact ⟨((bL, bB, bF, B, F), w3), h4, ⟨(hx.kp w (by exact mau)).size, (hx.kp w0 (by exact mau)).size, h5⟩, hx.note⟩
  rintro ⟨⟨bL, bB, bF, B, F⟩, wB⟩ ⟨hwB, hb1B, hbu⟩
  simp only at hwB hb1B hbu ⊢
  apply omv; rfl; rfl
  apply oex; rfl; rfl; rfl
  apply oex; rfl; rfl; rfl
  apply oex; rfl; rfl; rfl
  apply oas; rfl; rfl
  apply oas; rfl; rfl
  apply oas; rfl; rfl
  apply OL.nx
  apply W.seq
  apply W.sr
  apply omv; rfl; rfl
  apply obn; rfl; rfl; rfl; apply Bin.neq
  apply OL.nx
  refine W.cond rfl (fun h => by simp at h) (fun _ => ?_)
  apply W.sk
  apply W.sr
  apply oas; rfl; rfl
  apply oas; rfl; rfl
  apply OL.nx
  apply W.seq
  apply W.sr
  apply ofa; rfl; rfl; rfl
  apply oop; rfl; apply Pev.load_kept; rfl; exact yes; exact .tail _ (.head _); rfl; intro hcond; assumption; intro hcond; assumption; intro hcond; exact NotOwned.au
  apply oop; rfl; apply Pev.len_slice; rfl; exact yes; rfl
  apply omv; rfl; rfl
  apply OL.nx
  apply W.block
  have hLc : CellsAt wB ⟨bL, 0, none⟩ [.int .i64 nm, .slice q bs.length cap, .int .i64 (m : Int), .slice (some ⟨bB, 0, none⟩) bs.length bs.length] := fun j v hj => by rw [add_mid, blk_cell hbu.life, Nat.zero_add]; exact hj
  have hLc3 : wB.cell? ⟨bL, 0 + 3, none⟩ = some (.slice (some ⟨bB, 0, none⟩) bs.length bs.length) := hLc 3 _ rfl
  have hL0 : bL < wB.heap.size := blk_lt hbu.life
  have hB0 : bB < wB.heap.size := blk_lt hbu.b
  have hF0 : bF < wB.heap.size := blk_lt hbu.f
  have hBl : B.length = bs.length := by have := hbu.st.bl; simpa using this
  have hFl : F.length = bs.length := by have := hbu.st.fl; simpa using this
  refine W.loop (G := (Nat × List (List Int × Sc) × List (List Int × Sc)) × (GR × GR) × List (List Int × Sc) × (Nat → Prop)) (fun g => (g.1.1 ≤ bs.length ∧ g.1.2.1.length = g.1.1 ∧ g.1.2.2.length = g.1.1) ∧ ((∀ p ∈ g.1.2.1, p ∈ g.2.2.1) ∧ ∀ p ∈ g.1.2.2, p ∈ g.2.2.1) ∧
      (∀ (k : Nat) p, g.1.2.1[k]? = some p → p.1 = liveL bs m k 0) ∧ (∀ (k : Nat) p b, g.1.2.2[k]? = some p → bs[k]? = some b → p.1 = liveL bs m k b.ins.length)) (fun g => bs.length - g.1.1)
    (fun g => [(5, true, .pointer (some ⟨bL, 0, none⟩)), (6, true, .slice (some ⟨bF, 0, none⟩) bs.length bs.length), (8, true, .slice g.2.1.1.q g.1.1 g.2.1.1.c), (9, true, .slice g.2.1.2.q g.1.1 g.2.1.2.c), (22, true, .int .i64 (bs.length : Int)), (23, true, .int .i64 (g.1.1 : Int))])
    (fun g => Cls [row wB.heap.size g.2.1.1.O g.2.1.1.q g.1.1 g.2.1.1.c 35 1 (cat intsR.c g.1.2.1), row wB.heap.size g.2.1.2.O g.2.1.2.q g.1.1 g.2.1.2.c 35 1 (cat intsR.c g.1.2.2), pool intsR wB.heap.size g.2.2.2 g.2.2.1] [wB, w0, w])
    ((0, [], []), (⟨fun _ => False, none, 0⟩, ⟨fun _ => False, none, 0⟩), [], fun _ => False) ⟨by simp, by simp, by simp, by simp⟩ (by exact Sub.au) (fun w' hw' => ((hw'.pool_nil intsR wB.heap.size).row_nil wB.heap.size 35 1).row_nil wB.heap.size 35 1) ?_
  rintro ⟨⟨k, A, B2⟩, ⟨⟨Oa, qa, ca⟩, ⟨Ob, qb, cb⟩⟩, L, OL_⟩ ⟨⟨hk, hAl, hBl2⟩, ⟨hAL, hBL⟩, hAs, hBs⟩
  simp only at hk hAl hBl2 hAL hBL hAs hBs ⊢
  apply W.sr
  apply obn; rfl; rfl; rfl; apply Bin.lss
  apply OL.nx
  apply W.seq
  (refine W.cnd (fun hlt => ?_) (fun hlt => ?_)) <;> (try (exfalso; first | omega | exact hlt trivial | contradiction))
  · have hkl : k < bs.length := by omega
    obtain ⟨b, hkb⟩ : ∃ b, bs[k]? = some b := ⟨_, List.getElem?_eq_getElem hkl⟩
    obtain ⟨pB, hpB⟩ : ∃ p, B[k]? = some p := ⟨_, List.getElem?_eq_getElem (by omega)⟩
    obtain ⟨pF, hpF⟩ : ∃ p, F[k]? = some p := ⟨_, List.getElem?_eq_getElem (by omega)⟩
    obtain ⟨hpBl, hpBo⟩ := hbu.bo pB (List.mem_of_getElem? hpB)
    obtain ⟨hpFl, hpFo⟩ := hbu.fo pF (List.mem_of_getElem? hpF)
    have hcF : wB.cell? ⟨bF, 0 + (k : Int).toNat * 1, none⟩ = some (.slice pF.2.1 m pF.2.2) := by
      rw [blk_cell hbu.f, show 0 + (k : Int).toNat * 1 = k by omega, List.getElem?_map, hpF, ← hpFl]; rfl
    have hcB : wB.cell? ⟨bB, 0 + (k : Int).toNat * 1, none⟩ = some (.slice pB.2.1 m pB.2.2) := by
      rw [blk_cell hbu.b, show 0 + (k : Int).toNat * 1 = k by omega, List.getElem?_map, hpB, ← hpBl]; rfl
    have hlF : onK pF.1 m = liveL bs m k 0 := onK_live hpFl fun v => by
      rw [hbu.first hm0 hkb hpB hpF]
      exact hbu.live hbd hkb hpB (Nat.zero_le _) v
    have hlB : onK pB.1 m = liveL bs m k b.ins.length := onK_live hpBl fun v => by
      have := hbu.live hbd hkb hpB (Nat.le_refl _) v
      rwa [List.drop_eq_nil_of_le (Nat.le_refl _)] at this
    have hLF := fun w2 (h : BoolsO w2 (low w2) pF.1 pF.2.1) => list_calls pF.2.1 pF.2.2 pF.1 w2 h (by omega)
    have hLB := fun w2 (h : BoolsO w2 (low w2) pB.1 pB.2.1) => list_calls pB.2.1 pB.2.2 pB.1 w2 h (by omega)
    rw [hpFl, hlF] at hLF
    rw [hpBl, hlB] at hLB
    obtain ⟨lF, hlF⟩ : ∃ lF, liveL bs m k 0 = lF := ⟨_, rfl⟩
    obtain ⟨lB, hlB⟩ : ∃ lB, liveL bs m k b.ins.length = lB := ⟨_, rfl⟩
    rw [hlF] at hLF
    rw [hlB] at hLB
    apply W.sk
    apply W.sb
    apply W.sr
    apply omv; rfl; rfl
    apply oas; rfl; rfl
    apply OL.nx
    refine W.regany (X := XLf wB.heap.size) (fun x e => [(9, true, bif e 20 then .slice (some ⟨x.g18, 0, none⟩) (k + 1) x.c18 else .slice qb k cb), (8, true, bif e 19 then .slice (some ⟨x.g7, 0, none⟩) (k + 1) x.c7 else .slice qa k ca), (44, true, bif e 18 then .slice (some ⟨x.g18, 0, none⟩) (k + 1) x.c18 else x.old 44), (43, true, bif e 17 then .slice (some ⟨x.b17, 0, none⟩) 1 1 else x.old 43), (42, true, bif e 16 then .slice x.q16 lB.length x.c16 else x.old 42), (41, true, bif e 15 then .slice pB.2.1 m pB.2.2 else x.old 41), (40, true, bif e 14 then .pointer (some ⟨bB, 0 + (k : Int).toNat * 1, none⟩) else x.old 40), (39, true, bif e 13 then .int .i64 (k : Int) else x.old 39), (38, true, bif e 12 then .slice (some ⟨bB, 0, none⟩) bs.length bs.length else x.old 38), (37, true, bif e 11 then .pointer (some ⟨bL, 0 + 3, none⟩) else x.old 37), (36, true, bif e 10 then .pointer (some ⟨bL, 0, none⟩) else x.old 36), (35, true, bif e 9 then .pointer (some ⟨bL, 0, none⟩) else x.old 35), (34, true, bif e 8 then .slice qb k cb else x.old 34), (33, true, bif e 7 then .slice (some ⟨x.g7, 0, none⟩) (k + 1) x.c7 else x.old 33), (32, true, bif e 6 then .slice (some ⟨x.b6, 0, none⟩) 1 1 else x.old 32), (31, true, bif e 5 then .slice x.q5 lF.length x.c5 else x.old 31), (30, true, bif e 4 then .slice pF.2.1 m pF.2.2 else x.old 30), (29, true, bif e 3 then .pointer (some ⟨bF, 0 + (k : Int).toNat * 1, none⟩) else x.old 29), (28, true, bif e 2 then .int .i64 (k : Int) else x.old 28), (27, true, bif e 1 then .slice (some ⟨bF, 0, none⟩) bs.length bs.length else x.old 27), (26, true, bif e 0 then .slice qa k ca else x.old 26), (10, true, .int .i64 (k : Int)), (5, true, .pointer (some ⟨bL, 0, none⟩)), (6, true, .slice (some ⟨bF, 0, none⟩) bs.length bs.length), (22, true, .int .i64 (bs.length : Int)), (23, true, .int .i64 (k : Int))])
      (fun x e => (bif e 7 then row wB.heap.size x.O7 (some ⟨x.g7, 0, none⟩) (k + 1) x.c7 35 1 (cat intsR.c A ++ [.slice x.q5 lF.length x.c5]) else row wB.heap.size Oa qa k ca 35 1 (cat intsR.c A)) :: (bif e 18 then row wB.heap.size x.O18 (some ⟨x.g18, 0, none⟩) (k + 1) x.c18 35 1 (cat intsR.c B2 ++ [.slice x.q16 lB.length x.c16]) else row wB.heap.size Ob qb k cb 35 1 (cat intsR.c B2)) :: (pool intsR wB.heap.size OL_ L) :: (bif e 5 then row x.B5 x.O5 x.q5 lF.length x.c5 3 1 (ints lF) else nothing) :: (bif e 6 then blk x.b6 35 [.slice x.q5 lF.length x.c5] else nothing) :: (bif e 16 then row x.B16 x.O16 x.q16 lB.length x.c16 3 1 (ints lB) else nothing) :: (bif e 17 then blk x.b17 35 [.slice x.q16 lB.length x.c16] else nothing) :: [])
      (fun old => ⟨none, 0, fun _ => False, wB.heap.size, Nat.le_refl _, wB.heap.size, Nat.le_refl _, 0, 0, fun _ => False, none, 0, fun _ => False, wB.heap.size, Nat.le_refl _, wB.heap.size, Nat.le_refl _, 0, 0, fun _ => False, old⟩) (by kernel_rfl) (by kernel_rfl) (fun w hw => hw.drew) (fun old => by repeat (first | exact SubO.nil | apply SubO.cons rfl | refine SubO.old rfl ?_)) (fun old w' hw' => hw'.add_nothing.add_nothing.add_nothing.add_nothing) ?_ ?_
    · intro x e i o ho hei hd hcl
      have hi : i < 21 := (List.getElem?_eq_some_iff.1 ho).1
      obtain rfl | rfl | rfl | rfl | rfl | rfl | rfl | rfl | rfl | rfl | rfl | rfl | rfl | rfl | rfl | rfl | rfl | rfl | rfl | rfl | rfl : i = 0 ∨ i = 1 ∨ i = 2 ∨ i = 3 ∨ i = 4 ∨ i = 5 ∨ i = 6 ∨ i = 7 ∨ i = 8 ∨ i = 9 ∨ i = 10 ∨ i = 11 ∨ i = 12 ∨ i = 13 ∨ i = 14 ∨ i = 15 ∨ i = 16 ∨ i = 17 ∨ i = 18 ∨ i = 19 ∨ i = 20 := by omega
      · cases ho
        have h19 : e 19 = false := hcl.not (i := 0) (j := 19) rfl hei (by kernel_rfl)
        have v0 : Eng.upd e 0 0 = true := upd_eq
        have v19 : Eng.upd e 0 19 = false := h19
        simp only [hei, h19, cond_true, cond_false]
        have hx5 := x.h5
        have hx6 := x.h6
        have hx16 := x.h16
        have hx17 := x.h17
        apply omv; rfl; rfl
        apply OL.nil
        exact At.beside x (by repeat (first | exact Sub.nil | apply Sub.cons rfl | refine Sub.cons_eq rfl (by simp only [v0, v19, cond_true, cond_false]) ?_)) (fun w' hw' => by first | exact hw' | (simp only [v0, v19, cond_true, cond_false]; exact hw'))
      · cases ho
        have v1 : Eng.upd e 1 1 = true := upd_eq
        simp only [hei, cond_true, cond_false]
        have hx5 := x.h5
        have hx6 := x.h6
        have hx16 := x.h16
        have hx17 := x.h17
        apply omv; rfl; rfl
        apply OL.nil
        exact At.beside x (by repeat (first | exact Sub.nil | apply Sub.cons rfl | refine Sub.cons_eq rfl (by simp only [v1, cond_true, cond_false]) ?_)) (fun w' hw' => by first | exact hw' | (simp only [v1, cond_true, cond_false]; exact hw'))
      · cases ho
        have v2 : Eng.upd e 2 2 = true := upd_eq
        simp only [hei, cond_true, cond_false]
        have hx5 := x.h5
        have hx6 := x.h6
        have hx16 := x.h16
        have hx17 := x.h17
        apply omv; rfl; rfl
        apply OL.nil
        exact At.beside x (by repeat (first | exact Sub.nil | apply Sub.cons rfl | refine Sub.cons_eq rfl (by simp only [v2, cond_true, cond_false]) ?_)) (fun w' hw' => by first | exact hw' | (simp only [v2, cond_true, cond_false]; exact hw'))
      · cases ho
        have h1 : e 1 = true := hd ⟨1, .data⟩ (by simp) rfl
        have h2 : e 2 = true := hd ⟨2, .data⟩ (by simp) rfl
        have v3 : Eng.upd e 3 3 = true := upd_eq
        have v1 : Eng.upd e 3 1 = true := upd_mono h1
        have v2 : Eng.upd e 3 2 = true := upd_mono h2
        simp only [hei, h1, h2, cond_true, cond_false]
        have hx5 := x.h5
        have hx6 := x.h6
        have hx16 := x.h16
        have hx17 := x.h17
        apply oop; rfl; apply Pev.idxB; rfl; exact yes; rfl; exact yes; rfl; intro hcond; omega; rfl
        apply OL.nil
        exact At.beside x (by repeat (first | exact Sub.nil | apply Sub.cons rfl | refine Sub.cons_eq rfl (by simp only [v3, v1, v2, cond_true, cond_false]) ?_)) (fun w' hw' => by first | exact hw' | (simp only [v3, v1, v2, cond_true, cond_false]; exact hw'))
      · cases ho
        have h3 : e 3 = true := hd ⟨3, .data⟩ (by simp) rfl
        have v4 : Eng.upd e 4 4 = true := upd_eq
        have v3 : Eng.upd e 4 3 = true := upd_mono h3
        simp only [hei, h3, cond_true, cond_false]
        have hx5 := x.h5
        have hx6 := x.h6
        have hx16 := x.h16
        have hx17 := x.h17
        apply oop; rfl; apply Pev.load_kept; rfl; exact yes; exact .head _; rfl; intro hcond; assumption; intro hcond; assumption; intro hcond; exact NotOwned.au
        apply OL.nil
        exact At.beside x (by repeat (first | exact Sub.nil | apply Sub.cons rfl | refine Sub.cons_eq rfl (by simp only [v4, v3, cond_true, cond_false]) ?_)) (fun w' hw' => by first | exact hw' | (simp only [v4, v3, cond_true, cond_false]; exact hw'))
      · cases ho
        have h4 : e 4 = true := hd ⟨4, .data⟩ (by simp) rfl
        have h6 : e 6 = false := hcl.not (i := 5) (j := 6) rfl hei (by kernel_rfl)
        have h7 : e 7 = false := hcl.not (i := 5) (j := 7) rfl hei (by kernel_rfl)
        have v5 : Eng.upd e 5 5 = true := upd_eq
        have v4 : Eng.upd e 5 4 = true := upd_mono h4
        have v6 : Eng.upd e 5 6 = false := h6
        have v7 : Eng.upd e 5 7 = false := h7
        simp only [hei, h4, h6, h7, cond_true, cond_false]
        have hx5 := x.h5
        have hx6 := x.h6
        have hx16 := x.h16
        have hx17 := x.h17
        refine OL.callE (α := ((Nat → Prop) × Option Addr × Nat) × Nat) (fun z => .slice z.1.2.1 lF.length z.1.2.2) (fun z => wB.heap.size ≤ z.2) (fun z => Cls (row z.2 z.1.1 z.1.2.1 lF.length z.1.2.2 3 1 (ints lF) :: _) [wB, w0, w]) rfl rfl (by exact Args.au) (fun w2 hw2 => (hLF w2 (hpFo.at hw2 (by exact mau) (fun k hk => by repeat (first | exact NotOwned.nil | refine NotOwned.nothing ?_ | refine NotOwned.row (by omega) ?_ | refine NotOwned.blk (by omega) ?_ | refine NotOwned.pool (by omega) ?_ | apply NotOwned.bif)))).mono fun e w3 ⟨O', q', c', h1, h2⟩ => ⟨((O', q', c'), w2.heap.size), h1, (hw2.kp wB (by exact mau)).size, hw2.plusD h2 (.head _) (fun k hk => hk.1)⟩) ?_
        rintro ⟨⟨On, qn, cn⟩, Bn⟩ hBn
        simp only at hBn ⊢
        apply OL.nil
        exact At.beside { x with q5 := qn, c5 := cn, O5 := On, B5 := Bn, h5 := hBn } (by repeat (first | exact Sub.nil | apply Sub.cons rfl | refine Sub.cons_eq rfl (by simp only [v5, v4, v6, v7, cond_true, cond_false]) ?_)) (fun w' hw' => by simp only [v5, v4, v6, v7, cond_true, cond_false]; exact Cls.fill (p := 3) (H := _ :: _ :: _ :: _ :: _ :: _ :: _ :: []) (.s (.s (.s .z))) hw')
      · cases ho
        have h5 : e 5 = true := hd ⟨5, .data⟩ (by simp) rfl
        have h7 : e 7 = false := hcl.not (i := 6) (j := 7) rfl hei (by kernel_rfl)
        have v6 : Eng.upd e 6 6 = true := upd_eq
        have v5 : Eng.upd e 6 5 = true := upd_mono h5
        have v7 : Eng.upd e 6 7 = false := h7
        simp only [hei, h5, h7, cond_true, cond_false]
        have hx5 := x.h5
        have hx6 := x.h6
        have hx16 := x.h16
        have hx17 := x.h17
        apply OL.buildSlice; rfl; rfl; rfl; exact Elems.au; rfl; rfl; (intro bk hbk; simp only [AllLe, and_true] at hbk)
        apply OL.nil
        exact At.beside { x with b6 := bk, h6 := hbk.1 } (by repeat (first | exact Sub.nil | apply Sub.cons rfl | refine Sub.cons_eq rfl (by simp only [v6, v5, v7, cond_true, cond_false]) ?_)) (fun w' hw' => by simp only [v6, v5, v7, cond_true, cond_false]; exact Cls.fill (p := 4) (H := _ :: _ :: _ :: _ :: _ :: _ :: _ :: []) (.s (.s (.s (.s .z)))) hw')
      · cases ho
        have h0 : e 0 = true := hd ⟨0, .data⟩ (by simp) rfl
        have h5 : e 5 = true := hd ⟨5, .chain⟩ (by simp) rfl
        have h6 : e 6 = true := hd ⟨6, .data⟩ (by simp) rfl
        have h19 : e 19 = false := hcl.not (i := 7) (j := 19) rfl hei (by kernel_rfl)
        have v7 : Eng.upd e 7 7 = true := upd_eq
        have v0 : Eng.upd e 7 0 = true := upd_mono h0
        have v5 : Eng.upd e 7 5 = true := upd_mono h5
        have v6 : Eng.upd e 7 6 = true := upd_mono h6
        have v19 : Eng.upd e 7 19 = false := h19
        simp only [hei, h0, h5, h6, h19, cond_true, cond_false]
        have hx5 := x.h5
        have hx6 := x.h6
        have hx16 := x.h16
        have hx17 := x.h17
        apply OL.append; rfl; rfl; rfl; rfl; exact Hole.au; apply List.Mem.tail; apply List.Mem.tail; exact .tail _ (.tail _ (.head _)); exact Take.au; rfl; rfl; exact ⟨_, .head _, Nat.le_refl _⟩; omega; intro O1 g1 cap1
        apply OL.nil
        exact At.beside { x with g7 := g1, c7 := cap1, O7 := O1 } (by repeat (first | exact Sub.nil | apply Sub.cons rfl | refine Sub.cons_eq rfl (by simp only [v7, v0, v5, v6, v19, cond_true, cond_false]) ?_)) (fun w' hw' => by first | exact hw' | (simp only [v7, v0, v5, v6, v19, cond_true, cond_false]; exact hw'))
      · cases ho
        have h20 : e 20 = false := hcl.not (i := 8) (j := 20) rfl hei (by kernel_rfl)
        have v8 : Eng.upd e 8 8 = true := upd_eq
        have v20 : Eng.upd e 8 20 = false := h20
        simp only [hei, h20, cond_true, cond_false]
        have hx5 := x.h5
        have hx6 := x.h6
        have hx16 := x.h16
        have hx17 := x.h17
        apply omv; rfl; rfl
        apply OL.nil
        exact At.beside x (by repeat (first | exact Sub.nil | apply Sub.cons rfl | refine Sub.cons_eq rfl (by simp only [v8, v20, cond_true, cond_false]) ?_)) (fun w' hw' => by first | exact hw' | (simp only [v8, v20, cond_true, cond_false]; exact hw'))
      · cases ho
        have v9 : Eng.upd e 9 9 = true := upd_eq
        simp only [hei, cond_true, cond_false]
        have hx5 := x.h5
        have hx6 := x.h6
        have hx16 := x.h16
        have hx17 := x.h17
        apply omv; rfl; rfl
        apply OL.nil
        exact At.beside x (by repeat (first | exact Sub.nil | apply Sub.cons rfl | refine Sub.cons_eq rfl (by simp only [v9, cond_true, cond_false]) ?_)) (fun w' hw' => by first | exact hw' | (simp only [v9, cond_true, cond_false]; exact hw'))
      · cases ho
        have h9 : e 9 = true := hd ⟨9, .data⟩ (by simp) rfl
        have v10 : Eng.upd e 10 10 = true := upd_eq
        have v9 : Eng.upd e 10 9 = true := upd_mono h9
        simp only [hei, h9, cond_true, cond_false]
        have hx5 := x.h5
        have hx6 := x.h6
        have hx16 := x.h16
        have hx17 := x.h17
        apply oop; rfl; apply Pev.nil_ptr; rfl; exact yes
        apply OL.nil
        exact At.beside x (by repeat (first | exact Sub.nil | apply Sub.cons rfl | refine Sub.cons_eq rfl (by simp only [v10, v9, cond_true, cond_false]) ?_)) (fun w' hw' => by first | exact hw' | (simp only [v10, v9, cond_true, cond_false]; exact hw'))
      · cases ho
        have h10 : e 10 = true := hd ⟨10, .data⟩ (by simp) rfl
        have v11 : Eng.upd e 11 11 = true := upd_eq
        have v10 : Eng.upd e 11 10 = true := upd_mono h10
        simp only [hei, h10, cond_true, cond_false]
        have hx5 := x.h5
        have hx6 := x.h6
        have hx16 := x.h16
        have hx17 := x.h17
        apply ofa; rfl; rfl; rfl
        apply OL.nil
        exact At.beside x (by repeat (first | exact Sub.nil | apply Sub.cons rfl | refine Sub.cons_eq rfl (by simp only [v11, v10, cond_true, cond_false]) ?_)) (fun w' hw' => by first | exact hw' | (simp only [v11, v10, cond_true, cond_false]; exact hw'))
      · cases ho
        have h11 : e 11 = true := hd ⟨11, .data⟩ (by simp) rfl
        have v12 : Eng.upd e 12 12 = true := upd_eq
        have v11 : Eng.upd e 12 11 = true := upd_mono h11
        simp only [hei, h11, cond_true, cond_false]
        have hx5 := x.h5
        have hx6 := x.h6
        have hx16 := x.h16
        have hx17 := x.h17
        apply oop; rfl; apply Pev.load_kept; rfl; exact yes; exact .head _; rfl; intro hcond; assumption; intro hcond; assumption; intro hcond; exact NotOwned.au
        apply OL.nil
        exact At.beside x (by repeat (first | exact Sub.nil | apply Sub.cons rfl | refine Sub.cons_eq rfl (by simp only [v12, v11, cond_true, cond_false]) ?_)) (fun w' hw' => by first | exact hw' | (simp only [v12, v11, cond_true, cond_false]; exact hw'))
      · cases ho
        have v13 : Eng.upd e 13 13 = true := upd_eq
        simp only [hei, cond_true, cond_false]
        have hx5 := x.h5
        have hx6 := x.h6
        have hx16 := x.h16
        have hx17 := x.h17
        apply omv; rfl; rfl
        apply OL.nil
        exact At.beside x (by repeat (first | exact Sub.nil | apply Sub.cons rfl | refine Sub.cons_eq rfl (by simp only [v13, cond_true, cond_false]) ?_)) (fun w' hw' => by first | exact hw' | (simp only [v13, cond_true, cond_false]; exact hw'))
      · cases ho
        have h12 : e 12 = true := hd ⟨12, .data⟩ (by simp) rfl
        have h13 : e 13 = true := hd ⟨13, .data⟩ (by simp) rfl
        have v14 : Eng.upd e 14 14 = true := upd_eq
        have v12 : Eng.upd e 14 12 = true := upd_mono h12
        have v13 : Eng.upd e 14 13 = true := upd_mono h13
        simp only [hei, h12, h13, cond_true, cond_false]
        have hx5 := x.h5
        have hx6 := x.h6
        have hx16 := x.h16
        have hx17 := x.h17
        apply oop; rfl; apply Pev.idxB; rfl; exact yes; rfl; exact yes; rfl; intro hcond; omega; rfl
        apply OL.nil
        exact At.beside x (by repeat (first | exact Sub.nil | apply Sub.cons rfl | refine Sub.cons_eq rfl (by simp only [v14, v12, v13, cond_true, cond_false]) ?_)) (fun w' hw' => by first | exact hw' | (simp only [v14, v12, v13, cond_true, cond_false]; exact hw'))
      · cases ho
        have h14 : e 14 = true := hd ⟨14, .data⟩ (by simp) rfl
        have v15 : Eng.upd e 15 15 = true := upd_eq
        have v14 : Eng.upd e 15 14 = true := upd_mono h14
        simp only [hei, h14, cond_true, cond_false]
        have hx5 := x.h5
        have hx6 := x.h6
        have hx16 := x.h16
        have hx17 := x.h17
        apply oop; rfl; apply Pev.load_kept; rfl; exact yes; exact .head _; rfl; intro hcond; assumption; intro hcond; assumption; intro hcond; exact NotOwned.au
        apply OL.nil
        exact At.beside x (by repeat (first | exact Sub.nil | apply Sub.cons rfl | refine Sub.cons_eq rfl (by simp only [v15, v14, cond_true, cond_false]) ?_)) (fun w' hw' => by first | exact hw' | (simp only [v15, v14, cond_true, cond_false]; exact hw'))
      · cases ho
        have h15 : e 15 = true := hd ⟨15, .data⟩ (by simp) rfl
        have h17 : e 17 = false := hcl.not (i := 16) (j := 17) rfl hei (by kernel_rfl)
        have h18 : e 18 = false := hcl.not (i := 16) (j := 18) rfl hei (by kernel_rfl)
        have v16 : Eng.upd e 16 16 = true := upd_eq
        have v15 : Eng.upd e 16 15 = true := upd_mono h15
        have v17 : Eng.upd e 16 17 = false := h17
        have v18 : Eng.upd e 16 18 = false := h18
        simp only [hei, h15, h17, h18, cond_true, cond_false]
        have hx5 := x.h5
        have hx6 := x.h6
        have hx16 := x.h16
        have hx17 := x.h17
        refine OL.callE (α := ((Nat → Prop) × Option Addr × Nat) × Nat) (fun z => .slice z.1.2.1 lB.length z.1.2.2) (fun z => wB.heap.size ≤ z.2) (fun z => Cls (row z.2 z.1.1 z.1.2.1 lB.length z.1.2.2 3 1 (ints lB) :: _) [wB, w0, w]) rfl rfl (by exact Args.au) (fun w2 hw2 => (hLB w2 (hpBo.at hw2 (by exact mau) (fun k hk => by repeat (first | exact NotOwned.nil | refine NotOwned.nothing ?_ | refine NotOwned.row (by omega) ?_ | refine NotOwned.blk (by omega) ?_ | refine NotOwned.pool (by omega) ?_ | apply NotOwned.bif)))).mono fun e w3 ⟨O', q', c', h1, h2⟩ => ⟨((O', q', c'), w2.heap.size), h1, (hw2.kp wB (by exact mau)).size, hw2.plusD h2 (.head _) (fun k hk => hk.1)⟩) ?_
        rintro ⟨⟨On, qn, cn⟩, Bn⟩ hBn
        simp only at hBn ⊢
        apply OL.nil
        exact At.beside { x with q16 := qn, c16 := cn, O16 := On, B16 := Bn, h16 := hBn } (by repeat (first | exact Sub.nil | apply Sub.cons rfl | refine Sub.cons_eq rfl (by simp only [v16, v15, v17, v18, cond_true, cond_false]) ?_)) (fun w' hw' => by simp only [v16, v15, v17, v18, cond_true, cond_false]; exact Cls.fill (p := 5) (H := _ :: _ :: _ :: _ :: _ :: _ :: _ :: []) (.s (.s (.s (.s (.s .z))))) hw')
      · cases ho
        have h16 : e 16 = true := hd ⟨16, .data⟩ (by simp) rfl
        have h18 : e 18 = false := hcl.not (i := 17) (j := 18) rfl hei (by kernel_rfl)
        have v17 : Eng.upd e 17 17 = true := upd_eq
        have v16 : Eng.upd e 17 16 = true := upd_mono h16
        have v18 : Eng.upd e 17 18 = false := h18
        simp only [hei, h16, h18, cond_true, cond_false]
        have hx5 := x.h5
        have hx6 := x.h6
        have hx16 := x.h16
        have hx17 := x.h17
        apply OL.buildSlice; rfl; rfl; rfl; exact Elems.au; rfl; rfl; (intro bk hbk; simp only [AllLe, and_true] at hbk)
        apply OL.nil
        exact At.beside { x with b17 := bk, h17 := hbk.1 } (by repeat (first | exact Sub.nil | apply Sub.cons rfl | refine Sub.cons_eq rfl (by simp only [v17, v16, v18, cond_true, cond_false]) ?_)) (fun w' hw' => by simp only [v17, v16, v18, cond_true, cond_false]; exact Cls.fill (p := 6) (H := _ :: _ :: _ :: _ :: _ :: _ :: _ :: []) (.s (.s (.s (.s (.s (.s .z)))))) hw')
      · cases ho
        have h8 : e 8 = true := hd ⟨8, .data⟩ (by simp) rfl
        have h16 : e 16 = true := hd ⟨16, .chain⟩ (by simp) rfl
        have h17 : e 17 = true := hd ⟨17, .data⟩ (by simp) rfl
        have h20 : e 20 = false := hcl.not (i := 18) (j := 20) rfl hei (by kernel_rfl)
        have v18 : Eng.upd e 18 18 = true := upd_eq
        have v8 : Eng.upd e 18 8 = true := upd_mono h8
        have v16 : Eng.upd e 18 16 = true := upd_mono h16
        have v17 : Eng.upd e 18 17 = true := upd_mono h17
        have v20 : Eng.upd e 18 20 = false := h20
        simp only [hei, h8, h16, h17, h20, cond_true, cond_false]
        have hx5 := x.h5
        have hx6 := x.h6
        have hx16 := x.h16
        have hx17 := x.h17
        apply OL.append; rfl; rfl; rfl; rfl; exact Hole.au; apply List.Mem.tail; apply List.Mem.tail; apply List.Mem.tail; apply List.Mem.tail; exact .tail _ (.tail _ (.head _)); exact Take.au; rfl; rfl; exact ⟨_, .head _, Nat.le_refl _⟩; omega; intro O1 g1 cap1
        apply OL.nil
        exact At.beside { x with g18 := g1, c18 := cap1, O18 := O1 } (by repeat (first | exact Sub.nil | apply Sub.cons rfl | refine Sub.cons_eq rfl (by simp only [v18, v8, v16, v17, v20, cond_true, cond_false]) ?_)) (fun w' hw' => by first | exact hw' | (simp only [v18, v8, v16, v17, v20, cond_true, cond_false]; exact hw'))
      · cases ho
        have h7 : e 7 = true := hd ⟨7, .data⟩ (by simp) rfl
        have h18 : e 18 = true := hd ⟨18, .chain⟩ (by simp) rfl
        have v19 : Eng.upd e 19 19 = true := upd_eq
        have v7 : Eng.upd e 19 7 = true := upd_mono h7
        have v18 : Eng.upd e 19 18 = true := upd_mono h18
        simp only [hei, h7, h18, cond_true, cond_false]
        have hx5 := x.h5
        have hx6 := x.h6
        have hx16 := x.h16
        have hx17 := x.h17
        apply oas; rfl; rfl
        apply OL.nil
        exact At.beside x (by repeat (first | exact Sub.nil | apply Sub.cons rfl | refine Sub.cons_eq rfl (by simp only [v19, v7, v18, cond_true, cond_false]) ?_)) (fun w' hw' => by first | exact hw' | (simp only [v19, v7, v18, cond_true, cond_false]; exact hw'))
      · cases ho
        have h18 : e 18 = true := hd ⟨18, .data⟩ (by simp) rfl
        have h19 : e 19 = true := hd ⟨19, .chain⟩ (by simp) rfl
        have v20 : Eng.upd e 20 20 = true := upd_eq
        have v18 : Eng.upd e 20 18 = true := upd_mono h18
        have v19 : Eng.upd e 20 19 = true := upd_mono h19
        simp only [hei, h18, h19, cond_true, cond_false]
        have hx5 := x.h5
        have hx6 := x.h6
        have hx16 := x.h16
        have hx17 := x.h17
        apply oas; rfl; rfl
        apply OL.nil
        exact At.beside x (by repeat (first | exact Sub.nil | apply Sub.cons rfl | refine Sub.cons_eq rfl (by simp only [v20, v18, v19, cond_true, cond_false]) ?_)) (fun w' hw' => by first | exact hw' | (simp only [v20, v18, v19, cond_true, cond_false]; exact hw'))
    · intro x e hall
      obtain ⟨q5, c5, O5, B5, h5, b6, h6, g7, c7, O7, q16, c16, O16, B16, h16, b17, h17, g18, c18, O18, old⟩ := x
      simp only [hall 0 (by decide), hall 1 (by decide), hall 2 (by decide), hall 3 (by decide), hall 4 (by decide), hall 5 (by decide), hall 6 (by decide), hall 7 (by decide), hall 8 (by decide), hall 9 (by decide), hall 10 (by decide), hall 11 (by decide), hall 12 (by decide), hall 13 (by decide), hall 14 (by decide), hall 15 (by decide), hall 16 (by decide), hall 17 (by decide), hall 18 (by decide), hall 19 (by decide), hall 20 (by decide), cond_true, cond_false]
      with_reducible apply At.in_normal
      with_reducible apply At.next
      apply W.reg
      apply obn; rfl; rfl; rfl; apply Bin.add_in; omega
      apply omv; rfl; rfl
      apply OL.nil
      have hall6 : ∀ x, wB.heap.size ≤ x → AllLe [wB, w0, w] x := fun x hx => ⟨hx, Nat.le_trans (by omega) hx, Nat.le_trans hwB hx, trivial⟩
      refine At.again ((k + 1, A ++ [(lF, (q5, c5))], B2 ++ [(lB, (q16, c16))]), (⟨O7, some ⟨g7, 0, none⟩, c7⟩, ⟨O18, some ⟨g18, 0, none⟩, c18⟩), L ++ [(lF, (q5, c5))] ++ [(lB, (q16, c16))], fun k => (OL_ k ∨ (B5 ≤ k ∧ O5 k)) ∨ (B16 ≤ k ∧ O16 k)) ⟨by simp only [List.length_append, List.length_cons, List.length_nil]; omega, ⟨fun p hp => ?_, fun p hp => ?_⟩, fun j p hj => ?_, fun j p b' hj hb' => ?_⟩ (by simp only; omega) (by exact Sub.au) (fun w' hw' => ?_)
      · rcases List.mem_append.1 hp with hp | hp
        · simp [hAL p hp]
        · simp [List.mem_singleton.1 hp]
      · rcases List.mem_append.1 hp with hp | hp
        · simp [hBL p hp]
        · simp [List.mem_singleton.1 hp]
      · rcases Nat.lt_or_ge j A.length with h | h
        · rw [List.getElem?_append_left h] at hj
          exact hAs j p hj
        · rw [List.getElem?_append_right h] at hj
          obtain rfl : j = k := by have := (List.getElem?_eq_some_iff.1 hj).1; simp at this; omega
          rw [show j - A.length = 0 by omega] at hj
          obtain rfl := Option.some.inj hj
          exact hlF.symm
      · rcases Nat.lt_or_ge j B2.length with h | h
        · rw [List.getElem?_append_left h] at hj
          exact hBs j p b' hj hb'
        · rw [List.getElem?_append_right h] at hj
          obtain rfl : j = k := by have := (List.getElem?_eq_some_iff.1 hj).1; simp at this; omega
          rw [show j - B2.length = 0 by omega] at hj
          obtain rfl := Option.some.inj hj
          rw [hkb] at hb'
          obtain rfl := Option.some.inj hb'
          exact hlB.symm
      · have h1 : Cls [row wB.heap.size O7 (some ⟨g7, 0, none⟩) (k + 1) c7 35 1 (cat intsR.c A ++ [.slice q5 lF.length c5]), row wB.heap.size O18 (some ⟨g18, 0, none⟩) (k + 1) c18 35 1 (cat intsR.c B2 ++ [.slice q16 lB.length c16]), pool intsR wB.heap.size OL_ L, row B5 O5 q5 lF.length c5 3 1 (ints lF), row B16 O16 q16 lB.length c16 3 1 (ints lB)] [wB, w0, w] w' :=
          hw'.thin (.keep (.keep (.keep (.keep (.any (fun k hk => by rw [show k = b6 from hk]; exact hall6 _ h6) (.keep (.any (fun k hk => by rw [show k = b17 from hk]; exact hall6 _ h17) Thin.nil)))))))
        have h2 := (h1.p5a.pool_item (R := intsR) (x := lF) (y := (q5, c5)) (fun k hk => Nat.le_trans h5 hk.1) (rowOwn (h1.p5a.item (.head _)))).p4a
        have h3 := (h2.pool_item (R := intsR) (x := lB) (y := (q16, c16)) (fun k hk => Nat.le_trans h16 hk.1) (rowOwn (h2.item (.head _)))).p3a
        simp only [cat_append]
        exact h3
  · obtain rfl : k = bs.length := by omega
    refine W.xt ?_
    with_reducible apply At.next
    apply W.sr
    apply omv; rfl; rfl
    apply omv; rfl; rfl
    apply oas; rfl; rfl
    apply oas; rfl; rfl
    apply oas; rfl; rfl
    apply OL.nx
    apply W.ret
    ((with_reducible apply At.fin3); rfl; rfl; rfl; rfl; intro w' hw')
    refine ⟨hw'.fr (by exact mau) (fun k hk => NotOwned.row (by omega) (NotOwned.row (by omega) (NotOwned.pool (by omega) NotOwned.nil))), .inr ⟨by trivial, qa, qb, ca, cb, A, B2, rfl, ?_, ?_, hAl, hBl2, hAs, hBs⟩⟩
    · exact rowArr hw' (.head _) (fun p hp => intsR.mono (fun k hk => hw'.lt (pool intsR wB.heap.size OL_ L) (by exact mau) k hk) (hw'.item (i := pool intsR wB.heap.size OL_ L) (by exact mau) p (hAL p hp)))
    · exact rowArr hw' (.tail _ (.head _)) (fun p hp => intsR.mono (fun k hk => hw'.lt (pool intsR wB.heap.size OL_ L) (by exact mau) k hk) (hw'.item (i := pool intsR wB.heap.size OL_ L) (by exact mau) p (hBL p hp)))
end Go.Proofs.Ytehelljmaiophaa.ss
