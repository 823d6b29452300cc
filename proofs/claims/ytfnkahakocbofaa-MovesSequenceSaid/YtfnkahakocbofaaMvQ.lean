/- Plain: the copies that Sequence returns do what all moves do at once; and the law's list of names and values is a map. No program in sight. -/
import Derived.Test.YtfnkahakocbofaaMvP
namespace Go.Mv
open Go.Eng
set_option linter.unusedVariables false

def upd1 (σ : Int → Int) (c : Pr) : Int → Int := fun v => if v = c.1 then σ c.2 else σ v
def runS (σ : Int → Int) (out : List Pr) : Int → Int := out.foldl upd1 σ
theorem runS_append (σ : Int → Int) (a b : List Pr) : runS σ (a ++ b) = runS (runS σ a) b := List.foldl_append
theorem runS_one (σ : Int → Int) (c : Pr) : runS σ [c] = upd1 σ c := rfl

structure Inv (spare : Int) (t : Int → Int) (D : Int → Prop) (left : List Pr) (σ : Int → Int) : Prop where
  nd : (left.map Prod.fst).Nodup
  ns : ∀ x ∈ left, x.1 ≠ spare
  src : ∀ x ∈ left, σ x.2 = t x.1
  dn : ∀ d, D d → d ∉ left.map Prod.fst → σ d = t d
  dl : ∀ x ∈ left, D x.1
  id : ∀ v, ¬ D v → v ≠ spare → σ v = v
section
variable {spare : Int} {t : Int → Int} {D : Int → Prop} {left : List Pr} {σ : Int → Int}

theorem erase_split {i : Nat} {x : Pr} (h : left[i]? = some x) : ∃ a b, left = a ++ x :: b ∧ left.eraseIdx i = a ++ b := by
  obtain ⟨hi, rfl⟩ := List.getElem?_eq_some_iff.1 h
  refine ⟨left.take i, left.drop (i + 1), ?_, List.eraseIdx_eq_take_drop_succ _ _⟩
  rw [← List.drop_eq_getElem_cons hi, List.take_append_drop]
theorem Inv.take (h : Inv spare t D left σ) {i : Nat} {x : Pr} (hx : left[i]? = some x) (hf : freeP left x = true) : Inv spare t D (left.eraseIdx i) (upd1 σ x) := by
  obtain ⟨a, b, he, hE⟩ := erase_split hx
  rw [hE]
  have hfree : ∀ y ∈ left, y.2 ≠ x.1 := fun y hy => by
    unfold freeP at hf
    rw [Bool.not_eq_true', List.any_eq_false] at hf
    simpa using hf y hy
  have hsub : ∀ y, y ∈ a ++ b → y ∈ left := fun y hy => by
    rw [he]
    simp only [List.mem_append, List.mem_cons] at hy ⊢
    rcases hy with h | h
    · exact .inl h
    · exact .inr (.inr h)
  have hxl : x ∈ left := List.mem_of_getElem? hx
  refine ⟨?_, fun y hy => h.ns y (hsub y hy), fun y hy => ?_, fun d hd hn => ?_, fun y hy => h.dl y (hsub y hy), fun v hv hs => ?_⟩
  · refine h.nd.sublist ?_
    rw [he, List.map_append, List.map_append, List.map_cons]
    exact List.Sublist.append_left (List.sublist_cons_self _ _) _
  · have := hfree y (hsub y hy)
    show (if y.2 = x.1 then _ else _) = _
    rw [if_neg this]
    exact h.src y (hsub y hy)
  · show (if d = x.1 then _ else _) = _
    by_cases e : d = x.1
    · rw [if_pos e, h.src x hxl, e]
    · rw [if_neg e]
      refine h.dn d hd fun hm => hn ?_
      rw [he] at hm
      simp only [List.map_append, List.map_cons, List.mem_append, List.mem_cons] at hm ⊢
      rcases hm with h1 | h1 | h1
      · exact .inl h1
      · exact absurd h1 e
      · exact .inr h1
  · show (if v = x.1 then _ else _) = _
    rw [if_neg (fun e => hv (by rw [e]; exact h.dl x hxl))]
    exact h.id v hv hs
/-- as many, each one of the first among the second: then each of the second is among the first -/
theorem pigeon : ∀ (a b : List Int), a.Nodup → (∀ x ∈ a, x ∈ b) → b.length ≤ a.length → ∀ x ∈ b, x ∈ a
  | [], b, _, _, hl, x, hx => by
    have : b = [] := List.eq_nil_of_length_eq_zero (by simpa using hl)
    rw [this] at hx; cases hx
  | y :: a, b, hn, hs, hl, x, hx => by
    rw [List.nodup_cons] at hn
    have hyb : y ∈ b := hs y (.head _)
    have hlen := List.length_erase_of_mem hyb
    by_cases e : x = y
    · rw [e]; exact .head _
    · refine .tail _ (pigeon a (b.erase y) hn.2 (fun z hz => ?_) (by simp only [List.length_cons] at hl; omega) x ((List.mem_erase_of_ne e).2 hx))
      exact (List.mem_erase_of_ne (fun h => hn.1 (by rw [← h]; exact hz))).2 (hs z (.tail _ hz))
theorem Inv.redir (h : Inv spare t D left σ) (hD : ¬ D spare) {y0 : Pr} (h0 : left[0]? = some y0) (hno : ∀ x ∈ left, freeP left x = false) :
    Inv spare t D (left.map (redirP spare y0.1)) (upd1 σ (spare, y0.1)) ∧ freeP (left.map (redirP spare y0.1)) (redirP spare y0.1 y0) = true := by
  have hfst : ∀ y, (redirP spare y0.1 y).1 = y.1 := fun y => by unfold redirP; split <;> rfl
  have hm : (left.map (redirP spare y0.1)).map Prod.fst = left.map Prod.fst := by
    rw [List.map_map]
    exact List.map_congr_left fun y _ => hfst y
  have hsrc : ∀ y ∈ left, y.2 ≠ spare := fun y hy e => by
    have hp := pigeon (left.map Prod.fst) (left.map Prod.snd) h.nd (fun x hx => by
      obtain ⟨z, hz, rfl⟩ := List.mem_map.1 hx
      have := hno z hz
      unfold freeP at this
      rw [Bool.not_eq_false', List.any_eq_true] at this
      obtain ⟨u, hu, h1⟩ := this
      exact List.mem_map.2 ⟨u, hu, by simpa using h1⟩) (by simp) y.2 (List.mem_map.2 ⟨y, hy, rfl⟩)
    obtain ⟨z, hz, h1⟩ := List.mem_map.1 hp
    exact h.ns z hz (h1.trans e)
  have hy0 : y0 ∈ left := List.mem_of_getElem? h0
  refine ⟨⟨by rw [hm]; exact h.nd, fun x hx => ?_, fun x hx => ?_, fun d hd hn => ?_, fun x hx => ?_, fun v hv hs => ?_⟩, ?_⟩
  · obtain ⟨y, hy, rfl⟩ := List.mem_map.1 hx
    rw [hfst]; exact h.ns y hy
  · obtain ⟨y, hy, rfl⟩ := List.mem_map.1 hx
    rw [hfst]
    unfold redirP
    by_cases e : y.2 = y0.1
    · rw [if_pos e]
      show (if spare = spare then _ else _) = _
      rw [if_pos rfl]
      show σ y0.1 = _
      rw [← e]; exact h.src y hy
    · rw [if_neg e]
      show (if y.2 = spare then _ else _) = _
      rw [if_neg (hsrc y hy)]
      exact h.src y hy
  · rw [hm] at hn
    show (if d = spare then _ else _) = _
    rw [if_neg (fun e => hD (by rw [← e]; exact hd))]
    exact h.dn d hd hn
  · obtain ⟨y, hy, rfl⟩ := List.mem_map.1 hx
    rw [hfst]; exact h.dl y hy
  · show (if v = spare then _ else _) = _
    rw [if_neg hs]
    exact h.id v hv hs
  · unfold freeP
    rw [Bool.not_eq_true', List.any_eq_false]
    intro x hx
    obtain ⟨y, hy, rfl⟩ := List.mem_map.1 hx
    rw [hfst]
    unfold redirP
    by_cases e : y.2 = y0.1
    · rw [if_pos e]
      simp only [decide_eq_true_eq]
      exact fun e2 => h.ns y0 hy0 e2.symm
    · rw [if_neg e]
      simpa using e
theorem seq_ok (hD : ¬ D spare) : ∀ (f : Nat) (left out : List Pr), left.length = f → Inv spare t D left (runS id out) → Inv spare t D [] (runS id (seqF spare f left out))
  | 0, left, out, hl, h => by
    obtain rfl := List.eq_nil_of_length_eq_zero hl
    exact h
  | f + 1, left, out, hl, h => by
    rw [seqF, if_neg (by omega)]
    obtain ⟨y0, hy0⟩ : ∃ y, left[0]? = some y := ⟨_, List.getElem?_eq_getElem (by omega)⟩
    have hg0 : left.getD 0 (0, 0) = y0 := by rw [List.getD_eq_getElem?_getD, hy0]; rfl
    rcases idxP_cases (freeP left) left 0 with ⟨h1, hno⟩ | ⟨i, x, hx, hfx, h3, _⟩
    · rw [if_pos (by rw [atF, h1]; decide), hg0]
      obtain ⟨hi, hfree⟩ := h.redir hD hy0 hno
      have h2 : (left.map (redirP spare y0.1))[0]? = some (redirP spare y0.1 y0) := by rw [List.getElem?_map, hy0]; rfl
      rw [List.getD_eq_getElem?_getD, h2, Option.getD_some]
      refine seq_ok hD f _ _ (by rw [List.length_eraseIdx, List.length_map, if_pos (by omega), hl]; rfl) ?_
      rw [runS_append, runS_append, runS_one, runS_one]
      exact hi.take h2 hfree
    · rw [if_neg (by rw [atF, h3]; omega)]
      have hat : (atF left).toNat = i := by rw [atF, h3]; omega
      have hil := (List.getElem?_eq_some_iff.1 hx).1
      rw [hat, List.getD_eq_getElem?_getD, hx, Option.getD_some]
      refine seq_ok hD f _ _ (by rw [List.length_eraseIdx, if_pos hil, hl]; rfl) ?_
      rw [runS_append, runS_one]
      exact h.take hx hfx
end

/-! what errF asks -/
theorem errF_ok {spare : Int} : ∀ (r pre : List Pr), (pre.map Prod.fst).Nodup → errF spare pre r = 0 → ((pre ++ r).map Prod.fst).Nodup ∧ ∀ x ∈ r, x.1 ≠ spare ∧ x.2 ≠ spare
  | [], pre, hn, _ => ⟨by rw [List.append_nil]; exact hn, fun x hx => by cases hx⟩
  | x :: r, pre, hn, h => by
    rw [errF] at h
    split at h
    · cases h
    · split at h
      · cases h
      · rename_i hdup
        split at h
        · cases h
        · rename_i hsp
          have hnew : x.1 ∉ pre.map Prod.fst := fun hm => hdup (by
            obtain ⟨y, hy, he⟩ := List.mem_map.1 hm
            exact List.any_eq_true.2 ⟨y, hy, by simpa using he⟩)
          have hn2 : ((pre ++ [x]).map Prod.fst).Nodup := by
            rw [List.map_append, List.nodup_append]
            exact ⟨hn, by simp, fun a ha b hb => by
              simp only [List.map_cons, List.map_nil, List.mem_singleton] at hb
              rw [hb]
              exact fun e => hnew (e ▸ ha)⟩
          have ih := errF_ok r (pre ++ [x]) hn2 h
          rw [List.append_assoc] at ih
          refine ⟨ih.1, fun y hy => ?_⟩
          rcases List.mem_cons.1 hy with rfl | hy
          · simp only [not_or] at hsp; exact hsp
          · exact ih.2 y hy
theorem nodup_val {l : List Pr} (hn : (l.map Prod.fst).Nodup) : ∀ x ∈ l, ∀ y ∈ l, x.1 = y.1 → x = y := by
  induction l with
  | nil => intro x hx; cases hx
  | cons z l ih =>
    rw [List.map_cons, List.nodup_cons] at hn
    intro x hx y hy he
    rcases List.mem_cons.1 hx with hx1 | hx1 <;> rcases List.mem_cons.1 hy with hy1 | hy1
    · rw [hx1, hy1]
    · exact absurd (List.mem_map.2 ⟨y, hy1, by rw [← he, hx1]⟩) hn.1
    · exact absurd (List.mem_map.2 ⟨x, hx1, by rw [he, hy1]⟩) hn.1
    · exact ih hn.2 x hx1 y hy1 he
def tgt (l : List Pr) (d : Int) : Int := ((l.find? fun x => decide (x.1 = d)).map Prod.snd).getD 0
theorem tgt_of {l : List Pr} (hn : (l.map Prod.fst).Nodup) {x : Pr} (hx : x ∈ l) : tgt l x.1 = x.2 := by
  unfold tgt
  cases hf : l.find? fun y => decide (y.1 = x.1) with
  | none =>
    rw [List.find?_eq_none] at hf
    exact absurd (by simp) (hf x hx)
  | some y =>
    have h1 := List.find?_some hf
    have h2 := List.mem_of_find?_eq_some hf
    rw [nodup_val hn y h2 x hx (by simpa using h1)]
    rfl
/-- THE COPIES DO WHAT ALL MOVES DO AT ONCE. -/
theorem seqR_ok {l : List Pr} {spare : Int} (h : errF spare [] l = 0) : (∀ x ∈ l, runS id (seqR l spare).1 x.1 = x.2) ∧ ∀ v, (∀ x ∈ l, x.1 ≠ v) → v ≠ spare → runS id (seqR l spare).1 v = v := by
  obtain ⟨hn, hsp⟩ := errF_ok l [] (by simp) h
  rw [List.nil_append] at hn
  have hR : (seqR l spare).1 = seqF spare (leftF l).length (leftF l) [] := by rw [seqR, if_pos h]
  have hsub : ∀ x, x ∈ leftF l → x ∈ l := fun x hx => (List.mem_filter.1 hx).1
  have hinv : Inv spare (tgt l) (fun d => ∃ x ∈ l, x.1 = d) (leftF l) (runS id []) := by
    refine ⟨hn.sublist (List.Sublist.map Prod.fst List.filter_sublist), fun x hx => (hsp x (hsub x hx)).1, fun x hx => (tgt_of hn (hsub x hx)).symm, fun d ⟨x, hx, he⟩ hno => ?_, fun x hx => ⟨x, hsub x hx, rfl⟩, fun v _ _ => rfl⟩
    subst he
    rw [tgt_of hn hx]
    show x.1 = x.2
    refine Classical.byContradiction fun hne => hno (List.mem_map.2 ⟨x, List.mem_filter.2 ⟨hx, by simpa using hne⟩, rfl⟩)
  have hfin := seq_ok (spare := spare) (t := tgt l) (D := fun d => ∃ x ∈ l, x.1 = d) (fun ⟨x, hx, he⟩ => (hsp x hx).1 he) _ _ _ rfl hinv
  rw [hR]
  refine ⟨fun x hx => ?_, fun v hv hs => hfin.id v (fun ⟨x, hx, he⟩ => hv x hx he) hs⟩
  rw [hfin.dn x.1 ⟨x, hx, rfl⟩ (by simp), tgt_of hn hx]

/-! the law's names and values -/
def has (names : List Int) (v : Int) : Bool := names.any fun x => decide (x = v)
def fI (names : List Int) (v : Int) : Int := if has names v then idxP (fun x => decide (x = v)) names 0 else names.length
def fN (names : List Int) (v : Int) : List Int := if has names v then names else names ++ [v]
def fV (names vals : List Int) (v : Int) : List Int := if has names v then vals else vals ++ [v]
/-- the list of names and values stands for the map σ -/
structure Rep (names vals : List Int) (σ : Int → Int) : Prop where
  len : vals.length = names.length
  nd : names.Nodup
  val : ∀ (i : Nat) (v : Int), names[i]? = some v → vals[i]? = some (σ v)
  out : ∀ v, v ∉ names → σ v = v
theorem has_iff {names : List Int} {v : Int} : has names v = true ↔ v ∈ names := by
  unfold has
  rw [List.any_eq_true]
  exact ⟨fun ⟨x, hx, he⟩ => (by simpa using he : x = v) ▸ hx, fun h => ⟨v, h, by simp⟩⟩
section
variable {names vals : List Int} {σ : Int → Int}
theorem Rep.fnd (h : Rep names vals σ) (v : Int) : Rep (fN names v) (fV names vals v) σ ∧ ∃ i : Nat, fI names v = i ∧ (fN names v)[i]? = some v := by
  unfold fN fV fI
  by_cases hm : has names v = true
  · simp only [hm, if_true]
    refine ⟨h, ?_⟩
    rcases idxP_cases (fun x => decide (x = v)) names 0 with ⟨_, h2⟩ | ⟨i, x, hx, he, h3, _⟩
    · have := h2 v (has_iff.1 hm)
      simp at this
    · have : x = v := by simpa using he
      subst this
      exact ⟨i, by rw [h3]; simp, hx⟩
  · have hm' : v ∉ names := fun hv => hm (has_iff.2 hv)
    simp only [hm, if_false, Bool.false_eq_true]
    refine ⟨⟨by simp [h.len], ?_, fun i u hu => ?_, fun u hu => h.out u fun hh => hu (List.mem_append.2 (.inl hh))⟩, names.length, rfl, by simp⟩
    · rw [List.nodup_append]
      exact ⟨h.nd, by simp, fun a ha b hb e => by
        rw [List.mem_singleton] at hb
        exact hm' (hb ▸ e ▸ ha)⟩
    · rcases Nat.lt_or_ge i names.length with hi | hi
      · rw [List.getElem?_append_left hi] at hu
        rw [List.getElem?_append_left (by rw [h.len]; exact hi)]
        exact h.val i u hu
      · rw [List.getElem?_append_right hi] at hu
        rw [List.getElem?_append_right (by rw [h.len]; exact hi), h.len]
        have h0 : i - names.length = 0 := by
          have := (List.getElem?_eq_some_iff.1 hu).1
          simpa using this
        rw [h0] at hu ⊢
        simp only [List.getElem?_cons_zero, Option.some.injEq] at hu ⊢
        subst hu
        exact (h.out v hm').symm
theorem fN_keeps {v u : Int} {i : Nat} (h : names[i]? = some u) : (fN names v)[i]? = some u := by
  unfold fN
  split
  · exact h
  · rw [List.getElem?_append_left (List.getElem?_eq_some_iff.1 h).1]; exact h
theorem Rep.set (h : Rep names vals σ) {i k : Nat} {d r : Int} (hi : names[i]? = some d) (hk : names[k]? = some r) : Rep names (vals.set i (σ r)) (upd1 σ (d, r)) := by
  have hlt := (List.getElem?_eq_some_iff.1 hi).1
  refine ⟨by rw [List.length_set]; exact h.len, h.nd, fun j v hj => ?_, fun v hv => ?_⟩
  · show _ = some (if v = d then σ r else σ v)
    by_cases e : i = j
    · subst e
      rw [hi] at hj
      rw [if_pos (Option.some.inj hj).symm, List.getElem?_set_self (by rw [h.len]; exact hlt)]
    · rw [List.getElem?_set_ne e, if_neg, h.val j v hj]
      intro e2
      subst e2
      exact e ((List.getElem?_inj hlt h.nd).1 (hi.trans hj.symm))
  · show (if v = d then σ r else σ v) = v
    rw [if_neg (fun e => hv (by rw [e]; exact List.mem_of_getElem? hi))]
    exact h.out v hv
theorem fN_len (v : Int) : (fN names v).length ≤ names.length + 1 := by
  unfold fN
  split <;> simp
end
end Go.Mv
