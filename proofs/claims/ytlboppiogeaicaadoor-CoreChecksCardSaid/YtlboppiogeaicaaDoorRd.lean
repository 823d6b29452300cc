/- Readings with the reach: what a slice's and a struct's parts are, and how much they weigh at most. General. No condition. -/
import Derived.Test.YtlboppiogeaicaaDoorCat
import Derived.SizedLaws
namespace Go.Eng
open Go.RowKit Go.ChangeShapes Go.WideShapes Go.ChangeAt
set_option linter.unusedVariables false
set_option linter.unusedSimpArgs false
section
variable {H : Type} {enc : TypeId × Value → H} {P : Program} {w : World} {spare : Nat → Bool} {held : Bool}

/-- a datum within reach -/
def Lt (P : Program) (t : TypeId) (d : DataW H) : Prop := ∀ n ∈ d.weights P t, n ≤ reachBytes
theorem weightsAll_mem {e : TypeId} : ∀ {ds : List (DataW H)} {d : DataW H}, d ∈ ds → ∀ n ∈ d.weights P e, n ∈ DataW.weightsAll P e ds
  | x :: ds, d, hd, n, hn => by
    simp only [DataW.weightsAll, List.mem_append]
    rcases List.mem_cons.1 hd with rfl | hd
    · exact .inl hn
    · exact .inr (weightsAll_mem hd n hn)
theorem Lt.arg {ts : List TypeId} {ds : List (DataW H)} (h : (DataW.weightsEach P ts ds).all (· ≤ reachBytes) = true) {j : Nat} {t : TypeId} {d : DataW H} (ht : ts[j]? = some t) (hd : ds[j]? = some d) : Lt P t d := fun n hn => by
  have := List.all_eq_true.1 h _ (DataW.weights_mem_each ht hd n hn)
  simpa using this
theorem Lt.str {t : TypeId} {b : List UInt8} (h : Lt (H := H) P t (.lit (.string b))) : b.length ≤ reachBytes := h b.length (by simp [DataW.weights])

/-- a struct that reads -/
theorem rd_struct {t : TypeId} {fs : Array Field} {fuel : Nat} {cs : List Value} {x : DataW H × List MemPlace} (ht : P.underlying t = some (.struct fs)) (h : DataW.trod enc P w 0 spare held fuel t cs = some x) (hw : Lt P t x.1) :
    cs.length = P.cellsOf t ∧ ∃ n, n < fuel ∧ ∀ (i : Nat) (f : Field), fs[i]? = some f → ∃ y, DataW.trod enc P w 0 spare held n f.type ((cs.drop f.offset).take (P.cellsOf f.type)) = some y ∧ Lt P f.type y.1 := by
  obtain ⟨xs, n, hfu, rfl, hlen, hxl, hf⟩ := DataW.trod_struct ht h
  refine ⟨hlen, n, by omega, fun i f hi => ?_⟩
  have hlt : i < xs.length := by rw [hxl]; exact (Array.getElem?_eq_some_iff.1 hi).1
  refine ⟨xs[i], by rw [hf i f hi, List.getElem?_eq_getElem hlt], fun k hk => hw k ?_⟩
  simp only [DataW.weights, ht]
  exact DataW.weights_mem_each (j := i) (t := f.type) (d := xs[i].1) (by simpa using ⟨f, by simpa using hi, rfl⟩) (by simp [hlt]) k hk
/-- a slice that reads -/
theorem rd_slice0 {t e : TypeId} {sz fuel : Nat} {cs : List Value} {x : DataW H × List MemPlace} (ht : P.underlying t = some (.slice e)) (hs : P.cellsOf e = sz) (h : DataW.trod enc P w 0 spare held fuel t cs = some x) (hw : Lt P t x.1) :
    ∃ (q : Option Addr) (len cap : Nat), cs = [.slice q len cap] ∧ len ≤ cap ∧ cap ≤ maxLen ∧ len * P.bytesOf e ≤ reachBytes ∧ (q = none → len = 0) ∧
      ∃ n, n < fuel ∧ ∀ a, q = some a → ∀ i, i < len → ∃ cs' y, CellsAt w (a.add (i * sz)) cs' ∧ cs'.length = sz ∧ DataW.trod enc P w 0 spare held n e cs' = some y ∧ Lt P e y.1 := by
  rcases DataW.trod_slice ht h with ⟨rfl, _⟩ | ⟨a, len, cap, elems, rest, n, hf, rfl, rfl, _, hl, hm, hlen, hel, _, _⟩
  · refine ⟨none, 0, 0, rfl, Nat.le_refl _, by simp [maxLen], by simp, fun _ => rfl, 0, ?_, fun a ha => by cases ha⟩
    cases fuel with
    | zero => simp [DataW.trod] at h
    | succ n => omega
  · have hwt : len * P.bytesOf e ≤ reachBytes := by
      have h1 := hw ((elems.map (·.1)).length * P.bytesOf e + (rest.map (·.1)).length * P.bytesOf e) (by simp [DataW.weights, ht, Nat.add_mul])
      rw [List.length_map, hlen] at h1
      omega
    refine ⟨some a, len, cap, rfl, hl, hm, hwt, (fun hn => by cases hn), n, by omega, fun a' ha i hi => ?_⟩
    obtain rfl := Option.some.inj ha
    have h1 := hel i hi
    rw [List.getElem?_eq_getElem (by omega)] at h1
    rw [hs] at h1
    obtain ⟨cs', hc, ht'⟩ := Option.bind_eq_some_iff.1 h1
    obtain ⟨h2, h3⟩ := cellsAt_of hc
    refine ⟨cs', _, h2, h3, ht', fun k hk => hw k ?_⟩
    simp only [DataW.weights, ht]
    exact List.mem_cons_of_mem _ (List.mem_append_left _ (weightsAll_mem (d := elems[i].1) (List.mem_map.2 ⟨_, List.getElem_mem (by omega), rfl⟩) k hk))
variable {α : Type} {f : α → List Value} {sz : Nat} {R : α → Prop}
/-- a slice whose elements read, as a list -/
theorem rd_slice {t e : TypeId} {fuel : Nat} {cs : List Value} {x : DataW H × List MemPlace} (ht : P.underlying t = some (.slice e)) (hs : P.cellsOf e = sz) (hsz : 0 < sz) (hf : ∀ x, (f x).length = sz)
    (he : ∀ (n : Nat) (cs' : List Value) (y : DataW H × List MemPlace), n < fuel → DataW.trod enc P w 0 spare held n e cs' = some y → Lt P e y.1 → ∃ u : α, cs' = f u ∧ R u)
    (h : DataW.trod enc P w 0 spare held fuel t cs = some x) (hw : Lt P t x.1) :
    ∃ (q : Option Addr) (l : List α) (cap : Nat), cs = [.slice q l.length cap] ∧ l.length ≤ cap ∧ cap ≤ maxLen ∧ l.length * P.bytesOf e ≤ reachBytes ∧ SlAt w w.heap.size q (cat f l) ∧ ∀ u ∈ l, R u := by
  obtain ⟨q, len, cap, rfl, hle, hcap, hwt, hq0, m, hm, hel⟩ := rd_slice0 ht hs h hw
  cases q with
  | none =>
    obtain rfl := hq0 rfl
    exact ⟨none, [], cap, rfl, hle, hcap, by simp, SlAt.nil, fun u hu => by cases hu⟩
  | some a =>
    obtain ⟨l, hl, hr⟩ := list_of (fun i (u : α) => CellsAt w (a.add (i * sz)) (f u) ∧ R u) len (fun i hi => by
      obtain ⟨cs', y, hc, hl1, ht', hy⟩ := hel a rfl i hi
      obtain ⟨u, rfl, hR⟩ := he m cs' y hm ht' hy
      exact ⟨u, hc, hR⟩)
    subst hl
    refine ⟨some a, l, cap, rfl, hle, hcap, hwt, fun hv => ⟨a, rfl, ?_, fun j v hj => ?_⟩, fun u hu => ?_⟩
    · rw [cat_length hf] at hv
      have hl0 : 0 < l.length := Nat.pos_of_mul_pos_right hv
      have h0 := (hr 0 _ (List.getElem?_eq_getElem hl0)).1
      rw [Nat.zero_mul, add_zero_] at h0
      have hz : 0 < (f l[0]).length := by rw [hf]; exact hsz
      have := h0 0 _ (List.getElem?_eq_getElem hz)
      rw [add_zero_] at this
      exact cell_lt this
    · have hjl := (List.getElem?_eq_some_iff.1 hj).1
      rw [cat_length hf] at hjl
      have hi : j / sz < l.length := Nat.div_lt_of_lt_mul (by rwa [Nat.mul_comm] at hjl)
      have h0 := (hr (j / sz) _ (List.getElem?_eq_getElem hi)).1
      have hm' : j % sz < (f l[j / sz]).length := by rw [hf]; exact Nat.mod_lt _ hsz
      have h1 := cat_get hf (List.getElem?_eq_getElem hi) (j % sz) _ (List.getElem?_eq_getElem hm')
      have ej : j / sz * sz + j % sz = j := by rw [Nat.mul_comm]; exact Nat.div_add_mod j sz
      rw [ej, hj] at h1
      have h2 := h0 (j % sz) _ (List.getElem?_eq_getElem hm')
      rw [add_add, ej] at h2
      rw [h2, h1]
    · obtain ⟨i, hi, rfl⟩ := List.getElem_of_mem hu
      exact (hr i _ (List.getElem?_eq_getElem hi)).2
end
end Go.Eng
