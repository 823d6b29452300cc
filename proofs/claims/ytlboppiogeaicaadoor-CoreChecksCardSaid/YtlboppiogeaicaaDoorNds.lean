/- Nodes of four cells (two strings, two pointers), each in a block of its own: an item for a table of them; loads, stores of the pointers, new ones, comparisons of pointers. General. No condition. -/
import Derived.Test.YtlboppiogeaicaaDoorMap
import Derived.LaidEqlPtr
import Derived.Lib.Builder
import Derived.Laws.Pointers
namespace Go.Eng
open Go.RowKit
set_option linter.unusedVariables false
set_option linter.unusedSimpArgs false

structure Nd where
  key : ByteArray
  val : ByteArray
  nx : Option Nat
  pr : Option Nat
abbrev NdT := Nat → Option Nd
def ptrV (k : Nat) : Value := .pointer (some ⟨k, 0, none⟩)
def ptrO : Option Nat → Value | none => .pointer none | some k => .pointer (some ⟨k, 0, none⟩)
def ndc (x : Nd) : List Value := [.string x.key, .string x.val, ptrO x.nx, ptrO x.pr]
def setNx (f : NdT) (b v : Nat) : NdT := fun k => if k = b then (f k).map fun y => { y with nx := some v } else f k
def setPr (f : NdT) (b v : Nat) : NdT := fun k => if k = b then (f k).map fun y => { y with pr := some v } else f k
theorem setNx_some {f : NdT} {b v k : Nat} : (setNx f b v k).isSome = (f k).isSome := by unfold setNx; split <;> simp
theorem setPr_some {f : NdT} {b v k : Nat} : (setPr f b v k).isSome = (f k).isSome := by unfold setPr; split <;> simp
def fset (f : NdT) (b : Nat) (x : Nd) : NdT := fun k => if k = b then some x else f k
theorem fset_same {f : NdT} {b : Nat} {x : Nd} : fset f b x b = some x := by simp [fset]
theorem fset_other {f : NdT} {b k : Nat} {x : Nd} (h : k ≠ b) : fset f b x k = f k := by simp [fset, h]
theorem fset_some {f : NdT} {b k : Nat} {x : Nd} (h : (f k).isSome = true) : (fset f b x k).isSome = true := by
  unfold fset; split <;> simp_all
/-- the nodes of the table f -/
def nds (t : TypeId) (f : NdT) : Item :=
  ⟨fun k => (f k).isSome = true, fun w => ∀ k x, f k = some x → w.heap[k]? = some (.cells (ndc x).toArray t (0, 0)), fun w w' hk h k x hx => (hk k (by simp [hx])).trans (h k x hx)⟩
theorem NotOwned.nds {H : List Item} {t : TypeId} {f : NdT} {k : Nat} (h : f k = none) (r : NotOwned H k) : NotOwned (Eng.nds t f :: H) k := NotOwned.any (fun hm => by
  have hm' : (f k).isSome = true := hm
  rw [h] at hm'; cases hm') r
section
variable {P : Program} {n : Nat} {l : Env} {H : List Item} {S : List World} {C : World → Prop} {c : Bool} {d : Option Nat} {ty : TypeId} {pos : String} {af : Array Edge} {g : Option (Nat × Bool)}
variable {ops : Array Oper} {rest : List Oper} {Q : Exit → Act → World → Prop} {t : TypeId} {x y z : Operand} {cx cy cz : Bool}

theorem Pev.load_nd {b o : Nat} {t' : TypeId} {f : NdT} {ky va : ByteArray} {nx pr : Option Nat} {v : Value} (hx : evl l x = some (cx, .pointer (some ⟨b, o, none⟩))) (hcx : c = true → cx = true) (hp : nds t' f ∈ H) (hs : scalB P t = true) (hf : f b = some ⟨ky, va, nx, pr⟩) (hv : ([.string ky, .string va, ptrO nx, ptrO pr] : List Value)[o]? = some v) :
    Pev P n l (Cls H S) ⟨d, .load t x, ty, pos, af, g⟩ c v :=
  .load_of hx hcx fun _ w hw => run_loadVar_scal hs (by
    have hb : (blk b t' (ndc ⟨ky, va, nx, pr⟩)).holds w := hw.item hp b _ hf
    rw [blk_cell hb]; exact hv)
theorem OL.storeNd {p b o : Nat} {t' : TypeId} {f : NdT} {nd nd' : Nd} {v : Value} {F : Item → List Item} (hx : evl l x = some (true, .pointer (some ⟨b, o, none⟩))) (hy : evl l y = some (true, v)) (hv : v.cells = #[v]) (h1 : oneL [v] = true) (hs : sizeN P t = some 1)
    (hH : Hole p H (nds t' f) F) (hf : f b = some nd) (ho : o < 4) (hnd : ndc nd' = (ndc nd).set o v) (kk : OL P n ops Q rest l (Cls (F (nds t' (fset f b nd'))) S)) : OL P n ops Q (⟨none, .store t x y, ty, pos, af, none⟩ :: rest) l (Cls H S) := by
  obtain ⟨hp, hF⟩ := hH.eq
  rw [hF] at kk
  refine OL.store_ (C' := Cls (H.set p (nds t' (fset f b nd'))) S) rfl rfl (fun a w hs' hc => ?_) kk
  have hb := hc.item (List.mem_of_getElem? hp) b nd hf
  obtain ⟨w', hr, hh, hkp⟩ := run_storeAt_blk (P := P) (t := t) (o := o) (vs := [v]) hb hs hv rfl (by simp [ndc]; omega) h1
  have own : (nds t' f).own b := by show (f b).isSome = true; rw [hf]; rfl
  refine ⟨w', ?_, hc.turn p hp (j := nds t' (fset f b nd')) (hkp.mono fun k _ hk => by rw [hk]; exact own) (fun k u hu => ?_) (fun q hq => ?_) (fun q hq => fset_some hq)⟩
  · simp only [execOp, hs'.eval hx rfl, hs'.eval hy rfl, Sem.run_bind, hr, Result.andThen_ok]; rfl
  · by_cases hkb : k = b
    · subst hkb
      rw [fset_same] at hu
      cases hu
      rw [hh, hnd]; rfl
    · rw [fset_other hkb] at hu
      have h3 := hc.item (List.mem_of_getElem? hp) k u hu
      exact (hkp.block k (Array.getElem?_eq_some_iff.1 h3).1 hkb).trans h3
  · have hq' : (fset f b nd' q).isSome = true := hq
    have hq2 : (f q).isSome = true := by
      by_cases hqb : q = b
      · subst hqb; rw [hf]; rfl
      · rwa [fset_other hqb] at hq'
    exact ⟨.inl hq2, Nat.lt_of_lt_of_le (hc.lt _ (List.mem_of_getElem? hp) q hq2) hkp.size⟩
theorem OL.storeNx {p b k : Nat} {t' : TypeId} {f : NdT} {F : Item → List Item} (hx : evl l x = some (true, .pointer (some ⟨b, 2, none⟩))) (hy : evl l y = some (true, .pointer (some ⟨k, 0, none⟩))) (hs : sizeN P t = some 1)
    (hH : Hole p H (nds t' f) F) (hf : (f b).isSome = true) (kk : OL P n ops Q rest l (Cls (F (nds t' (setNx f b k))) S)) : OL P n ops Q (⟨none, .store t x y, ty, pos, af, none⟩ :: rest) l (Cls H S) := by
  obtain ⟨nd, hnd⟩ := Option.isSome_iff_exists.1 hf
  refine OL.storeNd (nd' := { nd with nx := some k }) hx hy rfl rfl hs hH hnd (by decide) rfl ?_
  have : fset f b { nd with nx := some k } = setNx f b k := by
    funext j
    unfold fset setNx
    by_cases hj : j = b
    · rw [if_pos hj, if_pos hj, hj, hnd]; rfl
    · rw [if_neg hj, if_neg hj]
  rw [this]; exact kk
theorem OL.storePr {p b k : Nat} {t' : TypeId} {f : NdT} {F : Item → List Item} (hx : evl l x = some (true, .pointer (some ⟨b, 3, none⟩))) (hy : evl l y = some (true, .pointer (some ⟨k, 0, none⟩))) (hs : sizeN P t = some 1)
    (hH : Hole p H (nds t' f) F) (hf : (f b).isSome = true) (kk : OL P n ops Q rest l (Cls (F (nds t' (setPr f b k))) S)) : OL P n ops Q (⟨none, .store t x y, ty, pos, af, none⟩ :: rest) l (Cls H S) := by
  obtain ⟨nd, hnd⟩ := Option.isSome_iff_exists.1 hf
  refine OL.storeNd (nd' := { nd with pr := some k }) hx hy rfl rfl hs hH hnd (by decide) rfl ?_
  have : fset f b { nd with pr := some k } = setPr f b k := by
    funext j
    unfold fset setPr
    by_cases hj : j = b
    · rw [if_pos hj, if_pos hj, hj, hnd]; rfl
    · rw [if_neg hj, if_neg hj]
  rw [this]; exact kk
/-- a block becomes a node -/
theorem Cls.nd_new {b : Nat} {t' : TypeId} {f : NdT} {nd : Nd} {w : World} (h : Cls (blk b t' (ndc nd) :: nds t' f :: H) S w) : Cls (nds t' (fset f b nd) :: H) S w := by
  have hd := List.pairwise_cons.1 h.dj
  have hd2 := List.pairwise_cons.1 hd.2
  refine ⟨fun i hi => ?_, fun i hi => ?_, .cons (fun j hj k hk hk' => ?_) hd2.2, fun s hs => (h.kp s hs).mono fun k _ ⟨j, hj, hjk⟩ => ?_⟩
  · cases hi with
    | head =>
      intro k u hu
      by_cases hkb : k = b
      · subst hkb
        rw [fset_same] at hu; cases hu
        exact h.holds _ (.head _)
      · rw [fset_other hkb] at hu
        exact h.holds _ (.tail _ (.head _)) k u hu
    | tail _ hi => exact h.holds _ (.tail _ (.tail _ hi))
  · cases hi with
    | head =>
      intro k hk
      have hk' : (fset f b nd k).isSome = true := hk
      by_cases hkb : k = b
      · subst hkb; exact h.lt _ (.head _) k rfl
      · rw [fset_other hkb] at hk'
        exact h.lt _ (.tail _ (.head _)) k hk'
    | tail _ hi => exact h.lt _ (.tail _ (.tail _ hi))
  · have hk2 : (fset f b nd k).isSome = true := hk
    by_cases hkb : k = b
    · subst hkb; exact hd.1 j (.tail _ hj) k rfl hk'
    · rw [fset_other hkb] at hk2
      exact hd2.1 j hj k hk2 hk'
  · cases hj with
    | head =>
      have hjk' : k = b := hjk
      exact ⟨_, .head _, by show (fset f b nd k).isSome = true; rw [hjk', fset_same]; rfl⟩
    | tail _ hj =>
      cases hj with
      | head => exact ⟨_, .head _, by show (fset f b nd k).isSome = true; exact fset_some hjk⟩
      | tail _ hj => exact ⟨_, .tail _ hj, hjk⟩
/-- a block is no node -/
theorem Cls.nd_fresh {b : Nat} {t' t2 : TypeId} {cs : List Value} {f : NdT} {w : World} (h : Cls (blk b t2 cs :: nds t' f :: H) S w) : f b = none := by
  have hd := (List.pairwise_cons.1 h.dj).1 _ (.head _) b rfl
  have hd' : ¬ (f b).isSome = true := hd
  cases hfb : f b with
  | none => rfl
  | some x => rw [hfb] at hd'; exact absurd rfl hd'
theorem Cls.nds_zero {w : World} {t' : TypeId} (h : Cls H S w) : Cls (nds t' (fun _ => none) :: H) S w :=
  h.add (Keep.refl _ _) _ (fun k x hx => by cases hx) (fun k hk => by
    have hk' : ((none : Option Nd)).isSome = true := hk
    cases hk')

/-! comparisons of pointers -/
theorem guard_ptr {op : BinOp} {x y : Operand} {p p' : Option Addr} {w : World} : (eqGuard op t x y (.pointer p) (.pointer p')).run P w = .ok () w := by cases op <;> rfl
def ptrB (P : Program) (t : TypeId) : Bool := match P.underlying t with | some (.pointer e) => (match P.info? e with | some j => !Nat.beq j.size 0 | none => false) && (Nat.beq (P.pointee t) e) | _ => false
theorem ptrB_spec (h : ptrB P t = true) : ∃ e j, P.underlying t = some (.pointer e) ∧ P.info? e = some j ∧ j.size ≠ 0 ∧ P.pointee t = e := by
  unfold ptrB at h
  split at h
  · rename_i e he
    split at h
    · rename_i j hj
      simp only [Bool.and_eq_true, Bool.not_eq_true'] at h
      exact ⟨e, j, he, hj, fun hh => by rw [hh] at h; simp at h, Nat.eq_of_beq_eq_true h.2⟩
    · simp at h
  · cases h
theorem Bin.ptr_nil {p : Option Addr} (hu : ptrB P t = true) : Bin P .eql t (.pointer p) (.pointer none) (.bool p.isNone) := ⟨fun x y w => by
  obtain ⟨e, j, h1, h2, h3, h4⟩ := ptrB_spec hu
  rw [Sem.run_bind, guard_ptr, Result.andThen_ok]
  have := run_eql_pointer_nil (P := P) (w := w) t p (by rw [h4]; exact h1)
  rw [this]⟩
theorem Bin.ptr_nnil {p : Option Addr} (hu : ptrB P t = true) : Bin P .neq t (.pointer p) (.pointer none) (.bool (!p.isNone)) := ⟨fun x y w => by
  obtain ⟨e, j, h1, h2, h3, h4⟩ := ptrB_spec hu
  rw [Sem.run_bind, guard_ptr, Result.andThen_ok]
  have := run_neq_pointer_nil (P := P) (w := w) t p (by rw [h4]; exact h1)
  rw [this]⟩
theorem run_neq_ptr_other {tp te : TypeId} {j : TypeInfo} {w : World} {a b : Addr} {ca cb : Array Value} {ta tb : TypeId} (hp : P.underlying tp = some (.pointer te)) (hte : P.info? te = some j) (hsz : j.size ≠ 0)
    (hne : a ≠ b) (ha : w.heap[a.block]? = some (.cells ca ta (0, 0))) (hb : w.heap[b.block]? = some (.cells cb tb (0, 0))) :
    (binOp .neq tp (.pointer (some a)) (.pointer (some b))).run P w = .ok (.bool true) w := by
  have h : ∀ d : Nat, (Op.equalIn (d + 1) tp (.pointer (some a)) (.pointer (some b))).run P w = .ok false w := fun d => by
    simp [Op.equalIn, run_underlying hp, sizeOf, typeInfo, hte, hsz, run_sameAddr_other w hne ha hb]
  simp only [binOp]
  simp [Op.equal, Op.maxDepth, h 9999]
theorem Pev.nd_neq {a b : Nat} {t' : TypeId} {f : NdT} {yt : TypeId} (hx : evl l x = some (cx, .pointer (some ⟨a, 0, none⟩))) (hcx : c = true → cx = true) (hy : evl l y = some (cy, .pointer (some ⟨b, 0, none⟩))) (hcy : c = true → cy = true) (hu : ptrB P t = true)
    (hp : nds t' f ∈ H) (ha : (f a).isSome = true) (hb : (f b).isSome = true) : Pev P n l (Cls H S) ⟨d, .binOp .neq t x y yt, ty, pos, af, g⟩ c (.bool (!decide (a = b))) :=
  .of_run fun h ac w hs' hw => by
    obtain ⟨e, j, h1, h2, h3, h4⟩ := ptrB_spec hu
    have hr : (binOp .neq t (.pointer (some ⟨a, 0, none⟩)) (.pointer (some ⟨b, 0, none⟩))).run P w = .ok (.bool (!decide (a = b))) w := by
      by_cases hab : a = b
      · subst hab
        rw [Lib.run_neq_ptr_same w _ h1 h2]; simp
      · obtain ⟨xa, hxa⟩ := Option.isSome_iff_exists.1 ha
        obtain ⟨xb, hxb⟩ := Option.isSome_iff_exists.1 hb
        rw [run_neq_ptr_other h1 h2 h3 (fun hh => hab (by cases hh; rfl)) (hw.item hp a xa hxa) (hw.item hp b xb hxb)]
        simp [hab]
    simp only [execOp, hs'.eval hx (hcx h), hs'.eval hy (hcy h), Sem.run_bind, guard_ptr, hr, Result.andThen_ok]
    rfl
theorem Pev.slice_hm {e : TypeId} {sz len cp j m : Nat} {k' k'' : IntKind} {b e3 : Int} {q : Option Addr} {u : Operand} {cu : Bool} (hx : evl l x = some (cx, .slice q len cp)) (hcx : c = true → cx = true)
    (hz : evl l z = some (cz, .int k' b)) (hcz : c = true → cz = true) (hm : evl l u = some (cu, .int k'' e3)) (hcm : c = true → cu = true) (hu : slElem P t = some (e, sz)) (hb : b = (j : Int)) (hm3 : e3 = (m : Int)) (hr : c = true → j ≤ m ∧ m ≤ cp) :
    Pev P n l C ⟨d, .slice t x none (some z) (some u), ty, pos, af, g⟩ c (.slice q j m) :=
  .of_run fun h a w hs hw => by
    subst hb
    subst hm3
    obtain ⟨h2, h3⟩ := hr h
    obtain ⟨hus, hsz⟩ := slElem_both hu
    simp only [execOp, hs.eval hx (hcx h), Option.map_some, Option.map_none, hs.eval hz (hcz h), hs.eval hm (hcm h), Instr.sliceAt, Instr.slice, Sem.run_bind, run_underlying hus, Result.andThen_ok, Instr.sliceBounds, Instr.sliceBound, asIntOf, Sem.run_pure, run_sizeN hsz]
    simp [h2, h3, add_zero_]
theorem row_le {w : World} {base m cap size : Nat} {O : Nat → Prop} {q : Option Addr} {e : TypeId} {xs : List Value} (h : (row base O q m cap e size xs).holds w) : m ≤ cap := by
  rcases h.2.2 with ⟨h3, h4⟩ | ⟨g, cap', cur, h3, hb, hg, h4, h5⟩
  · omega
  · simp only [Value.slice.injEq] at h3
    obtain ⟨_, _, rfl⟩ := h3
    exact h4
theorem Thin.row {base m cap size : Nat} {O : Nat → Prop} {q : Option Addr} {e : TypeId} {xs : List Value} {H' : List Item} (hb : AllLe S base) (h : Thin S H H') : Thin S (Eng.row base O q m cap e size xs :: H) H' :=
  Thin.any (fun k hk => by
    have := hb.mem
    have hk' : base ≤ k := hk.1
    clear hk hb h
    induction S with
    | nil => trivial
    | cons s S ih => exact ⟨Nat.le_trans (this s (.head _)) hk', ih fun s hs => this s (.tail _ hs)⟩) h
theorem W.ex {α : Type} {code : Code} {C : α → World → Prop} (h : ∀ x, W P n code Q l (C x)) : W P n code Q l (fun w => ∃ x, C x w) := ⟨fun a w hs ⟨x, hc⟩ => (h x).run a w hs hc⟩
theorem OL.ex {α : Type} {C : α → World → Prop} (h : ∀ x, OL P n ops Q rest l (C x)) : OL P n ops Q rest l (fun w => ∃ x, C x w) := ⟨fun a w hs ⟨x, hc⟩ => (h x).run a w hs hc⟩
theorem Pev.lookup_o {k e : TypeId} {b : Nat} {m : MP} {s : ByteArray} {o : Option Nat} (hx : evl l x = some (cx, .map (some b))) (hcx : c = true → cx = true) (hy : evl l y = some (cy, .string s)) (hcy : c = true → cy = true) (ht : mapT P t = some (k, e)) (hz : zeroV P e = some (.pointer none)) (hm : mapS b m ∈ H) (hg : mget m s = o.map fun j => .pointer (some ⟨j, 0, none⟩)) :
    Pev P n l (Cls H S) ⟨d, .lookup t x y false, ty, pos, af, g⟩ c (.pointer (o.map fun j => ⟨j, 0, none⟩)) := by
  cases o with
  | none => exact .lookup_no hx hcx hy hcy ht hz hm hg
  | some j => exact .lookup_in hx hcx hy hcy ht hz hm hg
end
end Go.Eng
