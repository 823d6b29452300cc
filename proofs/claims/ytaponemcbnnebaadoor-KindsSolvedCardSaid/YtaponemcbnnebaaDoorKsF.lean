/- The law KindsSolved. Conditions: none. -/
import Derived.Test.YtaponemcbnnebaaDoorKsE
namespace Go.Ki
open Go.Eng Go.RowKit
open Go.Proofs.YtaponemcbnnebaaDoor.ki (ins)
set_option linter.unusedVariables false
set_option linter.unusedSimpArgs false
/-- a data type as it is read -/
structure DJ where
  nm : ByteArray
  params : Int
  q : Option Addr
  cap : Nat
  cons : List DC
def djc (d : DJ) : List Value := [.string d.nm, .int .i64 d.params, .slice d.q d.cons.length d.cap]
theorem djc_len (d : DJ) : (djc d).length = 3 := rfl
def DJ.dd (d : DJ) : DD := ⟨d.nm, d.params.toNat, d.q, d.cap, d.cons⟩
def DJ.di (d : DJ) : DI := ⟨d.nm, d.params, d.q, d.cons.length, d.cap⟩
theorem dic_dj (l : List DJ) : cat dic (l.map DJ.di) = cat djc l := by
  rw [cat_map]; rfl
theorem dc_dj : ∀ {l : List DJ}, (∀ d ∈ l, 0 ≤ d.params) → cat dc (dss (l.map DJ.dd)) = cat djc l
  | [], _ => rfl
  | d :: r, h => by
    have h1 := h d (.head _)
    have h2 := dc_dj (l := r) fun x hx => h x (.tail _ hx)
    have e : dc d.dd.ds = djc d := by
      show [Value.string d.nm, Value.int .i64 ((d.params.toNat : Nat) : Int), Value.slice d.q d.cons.length d.cap] = _
      rw [Int.toNat_of_nonneg h1]
      rfl
    rw [List.map_cons, dss, List.map_cons, cat, cat, e]
    exact congrArg _ h2
structure JOk (w : World) (B : Nat) (q : Option Addr) (l : List DJ) : Prop where
  ds : SlAt w B q (cat djc l)
  co : ∀ d ∈ l, SlAt w B d.q (cat coc d.cons)
  ar : ∀ d ∈ l, ∀ c ∈ d.cons, SlAt w B c.q (cat tcc c.args)
  ty : ∀ d ∈ l, ∀ c ∈ d.cons, ∀ a ∈ c.args, TyC w B a.t (tcc a)
  rng : ∀ d ∈ l, I64 d.params
  bnd : ∀ d ∈ l, d.cons.length ≤ 9223372036854775807 ∧ ∀ c ∈ d.cons, c.args.length ≤ 9223372036854775807
theorem JOk.dok {w w' : World} {B B' : Nat} {q : Option Addr} {l : List DJ} (h : JOk w B q l) (hp : ∀ d ∈ l, 0 ≤ d.params) (hb : ∀ p : Addr, p.block < B → w'.cell? p = w.cell? p) (hB : B ≤ B') : DOk w' B' q (l.map DJ.dd) := by
  refine DOk.keep ⟨by rw [dc_dj hp]; exact h.ds, fun d hd => ?_, fun d hd => ?_, fun d hd => ?_⟩ hb hB
  · obtain ⟨e, he, rfl⟩ := List.mem_map.1 hd
    exact h.co e he
  · obtain ⟨e, he, rfl⟩ := List.mem_map.1 hd
    exact h.ar e he
  · obtain ⟨e, he, rfl⟩ := List.mem_map.1 hd
    exact h.ty e he
/-- what the law has found of the first data types -/
structure Chk (l : List DJ) (i : Nat) : Prop where
  par : ∀ (j : Nat) (d : DJ), j < i → l[j]? = some d → 0 ≤ d.params ∧ d.params ≤ 3
  dis : ∀ (j k : Nat) (d e : DJ), k < j → j < i → l[j]? = some d → l[k]? = some e → e.nm ≠ d.nm
  typ : ∀ (j : Nat) (d : DJ), j < i → l[j]? = some d → ∀ c ∈ d.cons, ∀ a ∈ c.args, (tyErr a.t false 1 0).2 = 0 ∧ rowA a.t = false
theorem Chk.zero (l : List DJ) : Chk l 0 := ⟨fun j d h => by omega, fun j k d e _ h => by omega, fun j d h => by omega⟩
theorem Chk.succ {l : List DJ} {i : Nat} {d : DJ} (h : Chk l i) (hd : l[i]? = some d) (hp : 0 ≤ d.params ∧ d.params ≤ 3) (hn : ((l.take i).map DJ.di).any (fun x => decide (x.nm = d.nm)) = false)
    (ht : ∀ c ∈ d.cons, ∀ a ∈ c.args, (tyErr a.t false 1 0).2 = 0 ∧ rowA a.t = false) : Chk l (i + 1) := by
  refine ⟨fun j e hj he => ?_, fun j k e f hkj hj he hf => ?_, fun j e hj he => ?_⟩
  · by_cases hji : j = i
    · subst hji
      rw [hd] at he
      cases he; exact hp
    · exact h.par j e (by omega) he
  · by_cases hji : j = i
    · subst hji
      rw [hd] at he
      cases he
      rw [List.any_eq_false] at hn
      have := hn f.di (List.mem_map.2 ⟨f, List.mem_of_getElem? (i := k) (by rw [List.getElem?_take_of_lt hkj]; exact hf), rfl⟩)
      intro e2
      exact this (decide_eq_true e2)
    · exact h.dis j k e f hkj (by omega) he hf
  · by_cases hji : j = i
    · subst hji
      rw [hd] at he
      cases he; exact ht
    · exact h.typ j e (by omega) he
theorem Chk.ok {l : List DJ} (h : Chk l l.length) (hl : l.length ≤ 4096) (hs : bsum (dss (l.map DJ.dd)) l.length ≤ 6) (hb : ∀ d ∈ l, d.cons.length ≤ 9223372036854775807 ∧ ∀ c ∈ d.cons, c.args.length ≤ 9223372036854775807) : InfOk (l.map DJ.dd) where
  len := by simpa using hl
  par := fun d hd => by
    obtain ⟨e, he, rfl⟩ := List.mem_map.1 hd
    obtain ⟨j, hj⟩ := List.getElem?_of_mem he
    have := h.par j e (List.getElem?_eq_some_iff.1 hj).1 hj
    show e.params.toNat ≤ 16
    omega
  sum := by simpa using hs
  dis := fun i j d e hji hi hj => by
    rw [List.getElem?_map] at hi hj
    cases hx : l[i]? with
    | none => simp [hx] at hi
    | some x =>
      cases hy : l[j]? with
      | none => simp [hy] at hj
      | some y =>
        simp only [hx, hy, Option.map_some, Option.some.injEq] at hi hj
        subst hi hj
        exact h.dis i j x y hji (List.getElem?_eq_some_iff.1 hx).1 hx hy
  bnd := fun d hd => by
    obtain ⟨e, he, rfl⟩ := List.mem_map.1 hd
    exact hb e he
  typ := fun d hd => by
    obtain ⟨e, he, rfl⟩ := List.mem_map.1 hd
    obtain ⟨j, hj⟩ := List.getElem?_of_mem he
    exact h.typ j e (List.getElem?_eq_some_iff.1 hj).1 hj
end Go.Ki
namespace Go.Proofs.YtaponemcbnnebaaDoor.ki
open Go.RowKit Go.Eng Go.Ki
open Go.Proofs.YtaponemcbnnebaaDoor.uc (sizesAt)
set_option linter.unusedVariables false
set_option linter.unusedSimpArgs false
set_option maxRecDepth 100000
theorem slaw (qd : Option Addr) (cd : Nat) (l : List DJ) (w : World) (hcap : l.length ≤ cd) (hlen : l.length ≤ 9223372036854775807) (h : JOk w w.heap.size qd l) (hg : 0 < w.heap.size) (hs : sizesAt w) :
    Calls Tryd.prog 5 [.slice qd l.length cd].toArray w fun e w' => e = .returned (.bool true) ∧ Ext w w' := by
  have hcell : ∀ {i : Nat}, i < l.length → ∃ a d, qd = some a ∧ l[i]? = some d ∧ a.block < w.heap.size ∧ CellsAt w (a.add (i * 3)) [.string d.nm, .int .i64 d.params, .slice d.q d.cons.length d.cap] := fun {i} hi => by
    obtain ⟨a, d', e, hab, hd', hcd⟩ := SlAt.elem h.ds djc_len (by decide) hi
    exact ⟨a, d', e, hd', hab, hcd⟩
  refine enter Tryd.func5 rfl Tryd.ntmps5 rfl (Cls.start w) ?_
  (simp only [argEnv, Nat.zero_add, Nat.reduceAdd])
  apply W.seq
  apply W.reg
  apply oas; rfl; rfl
  apply OL.nil
  with_reducible apply At.next
  apply W.seq
  apply W.reg
  apply OL.op; exact Guard.none; rfl; rfl; apply Pev.build; rfl; exact CellsL.agg; rfl; apply Fill.nil; rfl
  apply OL.buildSlice; rfl; rfl; rfl; apply Elems.cons rfl; exact CellsL.agg; rfl; apply Elems.nil; apply App.cons; apply App.cons; apply App.cons; apply App.cons; apply App.nil; rfl; rfl; (intro bk hbk; simp only [AllLe, and_true] at hbk)
  apply OL.op; exact Guard.none; rfl; rfl; apply Pev.build; rfl; exact CellsL.agg; rfl; apply Fill.cons rfl; exact CellsL.one rfl; rfl; rfl; apply Put.here; apply Over.cons; apply Over.nil; apply Fill.cons rfl; exact CellsL.one rfl; rfl; rfl; apply Put.skip; apply Put.skip; apply Put.skip; apply Put.here; apply Over.cons; apply Over.nil; apply Fill.nil; rfl
  apply OL.buildSlice; rfl; rfl; rfl; apply Elems.cons rfl; exact CellsL.agg; rfl; apply Elems.nil; apply App.cons; apply App.cons; apply App.cons; apply App.cons; apply App.nil; rfl; rfl; (intro bk hbk; simp only [AllLe, and_true] at hbk)
  apply OL.op; exact Guard.none; rfl; rfl; apply Pev.build; rfl; exact CellsL.agg; rfl; apply Fill.cons rfl; exact CellsL.one rfl; rfl; rfl; apply Put.here; apply Over.cons; apply Over.nil; apply Fill.cons rfl; exact CellsL.one rfl; rfl; rfl; apply Put.skip; apply Put.here; apply Over.cons; apply Over.nil; apply Fill.nil; rfl
  apply OL.buildSlice; rfl; rfl; rfl; apply Elems.cons rfl; exact CellsL.agg; rfl; apply Elems.nil; apply App.cons; apply App.cons; apply App.nil; rfl; rfl; (intro bk hbk; simp only [AllLe, and_true] at hbk)
  apply OL.op; exact Guard.none; rfl; rfl; apply Pev.build; rfl; exact CellsL.agg; rfl; apply Fill.cons rfl; exact CellsL.one rfl; rfl; rfl; apply Put.here; apply Over.cons; apply Over.nil; apply Fill.cons rfl; exact CellsL.one rfl; rfl; rfl; apply Put.skip; apply Put.here; apply Over.cons; apply Over.nil; apply Fill.cons rfl; exact CellsL.one rfl; rfl; rfl; apply Put.skip; apply Put.skip; apply Put.here; apply Over.cons; apply Over.nil; apply Fill.nil; rfl
  apply OL.buildSlice; rfl; rfl; rfl; apply Elems.cons rfl; exact CellsL.agg; rfl; apply Elems.nil; apply App.cons; apply App.cons; apply App.cons; apply App.nil; rfl; rfl; (intro bk hbk; simp only [AllLe, and_true] at hbk)
  apply oas; rfl; rfl
  apply OL.nil
  with_reducible apply At.next
  apply W.seq
  apply W.seq
  apply W.reg
  apply omv; rfl; rfl
  rename_i bV hbV bR hbR bC hbC
  refine OL.callE (α := World × Option Addr × Nat × KR) (fun x => .tuple #[.slice x.2.1 1 x.2.2.1, .int .i64 0]) (fun x => w.heap.size ≤ x.1.heap.size ∧ SlAt x.1 x.1.heap.size x.2.1 (krc x.2.2.2) ∧ SlAt x.1 x.1.heap.size x.2.2.2.q (ins [1]) ∧ x.2.2.2.xs = [1]) (fun x => Cls [] [x.1, w]) rfl rfl (by (repeat (first | exact Args.nil | (apply Args.cons rfl; ((first | exact fun _ => rfl | exact fun h => h | (intro h; simp_all; done))))))) (fun w2 hw2 => ?_) ?_
  · have hbel := hw2.below (s := w) (.head _) (Nat.le_refl _) (fun k hk => by (focus ((try simp only [add_block]); (repeat (first | exact NotOwned.nil | exact hno _ (by omega) | refine NotOwned.nothing ?_ | refine NotOwned.nds (hlow _ (by omega)) ?_ | refine NotOwned.mapS (by omega) ?_ | apply NotOwned.bif | refine NotOwned.blk (by omega) ?_ | refine NotOwned.row (by omega) ?_ | refine NotOwned.grid (by assumption) (by omega) ?_ | refine NotOwned.pile (by omega) ?_)); done)))
    have hsz := (hw2.kp w (.head _)).size
    have hty : TyC w2 w2.heap.size (rT (some ⟨bV, 0, none⟩)).t (tcc (rT (some ⟨bV, 0, none⟩))) := by
      simp only [rT, vT, TyC, tcc, Ty.kind, Ty.name, Ty.var, Ty.args]
      have hc := SlAt.of_blk (o := 0) (hw2.item (.tail _ (.tail _ (.tail _ (.head _))))) (vs := [.int .i64 0, .string ⟨#[]⟩, .int .i64 0, .slice none 0 0]) (fun j v hj => by rw [Nat.zero_add]; exact hj)
      obtain ⟨a, ha, hab, hca⟩ := hc (by simp)
      refine ⟨some ⟨bV, 0, none⟩, 1, rfl, by unfold I64; omega, by unfold I64; omega, by simp, fun _ => ⟨_, rfl, ?_⟩⟩
      obtain rfl := Option.some.inj ha
      exact ⟨hab, ⟨_, hca, ⟨none, 0, rfl, by unfold I64; omega, by unfold I64; omega, by simp, fun h => by simp at h⟩⟩, trivial⟩
    have hk := infer_calls (some ⟨bk, 0, none⟩) 1 (oneD (some ⟨bC, 0, none⟩) (some ⟨bR, 0, none⟩) (some ⟨bV, 0, none⟩)) w2 (by simp [oneD]) (oneD_ok _ _ _) ⟨SlAt.of_blk (o := 0) (hw2.item (.head _)) (fun j v hj => by rw [Nat.zero_add]; exact hj), fun d hd => by
      simp only [oneD, List.mem_cons, List.not_mem_nil, or_false] at hd
      subst hd
      exact SlAt.of_blk (o := 0) (hw2.item (.tail _ (.head _))) (fun j v hj => by rw [Nat.zero_add]; exact hj), fun d hd c hc => by
      simp only [oneD, List.mem_cons, List.not_mem_nil, or_false] at hd
      subst hd
      simp only [List.mem_cons, List.not_mem_nil, or_false] at hc
      subst hc
      exact SlAt.of_blk (o := 0) (hw2.item (.tail _ (.tail _ (.head _)))) (fun j v hj => by rw [Nat.zero_add]; exact hj), fun d hd c hc a ha => by
      simp only [oneD, List.mem_cons, List.not_mem_nil, or_false] at hd
      subst hd
      simp only [List.mem_cons, List.not_mem_nil, or_false] at hc
      subst hc
      simp only [List.mem_cons, List.not_mem_nil, or_false] at ha
      subst ha
      exact hty⟩ (by omega) (hs.keep hg hbel)
    refine hk.mono fun e w3 ⟨er, a, c, rows, h1, h2, h3, h4, h5⟩ => ?_
    obtain ⟨rfl, kr, rfl, hx⟩ := one_answer h2
    have hw3 := hw2.ext h3
    refine ⟨(w3, a, c, kr), h1, ⟨Nat.le_trans hsz h3.size, by simpa [cat] using h4, by rw [← hx]; exact h5 kr (.head _), hx⟩, (hw3.thin (by (repeat (first | exact Thin.nil | exact Thin.same | apply Thin.keep | (refine Thin.blk (by assumption) ?_) | (refine Thin.blk (by simp only [AllLe, and_true]; omega) ?_))))).note⟩
  rintro ⟨w1, a1, c1, kr⟩ ⟨hsz1, hr1, hx1, hxs⟩
  simp only at hsz1 hr1 hx1 ⊢
  obtain ⟨a1, rfl, hab1, hc1⟩ := hr1 (by simp [krc])
  rw [krc, hxs] at hc1
  apply omv; rfl; rfl
  apply oex; rfl; rfl; rfl
  apply oex; rfl; rfl; rfl
  apply oas; rfl; rfl
  apply oas; rfl; rfl
  apply OL.nil
  with_reducible apply At.next
  apply W.seq
  apply W.reg
  apply omv; rfl; rfl
  apply obn; rfl; rfl; rfl; apply Bin.neq
  apply omv; rfl; rfl
  apply OL.op; exact Guard.no rfl rfl; rfl; rfl; apply Pev.move; rfl; exact yes
  apply OL.op; exact Guard.no rfl rfl; rfl; rfl; apply Pev.len_slice; rfl; exact yes; rfl
  apply OL.op; exact Guard.no rfl rfl; rfl; rfl; apply Pev.bin; rfl; exact yes; rfl; exact yes; intro hcond; apply Bin.neq
  apply OL.op; exact Guard.none; rfl; rfl; apply Pev.pick_or; rfl; exact yes; rfl; exact yes
  apply omv; rfl; rfl
  apply OL.op; exact Guard.no rfl rfl; rfl; rfl; apply Pev.move; rfl; exact yes
  apply OL.op; exact Guard.no rfl rfl; rfl; rfl; apply Pev.idx; rfl; exact yes; rfl; exact yes; rfl; rfl; intro hcond; (simp only [Bool.and_eq_true, Bool.or_eq_true, Bool.not_eq_true', decide_eq_true_eq, decide_eq_false_iff_not] at *; omega)
  apply OL.op; exact Guard.no rfl rfl; rfl; rfl; apply Pev.fldA; rfl; exact yes; rfl
  apply OL.op; exact Guard.no rfl rfl; rfl; rfl; apply Pev.load_kept; rfl; exact yes; exact .head _; rfl; intro hcond; apply CellsAt.at_ (by assumption) rfl; intro hcond; assumption; intro hcond; exact NotOwned.nil
  ((apply OL.ungate); ((first | exact Guard.none | exact Guard.yes rfl rfl | exact Guard.no rfl rfl | exact Guard.cyes rfl rfl | exact Guard.cno rfl rfl)); (decide))
  apply OL.buildSlice; rfl; rfl; rfl; apply Elems.cons rfl; exact CellsL.one rfl; rfl; apply Elems.nil; apply App.cons; apply App.nil; rfl; rfl; (intro bk hbk; simp only [AllLe, and_true] at hbk)
  (((first | (with_reducible apply OL.op) | (with_reducible apply QL.op)); ((first | exact Guard.none | exact Guard.yes rfl rfl | exact Guard.no rfl rfl | exact Guard.cyes rfl rfl | exact Guard.cno rfl rfl)); rfl; rfl); (exact Pev.call (v := .bool true) rfl (by (repeat (first | exact Args.nil | (apply Args.cons rfl; ((first | exact fun _ => rfl | exact fun h => h | (intro h; simp_all; done))))))) (fun _ w2 hw2 => (IEqual_calls kr.q (some ⟨bk, 0, none⟩) kr.cap 1 [1] [1] w2 (by decide) (by decide) (hx1.keep (hw2.below (s := w1) (.head _) (Nat.le_refl _) (fun k hk => by (focus ((try simp only [add_block]); (repeat (first | exact NotOwned.nil | exact hno _ (by omega) | refine NotOwned.nothing ?_ | refine NotOwned.nds (hlow _ (by omega)) ?_ | refine NotOwned.mapS (by omega) ?_ | apply NotOwned.bif | refine NotOwned.blk (by omega) ?_ | refine NotOwned.row (by omega) ?_ | refine NotOwned.grid (by assumption) (by omega) ?_ | refine NotOwned.pile (by omega) ?_)); done)))) (hw2.kp w1 (.head _)).size) (SlAt.of_blk (o := 0) (hw2.item (.head _)) (fun j v hj => by rw [Nat.zero_add]; exact hj))).mono (fun e w3 h => ⟨by rw [h.1]; rfl, hw2.ext h.2⟩))))
  apply OL.op; exact Guard.no rfl rfl; rfl; rfl; apply Pev.not; rfl; exact yes
  apply OL.op; exact Guard.none; rfl; rfl; apply Pev.pick_or; rfl; exact yes; rfl; exact yes
  apply OL.nil
  with_reducible apply At.next
  refine W.cond rfl (fun hb => by simp at hb) (fun _ => ?_)
  refine W.cls (C' := Cls [] [w1, w]) (fun w' hw' => hw'.thin (by (repeat (first | exact Thin.nil | exact Thin.same | apply Thin.keep | (refine Thin.blk (by assumption) ?_) | (refine Thin.blk (by simp only [AllLe, and_true]; omega) ?_))))) ?_
  apply W.skip
  with_reducible apply At.next
  apply W.seq
  apply W.seq
  apply W.reg
  apply omv; rfl; rfl
  apply OL.op; exact Guard.none; rfl; rfl; apply Pev.len_slice; rfl; exact yes; rfl
  apply obn; rfl; rfl; rfl; apply Bin.gtr
  apply OL.nil
  with_reducible apply At.next
  (refine W.cond rfl (fun hbig => ?_) (fun hbig => ?_)) <;> (try (simp only [Bool.and_eq_true, Bool.or_eq_true, Bool.not_eq_true', Bool.and_eq_false_iff, Bool.or_eq_false_iff, Bool.not_eq_false', decide_eq_true_eq, decide_eq_false_iff_not, Int.not_lt, Int.not_le] at hbig)) <;> (try (exfalso; first | omega | exact hbig trivial | contradiction))
  · apply W.seq
    apply W.reg
    apply omv; rfl; rfl
    (((first | (with_reducible apply OL.op) | (with_reducible apply QL.op)); ((first | exact Guard.none | exact Guard.yes rfl rfl | exact Guard.no rfl rfl | exact Guard.cyes rfl rfl | exact Guard.cno rfl rfl)); rfl; rfl); (exact Pev.call rfl (by (repeat (first | exact Args.nil | (apply Args.cons rfl; ((first | exact fun _ => rfl | exact fun h => h | (intro h; simp_all; done))))))) (fun _ w2 hw2 => (infer_large qd l.length cd w2 (by omega)).mono (fun e w3 h => ⟨h.1, hw2.ext h.2⟩))))
    apply omv; rfl; rfl
    apply oex; rfl; rfl; rfl
    apply oex; rfl; rfl; rfl
    apply oas; rfl; rfl
    apply oas; rfl; rfl
    apply OL.nil
    with_reducible apply At.next
    apply W.seq
    apply W.reg
    apply omv; rfl; rfl
    apply obn; rfl; rfl; rfl; apply Bin.eql
    apply omv; rfl; rfl
    apply OL.op; exact Guard.yes rfl rfl; rfl; rfl; apply Pev.move; rfl; exact yes
    apply OL.op; exact Guard.yes rfl rfl; rfl; rfl; apply Pev.len_slice; rfl; exact yes; rfl
    apply OL.op; exact Guard.yes rfl rfl; rfl; rfl; apply Pev.bin; rfl; exact yes; rfl; exact yes; intro hcond; apply Bin.eql
    apply OL.op; exact Guard.none; rfl; rfl; apply Pev.pick_and; rfl; exact yes; rfl; exact yes
    apply oas; rfl; rfl
    apply OL.nil
    with_reducible apply At.next
    apply W.ret
    with_reducible apply At.then_ret
    ((with_reducible apply At.fin1); rfl; rfl; intro w' hw')
    exact ⟨by simp, by (exact hw'.toExt (by (repeat (first | exact List.Mem.head _ | apply List.Mem.tail))) (fun k hk => by (focus ((try simp only [add_block]); (repeat (first | exact NotOwned.nil | exact hno _ (by omega) | refine NotOwned.nothing ?_ | refine NotOwned.nds (hlow _ (by omega)) ?_ | refine NotOwned.mapS (by omega) ?_ | apply NotOwned.bif | refine NotOwned.blk (by omega) ?_ | refine NotOwned.row (by omega) ?_ | refine NotOwned.grid (by assumption) (by omega) ?_ | refine NotOwned.pile (by omega) ?_)); done))))⟩
  have hl4 : l.length ≤ 4096 := by omega
  apply W.skip
  with_reducible apply At.next
  apply W.seq
  apply W.reg
  apply oas; rfl; rfl
  apply OL.nil
  with_reducible apply At.next
  apply W.seq
  apply W.seq
  apply W.reg
  apply omv; rfl; rfl
  apply OL.op; exact Guard.none; rfl; rfl; apply Pev.len_slice; rfl; exact yes; rfl
  apply omv; rfl; rfl
  apply OL.nil
  with_reducible apply At.next
  apply W.block
  refine W.loop (G := Nat) (fun i => i ≤ l.length ∧ Chk l i ∧ bsum (dss (l.map DJ.dd)) i ≤ 3 * i) (fun i => l.length - i)
    (fun i => [(0, true, .slice qd l.length cd), (8, true, .int .i64 (bsum (dss (l.map DJ.dd)) i : Int)), (65, true, .slice qd l.length cd), (66, true, .int .i64 (l.length : Int)), (67, true, .int .i64 (i : Int))])
    (fun _ => Cls [] [w1, w]) 0 ⟨by omega, Chk.zero l, by simp [bsum]⟩ (by (repeat (first | exact Sub.nil | apply Sub.cons rfl | (refine Sub.cons_eq rfl (congrArg (Value.int .i64) (by first | omega | (simp only; omega))) ?_)))) (fun w' hw' => hw') ?_
  rintro i ⟨hi, hchk, hsm⟩
  apply W.seq
  apply W.reg
  apply obn; rfl; rfl; rfl; apply Bin.lss
  apply OL.nil
  with_reducible apply At.next
  apply W.seq
  (refine W.cond rfl (fun hlt => ?_) (fun hlt => ?_)) <;> (try (simp only [Bool.and_eq_true, Bool.or_eq_true, Bool.not_eq_true', Bool.and_eq_false_iff, Bool.or_eq_false_iff, Bool.not_eq_false', decide_eq_true_eq, decide_eq_false_iff_not, Int.not_lt, Int.not_le] at hlt)) <;> (try (exfalso; first | omega | exact hlt trivial | contradiction))
  · have hil : i < l.length := by omega
    obtain ⟨a, d, rfl, hd, hab, hcd⟩ := hcell hil
    have hdm := List.mem_of_getElem? hd
    have hrng := h.rng d hdm
    unfold I64 at hrng
    have hbn1 := (h.bnd d hdm).1
    have hlT : ((l.take i).map DJ.di).length = i := by simp; omega
    apply W.skip
    with_reducible apply At.next
    apply W.seq
    apply W.block
    apply W.seq
    apply W.reg
    apply omv; rfl; rfl
    apply OL.op; exact Guard.none; rfl; rfl; apply Pev.idx; rfl; exact yes; rfl; exact yes; rfl; rfl; intro hcond; omega
    apply OL.op; exact Guard.none; rfl; rfl; apply Pev.load_keptA; rfl; exact yes; exact .tail _ (.head _); rfl; intro hcond; assumption; rfl; intro hcond; (rw [add_block]; assumption); intro hcond; exact NotOwned.nil
    apply OL.alloc; rfl; rfl; exact CellsL.agg; (intro bk hbk; simp only [AllLe, and_true] at hbk)
    apply oas; rfl; rfl
    apply OL.storeB; rfl; rfl; exact CellsL.agg; rfl; rfl; rfl; apply Swap.z; apply Put.here; apply Over.cons; apply Over.cons; apply Over.cons; apply Over.nil
    apply OL.nil
    with_reducible apply At.next
    apply W.seq
    apply W.seq
    apply W.reg
    apply ofa; rfl; rfl; rfl
    apply old; rfl; rfl; exact .head _; rfl; rfl
    apply obn; rfl; rfl; rfl; apply Bin.lss
    apply omv; rfl; rfl
    apply OL.op; exact Guard.no rfl rfl; rfl; rfl; apply Pev.fld; rfl; exact yes; rfl
    apply OL.op; exact Guard.no rfl rfl; rfl; rfl; apply Pev.load_blk; rfl; exact fun h => h; exact .head _; rfl; rfl
    apply OL.op; exact Guard.no rfl rfl; rfl; rfl; apply Pev.bin; rfl; exact fun h => h; rfl; exact yes; intro hcond; apply Bin.gtr
    apply OL.op; exact Guard.none; rfl; rfl; apply Pev.pick_or; rfl; exact yes; rfl; exact fun h => h
    apply omv; rfl; rfl
    apply OL.op; exact Guard.no rfl rfl; rfl; rfl; apply Pev.move; rfl; exact yes
    apply OL.op; exact Guard.no rfl rfl; rfl; rfl; apply Pev.move; rfl; exact yes
    apply OL.op; exact Guard.no rfl rfl; rfl; rfl; apply Pev.slice_hi; rfl; exact fun h => h; rfl; exact fun h => h; rfl; rfl; intro hcond; omega
    apply OL.op; exact Guard.no rfl rfl; rfl; rfl; apply Pev.makeFunc; exact Args.nil; apply Args.cons rfl; exact yes; exact Args.nil
    revert bk
    intro bd hbd
    (((first | (with_reducible apply OL.op) | (with_reducible apply QL.op)); ((first | exact Guard.none | exact Guard.yes rfl rfl | exact Guard.no rfl rfl | exact Guard.cyes rfl rfl | exact Guard.cno rfl rfl)); rfl; rfl); (refine Pev.call (v := .bool (((l.take i).map DJ.di).any (fun x => decide (x.nm = d.nm)))) (vs := [.slice (some a) i cd, .func (.func 16) ([] : List Value).toArray [Value.pointer (some ⟨bd, 0, none⟩)].toArray]) rfl (by (repeat (first | exact Args.nil | (apply Args.cons rfl; ((first | exact fun _ => rfl | exact fun h => h | (intro h; simp_all; done))))))) (fun _ w2 hw2 => ?_)))
    · have hb : (blk bd 38 [.string d.nm, .int .i64 d.params, .slice d.q d.cons.length d.cap]).holds w2 := hw2.item (.head _)
      have hlt := hw2.lt _ (.head _) bd rfl
      have hbel := hw2.below (s := w) (by (repeat (first | exact List.Mem.head _ | apply List.Mem.tail))) (Nat.le_refl _) (fun k hk => by (focus ((try simp only [add_block]); (repeat (first | exact NotOwned.nil | exact hno _ (by omega) | refine NotOwned.nothing ?_ | refine NotOwned.nds (hlow _ (by omega)) ?_ | refine NotOwned.mapS (by omega) ?_ | apply NotOwned.bif | refine NotOwned.blk (by omega) ?_ | refine NotOwned.row (by omega) ?_ | refine NotOwned.grid (by assumption) (by omega) ?_ | refine NotOwned.pile (by omega) ?_)); done)))
      have hsl := (h.ds.keep hbel (hw2.kp w (by (repeat (first | exact List.Mem.head _ | apply List.Mem.tail)))).size).takeC i
      rw [← dic_dj] at hsl
      have hc := DContainsFunc_calls (some a) cd ((l.take i).map DJ.di) 16 [] [.pointer (some ⟨bd, 0, none⟩)] (fun x => decide (x.nm = d.nm)) w2 (by omega) hsl rfl (fun x hx w3 h3 => lit2_calls x bd d.nm w3 (by rw [cell_heap (w := w2) (h3.block bd hlt id), blk_cell hb]; rfl) (Nat.lt_of_lt_of_le hlt h3.size))
      rw [hlT] at hc
      exact hc.mono (fun e w3 h => ⟨h.1, hw2.ext h.2⟩)
    apply OL.op; exact Guard.none; rfl; rfl; apply Pev.pick_or; rfl; exact yes; rfl; exact fun h => h
    apply OL.nil
    with_reducible apply At.next
    refine W.cond rfl (fun hb => ?_) (fun hb => ?_)
    · apply W.seq
      apply W.reg
      apply oas; rfl; rfl
      apply OL.nil
      with_reducible apply At.next
      apply W.ret
      with_reducible apply At.then_ret
      with_reducible apply At.in_ret
      with_reducible apply At.then_ret
      with_reducible apply At.then_ret
      with_reducible apply At.in_ret
      with_reducible apply At.then_ret
      ((with_reducible apply At.fin1); rfl; rfl; intro w' hw')
      exact ⟨rfl, by (exact hw'.toExt (by (repeat (first | exact List.Mem.head _ | apply List.Mem.tail))) (fun k hk => by (focus ((try simp only [add_block]); (repeat (first | exact NotOwned.nil | exact hno _ (by omega) | refine NotOwned.nothing ?_ | refine NotOwned.nds (hlow _ (by omega)) ?_ | refine NotOwned.mapS (by omega) ?_ | apply NotOwned.bif | refine NotOwned.blk (by omega) ?_ | refine NotOwned.row (by omega) ?_ | refine NotOwned.grid (by assumption) (by omega) ?_ | refine NotOwned.pile (by omega) ?_)); done))))⟩
    simp only [Bool.or_eq_false_iff, decide_eq_false_iff_not, Int.not_lt] at hb
    obtain ⟨hpar, hnon⟩ := hb
    have hd2 : (dss (l.map DJ.dd))[i]? = some d.dd.ds := by simp [dss, hd]
    have hsu := bsum_succ hd2
    have hpn : d.dd.ds.params = d.params.toNat := rfl
    have hsI : (bsum (dss (l.map DJ.dd)) (i + 1) : Int) = (bsum (dss (l.map DJ.dd)) i : Int) + d.params := by omega
    clear hsu
    apply W.skip
    with_reducible apply At.next
    apply W.seq
    apply W.reg
    apply omv; rfl; rfl
    apply ofa; rfl; rfl; rfl
    apply old; rfl; rfl; exact .head _; rfl; rfl
    apply obn; rfl; rfl; rfl; apply Bin.add_in; omega
    apply oas; rfl; rfl
    apply OL.nil
    with_reducible apply At.next
    apply W.seq
    apply W.reg
    apply ofa; rfl; rfl; rfl
    apply old; rfl; rfl; exact .head _; rfl; rfl
    apply OL.op; exact Guard.none; rfl; rfl; apply Pev.len_slice; rfl; exact yes; rfl
    apply omv; rfl; rfl
    apply OL.nil
    with_reducible apply At.next
    apply W.block
    refine W.loop (G := Nat) (fun j => j ≤ d.cons.length ∧ ∀ (k : Nat) (c : DC), k < j → d.cons[k]? = some c → ∀ a ∈ c.args, (tyErr a.t false 1 0).2 = 0 ∧ rowA a.t = false) (fun j => d.cons.length - j)
      (fun j => [(0, true, .slice (some a) l.length cd), (8, true, .int .i64 (bsum (dss (l.map DJ.dd)) (i + 1) : Int)), (65, true, .slice (some a) l.length cd), (66, true, .int .i64 (l.length : Int)), (67, true, .int .i64 (i : Int)), (92, true, .slice d.q d.cons.length d.cap), (93, true, .int .i64 (d.cons.length : Int)), (94, true, .int .i64 (j : Int))])
      (fun _ => Cls [] [w1, w]) 0 ⟨by omega, fun k c hk => by omega⟩ (by (repeat (first | exact Sub.nil | apply Sub.cons rfl | (refine Sub.cons_eq rfl (congrArg (Value.int .i64) (by first | omega | (simp only; omega))) ?_)))) (fun w' hw' => hw'.thin (by (repeat (first | exact Thin.nil | exact Thin.same | apply Thin.keep | (refine Thin.blk (by assumption) ?_) | (refine Thin.blk (by simp only [AllLe, and_true]; omega) ?_))))) ?_
    rintro j ⟨hj, hcs⟩
    apply W.seq
    apply W.reg
    apply obn; rfl; rfl; rfl; apply Bin.lss
    apply OL.nil
    with_reducible apply At.next
    apply W.seq
    (refine W.cond rfl (fun hlt2 => ?_) (fun hlt2 => ?_)) <;> (try (simp only [Bool.and_eq_true, Bool.or_eq_true, Bool.not_eq_true', Bool.and_eq_false_iff, Bool.or_eq_false_iff, Bool.not_eq_false', decide_eq_true_eq, decide_eq_false_iff_not, Int.not_lt, Int.not_le] at hlt2)) <;> (try (exfalso; first | omega | exact hlt2 trivial | contradiction))
    · have hjl : j < d.cons.length := by omega
      obtain ⟨ac, c, hqc, hacb, hc, hcc⟩ := SlAt.elem (h.co d hdm) coc_len (by decide) hjl
      have hcc : CellsAt w (ac.add (j * 2)) [.string c.nm, .slice c.q c.args.length c.cap] := hcc
      have hcm := List.mem_of_getElem? hc
      have hbn2 := (h.bnd d hdm).2 c hcm
      rw [hqc]
      apply W.skip
      with_reducible apply At.next
      apply W.seq
      apply W.block
      apply W.seq
      apply W.reg
      apply OL.op; exact Guard.none; rfl; rfl; apply Pev.idx; rfl; exact yes; rfl; exact yes; rfl; rfl; intro hcond; omega
      apply OL.op; exact Guard.none; rfl; rfl; apply Pev.load_keptA; rfl; exact yes; exact .tail _ (.head _); rfl; intro hcond; assumption; rfl; intro hcond; (rw [add_block]; assumption); intro hcond; exact NotOwned.nil
      apply OL.alloc; rfl; rfl; exact CellsL.agg; (intro bk hbk; simp only [AllLe, and_true] at hbk)
      apply OL.storeB; rfl; rfl; exact CellsL.agg; rfl; rfl; rfl; apply Swap.z; apply Put.here; apply Over.cons; apply Over.cons; apply Over.nil
      apply OL.nil
      with_reducible apply At.next
      apply W.seq
      apply W.reg
      apply ofa; rfl; rfl; rfl
      apply old; rfl; rfl; exact .head _; rfl; rfl
      apply OL.op; exact Guard.none; rfl; rfl; apply Pev.len_slice; rfl; exact yes; rfl
      apply omv; rfl; rfl
      apply OL.nil
      with_reducible apply At.next
      apply W.block
      revert bk
      intro bc hbc
      skip
      refine W.loop (G := Nat) (fun k => k ≤ c.args.length ∧ ∀ (k' : Nat) (a : Pa), k' < k → c.args[k']? = some a → (tyErr a.t false 1 0).2 = 0 ∧ rowA a.t = false) (fun k => c.args.length - k)
        (fun k => [(0, true, .slice (some a) l.length cd), (8, true, .int .i64 (bsum (dss (l.map DJ.dd)) (i + 1) : Int)), (65, true, .slice (some a) l.length cd), (66, true, .int .i64 (l.length : Int)), (67, true, .int .i64 (i : Int)), (92, true, .slice (some ac) d.cons.length d.cap), (93, true, .int .i64 (d.cons.length : Int)), (94, true, .int .i64 (j : Int)), (99, true, .slice c.q c.args.length c.cap), (100, true, .int .i64 (c.args.length : Int)), (101, true, .int .i64 (k : Int))])
        (fun _ => Cls [] [w1, w]) 0 ⟨by omega, fun k a hk => by omega⟩ (by (repeat (first | exact Sub.nil | apply Sub.cons rfl | (refine Sub.cons_eq rfl (congrArg (Value.int .i64) (by first | omega | (simp only; omega))) ?_)))) (fun w' hw' => hw'.thin (by (repeat (first | exact Thin.nil | exact Thin.same | apply Thin.keep | (refine Thin.blk (by assumption) ?_) | (refine Thin.blk (by simp only [AllLe, and_true]; omega) ?_))))) ?_
      rintro k ⟨hk, hps⟩
      apply W.seq
      apply W.reg
      apply obn; rfl; rfl; rfl; apply Bin.lss
      apply OL.nil
      with_reducible apply At.next
      apply W.seq
      (refine W.cond rfl (fun hlt3 => ?_) (fun hlt3 => ?_)) <;> (try (simp only [Bool.and_eq_true, Bool.or_eq_true, Bool.not_eq_true', Bool.and_eq_false_iff, Bool.or_eq_false_iff, Bool.not_eq_false', decide_eq_true_eq, decide_eq_false_iff_not, Int.not_lt, Int.not_le] at hlt3)) <;> (try (exfalso; first | omega | exact hlt3 trivial | contradiction))
      · have hkl : k < c.args.length := by omega
        obtain ⟨aa, p, hqa, haab, hp, hcp⟩ := SlAt.elem (h.ar d hdm c hcm) tcc_len (by decide) hkl
        have hcp : CellsAt w (aa.add (k * 4)) [.int .i64 p.t.kind, .string p.t.name, .int .i64 p.t.var, .slice p.q p.t.args.length p.cap] := hcp
        have hpm := List.mem_of_getElem? hp
        have hty := h.ty d hdm c hcm p hpm
        have hfty : ∀ (H : List Eng.Item) (w3 : World), (∀ k, k < w.heap.size → NotOwned H k) → Cls H [w1, w] w3 → TyC w3 w3.heap.size p.t (tcc p) := fun H w3 hno hw3 => TyC.keep (hw3.below (s := w) (by (repeat (first | exact List.Mem.head _ | apply List.Mem.tail))) (Nat.le_refl _) hno) (hw3.kp w (by (repeat (first | exact List.Mem.head _ | apply List.Mem.tail)))).size hty
        rw [hqa]
        apply W.skip
        with_reducible apply At.next
        apply W.seq
        apply W.block
        apply W.seq
        apply W.reg
        apply OL.op; exact Guard.none; rfl; rfl; apply Pev.idx; rfl; exact yes; rfl; exact yes; rfl; rfl; intro hcond; omega
        apply OL.op; exact Guard.none; rfl; rfl; apply Pev.load_keptA; rfl; exact yes; exact .tail _ (.head _); rfl; intro hcond; assumption; rfl; intro hcond; (rw [add_block]; assumption); intro hcond; exact NotOwned.nil
        apply OL.alloc; rfl; rfl; exact CellsL.agg; (intro bk hbk; simp only [AllLe, and_true] at hbk)
        apply OL.storeB; rfl; rfl; exact CellsL.agg; rfl; rfl; rfl; apply Swap.z; apply Put.here; apply Over.cons; apply Over.cons; apply Over.cons; apply Over.cons; apply Over.nil
        apply OL.nil
        with_reducible apply At.next
        apply W.seq
        apply W.reg
        apply OL.op; exact Guard.none; rfl; rfl; apply Pev.load_blkA; rfl; exact yes; exact .head _; rfl; apply Take.succ; apply Take.succ; apply Take.succ; apply Take.succ; apply Take.zero
        revert bk
        intro bt hbt
        (((first | (with_reducible apply OL.op) | (with_reducible apply QL.op)); ((first | exact Guard.none | exact Guard.yes rfl rfl | exact Guard.no rfl rfl | exact Guard.cyes rfl rfl | exact Guard.cno rfl rfl)); rfl; rfl); (exact Pev.call rfl (by (repeat (first | exact Args.nil | (apply Args.cons rfl; ((first | exact fun _ => rfl | exact fun h => h | (intro h; simp_all; done))))))) (fun _ w3 hw3 => (Go.Proofs.YtaponemcbnnebaaDoor.uv.typeErr_calls p.t false (tcc p) w3 (hfty _ w3 (fun k hk => by (focus ((try simp only [add_block]); (repeat (first | exact NotOwned.nil | exact hno _ (by omega) | refine NotOwned.nothing ?_ | refine NotOwned.nds (hlow _ (by omega)) ?_ | refine NotOwned.mapS (by omega) ?_ | apply NotOwned.bif | refine NotOwned.blk (by omega) ?_ | refine NotOwned.row (by omega) ?_ | refine NotOwned.grid (by assumption) (by omega) ?_ | refine NotOwned.pile (by omega) ?_)); done))) hw3)).mono (fun e w3 h => ⟨h.1, hw3.ext h.2⟩))))
        apply obn; rfl; rfl; rfl; apply Bin.neq
        apply omv; rfl; rfl
        apply OL.op; exact Guard.no rfl rfl; rfl; rfl; apply Pev.load_blkA; rfl; exact yes; exact .head _; rfl; apply Take.succ; apply Take.succ; apply Take.succ; apply Take.succ; apply Take.zero
        (((first | (with_reducible apply OL.op) | (with_reducible apply QL.op)); ((first | exact Guard.none | exact Guard.yes rfl rfl | exact Guard.no rfl rfl | exact Guard.cyes rfl rfl | exact Guard.cno rfl rfl)); rfl; rfl); (exact Pev.call rfl (by (repeat (first | exact Args.nil | (apply Args.cons rfl; ((first | exact fun _ => rfl | exact fun h => h | (intro h; simp_all; done))))))) (fun _ w3 hw3 => (rowArg_calls _ p w3 (Nat.le_refl _) (hfty _ w3 (fun k hk => by (focus ((try simp only [add_block]); (repeat (first | exact NotOwned.nil | exact hno _ (by omega) | refine NotOwned.nothing ?_ | refine NotOwned.nds (hlow _ (by omega)) ?_ | refine NotOwned.mapS (by omega) ?_ | apply NotOwned.bif | refine NotOwned.blk (by omega) ?_ | refine NotOwned.row (by omega) ?_ | refine NotOwned.grid (by assumption) (by omega) ?_ | refine NotOwned.pile (by omega) ?_)); done))) hw3)).mono (fun e w3 h => ⟨h.1, hw3.ext h.2⟩))))
        apply OL.op; exact Guard.none; rfl; rfl; apply Pev.pick_or; rfl; exact yes; rfl; exact fun h => h
        apply OL.nil
        with_reducible apply At.next
        refine W.cond rfl (fun hb => ?_) (fun hb => ?_)
        · apply W.seq
          apply W.reg
          apply oas; rfl; rfl
          apply OL.nil
          with_reducible apply At.next
          apply W.ret
          with_reducible apply At.in_ret
          with_reducible apply At.then_ret
          with_reducible apply At.then_ret
          with_reducible apply At.in_ret
          with_reducible apply At.in_ret
          with_reducible apply At.then_ret
          with_reducible apply At.then_ret
          with_reducible apply At.in_ret
          with_reducible apply At.in_ret
          with_reducible apply At.then_ret
          with_reducible apply At.then_ret
          with_reducible apply At.in_ret
          with_reducible apply At.then_ret
          ((with_reducible apply At.fin1); rfl; rfl; intro w' hw')
          exact ⟨rfl, by (exact hw'.toExt (by (repeat (first | exact List.Mem.head _ | apply List.Mem.tail))) (fun k hk => by (focus ((try simp only [add_block]); (repeat (first | exact NotOwned.nil | exact hno _ (by omega) | refine NotOwned.nothing ?_ | refine NotOwned.nds (hlow _ (by omega)) ?_ | refine NotOwned.mapS (by omega) ?_ | apply NotOwned.bif | refine NotOwned.blk (by omega) ?_ | refine NotOwned.row (by omega) ?_ | refine NotOwned.grid (by assumption) (by omega) ?_ | refine NotOwned.pile (by omega) ?_)); done))))⟩
        obtain ⟨ht0, hr0⟩ : (tyErr p.t false 1 0).2 = 0 ∧ rowA p.t = false := by simpa using hb
        apply W.skip
        with_reducible apply At.in_normal
        with_reducible apply At.next
        apply W.reg
        apply obn; rfl; rfl; rfl; apply Bin.add_in; omega
        apply omv; rfl; rfl
        apply OL.nil
        refine At.again (k + 1) ⟨by omega, fun k' x hk' hx => ?_⟩ (by omega) (by (repeat (first | exact Sub.nil | apply Sub.cons rfl | (refine Sub.cons_eq rfl (congrArg (Value.int .i64) (by first | omega | (simp only; omega))) ?_)))) (fun w' hw' => hw'.thin (by (repeat (first | exact Thin.nil | exact Thin.same | apply Thin.keep | (refine Thin.blk (by assumption) ?_) | (refine Thin.blk (by simp only [AllLe, and_true]; omega) ?_)))))
        by_cases e : k' = k
        · subst e
          rw [hp] at hx
          cases hx; exact ⟨ht0, hr0⟩
        · exact hps k' x (by omega) hx
      · obtain rfl : k = c.args.length := by omega
        apply W.exit
        with_reducible apply At.then_exit
        with_reducible apply At.then_exit
        with_reducible apply At.in_exit
        with_reducible apply At.in_normal
        with_reducible apply At.next
        apply W.reg
        apply obn; rfl; rfl; rfl; apply Bin.add_in; omega
        apply omv; rfl; rfl
        apply OL.nil
        refine At.again (j + 1) ⟨by omega, fun k' x hk' hx => ?_⟩ (by omega) (by (repeat (first | exact Sub.nil | apply Sub.cons rfl | (refine Sub.cons_eq rfl (congrArg (Value.int .i64) (by first | omega | (simp only; omega))) ?_)))) (fun w' hw' => hw'.thin (by (repeat (first | exact Thin.nil | exact Thin.same | apply Thin.keep | (refine Thin.blk (by assumption) ?_) | (refine Thin.blk (by simp only [AllLe, and_true]; omega) ?_)))))
        by_cases e : k' = j
        · subst e
          rw [hc] at hx
          cases hx
          intro a ha
          obtain ⟨n, hn⟩ := List.getElem?_of_mem ha
          exact hps n a (List.getElem?_eq_some_iff.1 hn).1 hn
        · exact hcs k' x (by omega) hx
    · obtain rfl : j = d.cons.length := by omega
      apply W.exit
      with_reducible apply At.then_exit
      with_reducible apply At.then_exit
      with_reducible apply At.in_exit
      with_reducible apply At.in_normal
      with_reducible apply At.next
      apply W.reg
      apply obn; rfl; rfl; rfl; apply Bin.add_in; omega
      apply omv; rfl; rfl
      apply OL.nil
      refine At.again (i + 1) ⟨by omega, hchk.succ hd hpar hnon (fun c hc => ?_), by omega⟩ (by omega) (by (repeat (first | exact Sub.nil | apply Sub.cons rfl | (refine Sub.cons_eq rfl (congrArg (Value.int .i64) (by first | omega | (simp only; omega))) ?_)))) (fun w' hw' => hw'.thin (by (repeat (first | exact Thin.nil | exact Thin.same | apply Thin.keep | (refine Thin.blk (by assumption) ?_) | (refine Thin.blk (by simp only [AllLe, and_true]; omega) ?_)))))
      obtain ⟨n, hn⟩ := List.getElem?_of_mem hc
      exact hcs n c (List.getElem?_eq_some_iff.1 hn).1 hn
  · obtain rfl : i = l.length := by omega
    apply W.exit
    with_reducible apply At.then_exit
    with_reducible apply At.then_exit
    with_reducible apply At.in_exit
    with_reducible apply At.next
    apply W.seq
    apply W.seq
    apply W.reg
    apply omv; rfl; rfl
    apply obn; rfl; rfl; rfl; apply Bin.gtr
    apply OL.nil
    with_reducible apply At.next
    (refine W.cond rfl (fun hmany => ?_) (fun hmany => ?_)) <;> (try (simp only [Bool.and_eq_true, Bool.or_eq_true, Bool.not_eq_true', Bool.and_eq_false_iff, Bool.or_eq_false_iff, Bool.not_eq_false', decide_eq_true_eq, decide_eq_false_iff_not, Int.not_lt, Int.not_le] at hmany)) <;> (try (exfalso; first | omega | exact hmany trivial | contradiction))
    · apply W.seq
      apply W.reg
      apply oas; rfl; rfl
      apply OL.nil
      with_reducible apply At.next
      apply W.ret
      with_reducible apply At.then_ret
      ((with_reducible apply At.fin1); rfl; rfl; intro w' hw')
      exact ⟨rfl, by (exact hw'.toExt (by (repeat (first | exact List.Mem.head _ | apply List.Mem.tail))) (fun k hk => by (focus ((try simp only [add_block]); (repeat (first | exact NotOwned.nil | exact hno _ (by omega) | refine NotOwned.nothing ?_ | refine NotOwned.nds (hlow _ (by omega)) ?_ | refine NotOwned.mapS (by omega) ?_ | apply NotOwned.bif | refine NotOwned.blk (by omega) ?_ | refine NotOwned.row (by omega) ?_ | refine NotOwned.grid (by assumption) (by omega) ?_ | refine NotOwned.pile (by omega) ?_)); done))))⟩
    have hM6 : bsum (dss (l.map DJ.dd)) l.length ≤ 6 := by omega
    have hOk := hchk.ok hl4 hM6 h.bnd
    have hp0 : ∀ d ∈ l, 0 ≤ d.params := fun d hd => by
      obtain ⟨j, hj⟩ := List.getElem?_of_mem hd
      exact (hchk.par j d (List.getElem?_eq_some_iff.1 hj).1 hj).1
    have hLl : (l.map DJ.dd).length = l.length := List.length_map _
    apply W.skip
    with_reducible apply At.next
    apply W.seq
    apply W.reg
    apply omv; rfl; rfl
    refine OL.callE (α := World × Int × Option Addr × Nat × List KR) (fun x => .tuple #[.slice x.2.2.1 x.2.2.2.2.length x.2.2.2.1, .int .i64 x.2.1]) (fun x => w.heap.size ≤ x.1.heap.size ∧ InfR (l.map DJ.dd) x.2.1 x.2.2.2.2 ∧ SlAt x.1 x.1.heap.size x.2.2.1 (cat krc x.2.2.2.2) ∧ ∀ kr ∈ x.2.2.2.2, SlAt x.1 x.1.heap.size kr.q (ins kr.xs)) (fun x => Cls [] [x.1, w]) rfl rfl (by (repeat (first | exact Args.nil | (apply Args.cons rfl; ((first | exact fun _ => rfl | exact fun h => h | (intro h; simp_all; done))))))) (fun w2 hw2 => ?_) ?_
    · have hbel := hw2.below (s := w) (by (repeat (first | exact List.Mem.head _ | apply List.Mem.tail))) (Nat.le_refl _) (fun k hk => by (focus ((try simp only [add_block]); (repeat (first | exact NotOwned.nil | exact hno _ (by omega) | refine NotOwned.nothing ?_ | refine NotOwned.nds (hlow _ (by omega)) ?_ | refine NotOwned.mapS (by omega) ?_ | apply NotOwned.bif | refine NotOwned.blk (by omega) ?_ | refine NotOwned.row (by omega) ?_ | refine NotOwned.grid (by assumption) (by omega) ?_ | refine NotOwned.pile (by omega) ?_)); done)))
      have hsz := (hw2.kp w (by (repeat (first | exact List.Mem.head _ | apply List.Mem.tail)))).size
      have hk := infer_calls qd cd (l.map DJ.dd) w2 (by omega) hOk (h.dok hp0 hbel hsz) (by omega) (hs.keep hg hbel)
      rw [hLl] at hk
      exact hk.mono fun e w3 ⟨er, a, c, rows, h1, h2, h3, h4, h5⟩ => ⟨(w3, er, a, c, rows), h1, ⟨Nat.le_trans hsz h3.size, h2, h4, h5⟩, ((hw2.ext h3).note).forget (by simp)⟩
    rintro ⟨w2, er, a2, c2, rows⟩ ⟨hsz2, hI, hr2, hx2⟩
    simp only at hsz2 hI hr2 hx2 ⊢
    have hKO : ∀ w3, Cls [] [w2, w] w3 → Calls Tryd.prog 13 #[.slice qd l.length cd] w3 fun e w' => ∃ a : Option (Option Addr × Nat × List Sl), e = .returned (ansV a) ∧ (ansS a).map (fun l => l.map Sl.xs) = (kindsR (l.map DJ.dd) (bsum (dss (l.map DJ.dd)) (l.map DJ.dd).length)).map (fun l => l.map ins) ∧ Ans w3 w' a := fun w3 hw3 => by
      have hbel := hw3.below (s := w) (by (repeat (first | exact List.Mem.head _ | apply List.Mem.tail))) (Nat.le_refl _) (fun k hk => by (focus ((try simp only [add_block]); (repeat (first | exact NotOwned.nil | exact hno _ (by omega) | refine NotOwned.nothing ?_ | refine NotOwned.nds (hlow _ (by omega)) ?_ | refine NotOwned.mapS (by omega) ?_ | apply NotOwned.bif | refine NotOwned.blk (by omega) ?_ | refine NotOwned.row (by omega) ?_ | refine NotOwned.grid (by assumption) (by omega) ?_ | refine NotOwned.pile (by omega) ?_)); done)))
      have hsz := (hw3.kp w (by (repeat (first | exact List.Mem.head _ | apply List.Mem.tail)))).size
      have hk := KindsOf_calls qd cd (l.map DJ.dd) w3 (by omega) hOk.len hOk.sum hOk.bnd (fun d hd c hc a ha => ⟨false, wf_of _ false 1 0 (hOk.typ d hd c hc a ha).1 (hOk.typ d hd c hc a ha).2 (.inl (kind_le (hOk.typ d hd c hc a ha).1))⟩) (h.dok hp0 hbel hsz)
      rw [hLl] at hk ⊢
      exact hk
    apply omv; rfl; rfl
    apply oex; rfl; rfl; rfl
    apply oex; rfl; rfl; rfl
    apply oas; rfl; rfl
    apply oas; rfl; rfl
    apply OL.nil
    with_reducible apply At.next
    apply W.seq
    apply W.reg
    apply omv; rfl; rfl
    cases hkR : kindsR (l.map DJ.dd) (bsum (dss (l.map DJ.dd)) (l.map DJ.dd).length) with
    | none =>
      obtain ⟨e1, rfl⟩ := (infer_answer hI).1 hkR
      (((first | (with_reducible apply OL.op) | (with_reducible apply QL.op)); ((first | exact Guard.none | exact Guard.yes rfl rfl | exact Guard.no rfl rfl | exact Guard.cyes rfl rfl | exact Guard.cno rfl rfl)); rfl; rfl); (exact Pev.call (v := .tuple #[.slice none 0 0, .bool false]) rfl (by (repeat (first | exact Args.nil | (apply Args.cons rfl; ((first | exact fun _ => rfl | exact fun h => h | (intro h; simp_all; done))))))) (fun _ w3 hw3 => (hKO w3 hw3).mono (fun e w4 ⟨a, h1, h2, h3⟩ => by
        rw [hkR] at h2
        cases a with
        | none => exact ⟨h1, hw3.ext h3.ext⟩
        | some x => simp [ansS] at h2))))
      apply omv; rfl; rfl
      apply oex; rfl; rfl; rfl
      apply oex; rfl; rfl; rfl
      apply oas; rfl; rfl
      apply oas; rfl; rfl
      apply OL.nil
      with_reducible apply At.next
      apply W.seq
      apply W.seq
      apply W.reg
      apply omv; rfl; rfl
      apply OL.op; exact Guard.none; rfl; rfl; apply Pev.not; rfl; exact yes
      apply OL.nil
      with_reducible apply At.next
      refine W.cond rfl (fun _ => ?_) (fun hb => by simp at hb)
      apply W.seq
      apply W.reg
      apply omv; rfl; rfl
      apply OL.op; exact Guard.none; rfl; rfl; apply Pev.len_slice; rfl; exact yes; rfl
      apply obn; rfl; rfl; rfl; apply Bin.eql
      apply omv; rfl; rfl
      apply OL.op; exact Guard.yes rfl rfl; rfl; rfl; apply Pev.move; rfl; exact yes
      apply OL.op; exact Guard.yes rfl rfl; rfl; rfl; apply Pev.bin; rfl; exact yes; rfl; exact yes; intro hcond; apply Bin.eql
      apply OL.op; exact Guard.yes rfl rfl; rfl; rfl; apply Pev.move; rfl; exact yes
      apply OL.op; exact Guard.no rfl rfl; rfl; rfl; apply Pev.move; rfl; exact yes
      apply OL.op; exact Guard.no rfl rfl; rfl; rfl; apply Pev.bin; rfl; exact fun h => h; rfl; exact yes; intro hcond; apply Bin.eql
      apply OL.op; exact Guard.yes rfl rfl; rfl; rfl; apply Pev.pick_or; rfl; exact yes; rfl; exact fun h => h
      apply OL.op; exact Guard.none; rfl; rfl; apply Pev.pick_and; rfl; exact yes; rfl; exact yes
      apply oas; rfl; rfl
      apply OL.nil
      with_reducible apply At.next
      apply W.ret
      with_reducible apply At.then_ret
      ((with_reducible apply At.fin1); rfl; rfl; intro w' hw')
      exact ⟨by rcases e1 with rfl | rfl <;> simp, by (exact hw'.toExt (by (repeat (first | exact List.Mem.head _ | apply List.Mem.tail))) (fun k hk => by (focus ((try simp only [add_block]); (repeat (first | exact NotOwned.nil | exact hno _ (by omega) | refine NotOwned.nothing ?_ | refine NotOwned.nds (hlow _ (by omega)) ?_ | refine NotOwned.mapS (by omega) ?_ | apply NotOwned.bif | refine NotOwned.blk (by omega) ?_ | refine NotOwned.row (by omega) ?_ | refine NotOwned.grid (by assumption) (by omega) ?_ | refine NotOwned.pile (by omega) ?_)); done))))⟩
    | some out =>
      obtain ⟨rfl, hrl, hol, hans⟩ := (infer_answer hI).2 _ hkR
      rw [hLl] at hrl hol
      refine OL.callE (α := World × Option Addr × Nat × List Sl) (fun x => .tuple #[.slice x.2.1 x.2.2.2.length x.2.2.1, .bool true]) (fun x => w2.heap.size ≤ x.1.heap.size ∧ SlAt x.1 x.1.heap.size x.2.1 (x.2.2.2.map slv) ∧ (∀ s ∈ x.2.2.2, SlAt x.1 x.1.heap.size s.q s.xs) ∧ x.2.2.2.map Sl.xs = out.map ins) (fun x => Cls [] [x.1, w2, w]) rfl rfl (by (repeat (first | exact Args.nil | (apply Args.cons rfl; ((first | exact fun _ => rfl | exact fun h => h | (intro h; simp_all; done))))))) (fun w3 hw3 => ?_) ?_
      · refine (hKO w3 hw3).mono (fun e w4 ⟨a, h1, h2, h3⟩ => ?_)
        rw [hkR] at h2
        cases a with
        | none => simp [ansS] at h2
        | some x =>
          obtain ⟨q, c, rows2⟩ := x
          exact ⟨(w4, q, c, rows2), h1, ⟨Nat.le_trans (hw3.kp w2 (.head _)).size h3.ext.size, h3.sl q c _ rfl, h3.el q c _ rfl, by simpa [ansS] using h2⟩, (hw3.ext h3.ext).note⟩
      rintro ⟨w4, q4, c4, rows4⟩ ⟨hsz4, hq4, hs4, hx4⟩
      simp only at hsz4 hq4 hs4 hx4 ⊢
      rw [hrl]
      apply omv; rfl; rfl
      apply oex; rfl; rfl; rfl
      apply oex; rfl; rfl; rfl
      apply oas; rfl; rfl
      apply oas; rfl; rfl
      apply OL.nil
      with_reducible apply At.next
      apply W.seq
      apply W.seq
      apply W.reg
      apply omv; rfl; rfl
      apply OL.op; exact Guard.none; rfl; rfl; apply Pev.not; rfl; exact yes
      apply OL.nil
      with_reducible apply At.next
      refine W.cond rfl (fun hb => by simp at hb) (fun _ => ?_)
      apply W.skip
      with_reducible apply At.next
      apply W.seq
      apply W.seq
      apply W.reg
      apply omv; rfl; rfl
      apply obn; rfl; rfl; rfl; apply Bin.neq
      apply omv; rfl; rfl
      apply OL.op; exact Guard.no rfl rfl; rfl; rfl; apply Pev.move; rfl; exact yes
      apply OL.op; exact Guard.no rfl rfl; rfl; rfl; apply Pev.len_slice; rfl; exact yes; rfl
      apply OL.op; exact Guard.no rfl rfl; rfl; rfl; apply Pev.move; rfl; exact yes
      apply OL.op; exact Guard.no rfl rfl; rfl; rfl; apply Pev.len_slice; rfl; exact yes; rfl
      apply OL.op; exact Guard.no rfl rfl; rfl; rfl; apply Pev.bin; rfl; exact yes; rfl; exact yes; intro hcond; apply Bin.neq
      apply OL.op; exact Guard.none; rfl; rfl; apply Pev.pick_or; rfl; exact yes; rfl; exact yes
      apply OL.nil
      with_reducible apply At.next
      refine W.cond rfl (fun hb => by simp at hb) (fun _ => ?_)
      apply W.skip
      with_reducible apply At.next
      apply W.seq
      apply W.seq
      apply W.reg
      apply omv; rfl; rfl
      apply OL.op; exact Guard.none; rfl; rfl; apply Pev.len_slice; rfl; exact yes; rfl
      apply omv; rfl; rfl
      apply OL.nil
      with_reducible apply At.next
      apply W.block
      refine W.loop (G := Nat) (fun i => i ≤ l.length) (fun i => l.length - i)
        (fun i => [(15, true, .slice a2 l.length c2), (17, true, .slice q4 rows4.length c4), (149, true, .slice qd l.length cd), (150, true, .int .i64 (l.length : Int)), (151, true, .int .i64 (i : Int))])
        (fun _ => Cls [] [w4, w2, w]) 0 (by omega) (by (repeat (first | exact Sub.nil | apply Sub.cons rfl | (refine Sub.cons_eq rfl (congrArg (Value.int .i64) (by first | omega | (simp only; omega))) ?_)))) (fun w' hw' => hw') ?_
      intro i hi
      apply W.seq
      apply W.reg
      apply obn; rfl; rfl; rfl; apply Bin.lss
      apply OL.nil
      with_reducible apply At.next
      apply W.seq
      (refine W.cond rfl (fun hlt2 => ?_) (fun hlt2 => ?_)) <;> (try (simp only [Bool.and_eq_true, Bool.or_eq_true, Bool.not_eq_true', Bool.and_eq_false_iff, Bool.or_eq_false_iff, Bool.not_eq_false', decide_eq_true_eq, decide_eq_false_iff_not, Int.not_lt, Int.not_le] at hlt2)) <;> (try (exfalso; first | omega | exact hlt2 trivial | contradiction))
      · have hil : i < l.length := by omega
        obtain ⟨a, d, rfl, hd, hab, hcd⟩ := hcell hil
        have h4l : rows4.length = l.length := by
          have := congrArg List.length hx4
          simp only [List.length_map] at this
          omega
        obtain ⟨a2, kr, rfl, hab2, hkr, hck⟩ := SlAt.elem hr2 krc_len (by decide) (show i < rows.length by omega)
        obtain ⟨d', hd', hnm, hout⟩ := hans i kr hkr
        obtain rfl : d.dd = d' := by
          rw [List.getElem?_map, hd] at hd'
          exact Option.some.inj hd'
        have hnm : kr.nm = d.nm := hnm
        have hck : CellsAt w2 (a2.add (i * 2)) [.string d.nm, .slice kr.q kr.xs.length kr.cap] := by
          have := hck
          rw [krc, hnm] at this
          exact this
        obtain ⟨s, hsm, hsx⟩ := map_get hx4 hout
        obtain ⟨a4, rfl, hab4, hc4⟩ := hq4 (by simp; omega)
        have hcs4 : w4.cell? (a4.add (i * 1)) = some (.slice s.q kr.xs.length s.cap) := by
          rw [Nat.mul_one]
          have h1 := hc4 i (slv s) (by simp [hsm])
          rw [slv, hsx, ins_length] at h1
          exact h1
        have hkl : kr.xs.length ≤ 9223372036854775807 := by
          obtain ⟨_, σ, _, _, _, hrok⟩ := hI.ok rfl
          obtain ⟨d3, hd3, _, h3, _⟩ := hrok i kr hkr
          have := hOk.par d3 (List.mem_of_getElem? hd3)
          omega
        have hse := hs4 s (List.mem_of_getElem? hsm)
        rw [hsx] at hse
        have hke := hx2 kr (List.mem_of_getElem? hkr)
        apply W.skip
        with_reducible apply At.next
        apply W.seq
        apply W.block
        apply W.seq
        apply W.reg
        apply omv; rfl; rfl
        apply OL.op; exact Guard.none; rfl; rfl; apply Pev.idx; rfl; exact yes; rfl; exact yes; rfl; rfl; intro hcond; omega
        apply OL.op; exact Guard.none; rfl; rfl; apply Pev.load_keptA; rfl; exact yes; exact .tail _ (.tail _ (.head _)); rfl; intro hcond; assumption; rfl; intro hcond; (rw [add_block]; assumption); intro hcond; exact NotOwned.nil
        apply OL.alloc; rfl; rfl; exact CellsL.agg; (intro bk hbk; simp only [AllLe, and_true] at hbk)
        apply oas; rfl; rfl
        apply OL.storeB; rfl; rfl; exact CellsL.agg; rfl; rfl; rfl; apply Swap.z; apply Put.here; apply Over.cons; apply Over.cons; apply Over.cons; apply Over.nil
        apply OL.nil
        with_reducible apply At.next
        apply W.seq
        apply W.regd0; decide +kernel; kernel_rfl; decide +kernel; exact fun w hw => hw.drew
        apply qmv; rfl; rfl
        apply qmv; rfl; rfl
        apply QL.op; exact Guard.none; rfl; rfl; apply Pev.idx; rfl; exact yes; rfl; exact yes; rfl; rfl; intro hcond; omega
        apply QL.op; exact Guard.none; rfl; rfl; apply Pev.fldA; rfl; exact yes; rfl
        apply QL.op; exact Guard.none; rfl; rfl; apply Pev.load_kept; rfl; exact yes; exact .tail _ (.head _); rfl; intro hcond; apply CellsAt.at_ (by assumption) rfl; intro hcond; (simp only [add_block]; assumption); intro hcond; simp only [add_block]; refine NotOwned.blk (by omega) ?_; exact NotOwned.nil
        apply qfa; rfl; rfl; rfl
        apply qld; rfl; rfl; exact .head _; rfl; rfl
        apply qbn; rfl; rfl; rfl; apply Bin.str_neq
        apply qmv; rfl; rfl
        apply QL.op; exact Guard.no rfl rfl; rfl; rfl; apply Pev.move; rfl; exact yes
        apply QL.op; exact Guard.no rfl rfl; rfl; rfl; apply Pev.move; rfl; exact yes
        apply QL.op; exact Guard.no rfl rfl; rfl; rfl; apply Pev.idx; rfl; exact fun h => h; rfl; exact fun h => h; rfl; rfl; intro hcond; omega
        apply QL.op; exact Guard.no rfl rfl; rfl; rfl; apply Pev.fldA; rfl; exact fun h => h; rfl
        apply QL.op; exact Guard.no rfl rfl; rfl; rfl; apply Pev.load_kept; rfl; exact fun h => h; exact .tail _ (.head _); rfl; intro hcond; apply CellsAt.at_ (by assumption) rfl; intro hcond; (simp only [add_block]; assumption); intro hcond; simp only [add_block]; refine NotOwned.blk (by omega) ?_; exact NotOwned.nil
        apply QL.op; exact Guard.no rfl rfl; rfl; rfl; apply Pev.move; rfl; exact yes
        apply QL.op; exact Guard.no rfl rfl; rfl; rfl; apply Pev.move; rfl; exact yes
        apply QL.op; exact Guard.no rfl rfl; rfl; rfl; apply Pev.idx; rfl; exact fun h => h; rfl; exact fun h => h; rfl; rfl; intro hcond; omega
        apply QL.op; exact Guard.no rfl rfl; rfl; rfl; apply Pev.load_kept; rfl; exact fun h => h; exact .head _; rfl; intro hcond; assumption; intro hcond; (rw [add_block]; assumption); intro hcond; simp only [add_block]; refine NotOwned.blk (by omega) ?_; exact NotOwned.nil
        (((first | (with_reducible apply OL.op) | (with_reducible apply QL.op)); ((first | exact Guard.none | exact Guard.yes rfl rfl | exact Guard.no rfl rfl | exact Guard.cyes rfl rfl | exact Guard.cno rfl rfl)); rfl; rfl); (exact Pev.call (v := .bool true) rfl (by (repeat (first | exact Args.nil | (apply Args.cons rfl; ((first | exact fun _ => rfl | exact fun h => h | (intro h; simp_all; done))))))) (fun _ w5 hw5 => (IEqual_calls kr.q s.q kr.cap s.cap kr.xs kr.xs w5 hkl hkl (hke.keep (hw5.below (s := w2) (by (repeat (first | exact List.Mem.head _ | apply List.Mem.tail))) (Nat.le_refl _) (fun k hk => by (focus ((try simp only [add_block]); (repeat (first | exact NotOwned.nil | exact hno _ (by omega) | refine NotOwned.nothing ?_ | refine NotOwned.nds (hlow _ (by omega)) ?_ | refine NotOwned.mapS (by omega) ?_ | apply NotOwned.bif | refine NotOwned.blk (by omega) ?_ | refine NotOwned.row (by omega) ?_ | refine NotOwned.grid (by assumption) (by omega) ?_ | refine NotOwned.pile (by omega) ?_)); done)))) (hw5.kp w2 (by (repeat (first | exact List.Mem.head _ | apply List.Mem.tail)))).size) (hse.keep (hw5.below (s := w4) (by (repeat (first | exact List.Mem.head _ | apply List.Mem.tail))) (Nat.le_refl _) (fun k hk => by (focus ((try simp only [add_block]); (repeat (first | exact NotOwned.nil | exact hno _ (by omega) | refine NotOwned.nothing ?_ | refine NotOwned.nds (hlow _ (by omega)) ?_ | refine NotOwned.mapS (by omega) ?_ | apply NotOwned.bif | refine NotOwned.blk (by omega) ?_ | refine NotOwned.row (by omega) ?_ | refine NotOwned.grid (by assumption) (by omega) ?_ | refine NotOwned.pile (by omega) ?_)); done)))) (hw5.kp w4 (by (repeat (first | exact List.Mem.head _ | apply List.Mem.tail)))).size)).mono (fun e w6 h => ⟨by rw [h.1]; simp, hw5.ext h.2⟩))))
        apply QL.op; exact Guard.no rfl rfl; rfl; rfl; apply Pev.not; rfl; exact fun h => h
        apply QL.op; exact Guard.none; rfl; rfl; apply Pev.pick_or; rfl; exact yes; rfl; exact fun h => h
        apply QL.nil
        with_reducible apply At.next
        refine W.cond rfl (fun hb => by simp at hb) (fun _ => ?_)
        apply W.skip
        with_reducible apply At.in_normal
        with_reducible apply At.next
        apply W.reg
        apply obn; rfl; rfl; rfl; apply Bin.add_in; omega
        apply omv; rfl; rfl
        apply OL.nil
        exact At.again (i + 1) (by omega) (by omega) (by (repeat (first | exact Sub.nil | apply Sub.cons rfl | (refine Sub.cons_eq rfl (congrArg (Value.int .i64) (by first | omega | (simp only; omega))) ?_)))) (fun w' hw' => hw'.thin (by (repeat (first | exact Thin.nil | exact Thin.same | apply Thin.keep | (refine Thin.blk (by assumption) ?_) | (refine Thin.blk (by simp only [AllLe, and_true]; omega) ?_)))))
      · apply W.exit
        with_reducible apply At.then_exit
        with_reducible apply At.then_exit
        with_reducible apply At.in_exit
        with_reducible apply At.next
        apply W.seq
        apply W.reg
        apply oas; rfl; rfl
        apply OL.nil
        with_reducible apply At.next
        apply W.ret
        ((with_reducible apply At.fin1); rfl; rfl; intro w' hw')
        exact ⟨rfl, by (exact hw'.toExt (by (repeat (first | exact List.Mem.head _ | apply List.Mem.tail))) (fun k hk => by (focus ((try simp only [add_block]); (repeat (first | exact NotOwned.nil | exact hno _ (by omega) | refine NotOwned.nothing ?_ | refine NotOwned.nds (hlow _ (by omega)) ?_ | refine NotOwned.mapS (by omega) ?_ | apply NotOwned.bif | refine NotOwned.blk (by omega) ?_ | refine NotOwned.row (by omega) ?_ | refine NotOwned.grid (by assumption) (by omega) ?_ | refine NotOwned.pile (by omega) ?_)); done))))⟩
end Go.Proofs.YtaponemcbnnebaaDoor.ki
