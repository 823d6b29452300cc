/- The walk of core's nodeError. Conditions: none. -/
import Derived.Test.YtlboppiogeaicaaDoorCoB
namespace Go.Proofs.YtlboppiogeaicaaDoor.co
open Go.RowKit Go.Eng Go.Co
set_option linter.unusedVariables false
set_option linter.unusedSimpArgs false
set_option maxRecDepth 100000
theorem getx_calls (es : List (Ex × ExY)) (q : Option Addr) (cap b : Nat) (k : Int) (p : Ex × ExY) (w : World) (he : Arr exR w (low w) es q) (hk : 0 ≤ k) (hp : es[k.toNat]? = some p) (hlen : es.length ≤ 4096) (hc : w.cell? ⟨b, 0, none⟩ = some (.slice q es.length cap)) (hb : b < w.heap.size) :
    Calls Tryd.prog 68 [.int .i64 k, .pointer (some ⟨b, 0, none⟩)].toArray w fun e w' => e = .returned (.agg (exC p.1 p.2).toArray) ∧ Ext w w' := by
  have hkl := (List.getElem?_eq_some_iff.1 hp).1
  obtain ⟨a, p', rfl, hab, hp', hcell, hok⟩ := he.get hkl
  rw [hp] at hp'
  obtain rfl := Option.some.inj hp'
  have hab : a.block < w.heap.size := hab
  have hkk : ((k.toNat : Nat) : Int) = k := by omega
  generalize k.toNat = m at *
  subst hkk
  have hcell : CellsAt w (a.add (m * 5)) [.int .i64 p.1.op, .int .i64 p.1.n, .slice p.2.b.1 p.1.binds.length p.2.b.2, .slice p.2.k.1 p.1.kids.length p.2.k.2, .slice p.2.a.1 p.1.alts.length p.2.a.2] := hcell
  refine enter Tryd.func68 rfl Tryd.ntmps68 rfl (Cls.start w) ?_
  (simp only [argEnv, Nat.zero_add, Nat.reduceAdd])
  apply W.seq
  apply W.reg
  apply OL.alloc; rfl; rfl; exact CellsL.agg; (intro bk hbk; simp only [AllLe, and_true] at hbk)
  apply OL.nil
  with_reducible apply At.next
  apply W.seq
  apply W.reg
  apply OL.op; exact Guard.none; rfl; rfl; apply Pev.load_kept; rfl; exact yes; exact .head _; rfl; intro hcond; assumption; intro hcond; assumption; intro hcond; simp only [add_block]; refine NotOwned.blk (by omega) ?_; exact NotOwned.nil
  apply omv; rfl; rfl
  apply OL.op; exact Guard.none; rfl; rfl; apply Pev.idx; rfl; exact yes; rfl; exact yes; rfl; rfl; intro hcond; omega
  apply OL.op; exact Guard.none; rfl; rfl; apply Pev.load_keptA; rfl; exact yes; exact .head _; rfl; intro hcond; assumption; rfl; intro hcond; (rw [add_block]; assumption); intro hcond; simp only [add_block]; refine NotOwned.blk (by omega) ?_; exact NotOwned.nil
  apply OL.storeB; rfl; rfl; exact CellsL.agg; rfl; rfl; rfl; apply Swap.z; apply Put.here; apply Over.cons; apply Over.cons; apply Over.cons; apply Over.cons; apply Over.cons; apply Over.nil
  apply OL.nil
  with_reducible apply At.next
  apply W.ret
  ((with_reducible apply At.finC); rfl; rfl; ((repeat (first | exact List.Mem.head _ | apply List.Mem.tail))); rfl; rfl; intro w' hw')
  exact ⟨rfl, by (exact hw'.toExt (by (repeat (first | exact List.Mem.head _ | apply List.Mem.tail))) (fun k hk => by (focus ((try simp only [add_block]); (repeat (first | exact NotOwned.nil | exact hno _ (by omega) | refine NotOwned.nothing ?_ | refine NotOwned.nds (hlow _ (by omega)) ?_ | refine NotOwned.mapS (by omega) ?_ | apply NotOwned.bif | refine NotOwned.blk (by omega) ?_ | refine NotOwned.row (by omega) ?_ | refine NotOwned.grid (by assumption) (by omega) ?_ | refine NotOwned.pile (by omega) ?_ | refine NotOwned.pool (by omega) ?_ | refine NotOwned.mapI (by omega) ?_ | refine NotOwned.mapX (by omega) ?_ | refine NotOwned.itI (by omega) ?_)); done))))⟩
theorem nodeError_calls (es : List (Ex × ExY)) (q : Option Addr) (cap b : Nat) (x : Ex) (y : ExY) (w : World) (h : ExOk w (low w) x y) (hg : 1 < w.heap.size) (hs : arityAt w)
    (he : Arr exR w (low w) es q) (hlen : es.length ≤ 4096) (hc : w.cell? ⟨b, 0, none⟩ = some (.slice q es.length cap)) (hb : b < w.heap.size) (hkd : ∀ k ∈ x.kids, 0 ≤ k ∧ k < (es.length : Int)) :
    Calls Tryd.prog 67 [.agg (exC x y).toArray, .func (.func 68) #[] #[.pointer (some ⟨b, 0, none⟩)]].toArray w fun e w' => e = .returned (.int .i64 (nodeE (es.map Prod.fst) x)) ∧ Ext w w' := by
  have hal := h.al
  have hkl := h.kl
  have hbl := h.bl
  refine enter Tryd.func67 rfl Tryd.ntmps67 rfl (Cls.start w) ?_
  (simp only [argEnv, Nat.zero_add, Nat.reduceAdd])
  simp only [exC]
  apply W.seq
  apply W.reg
  apply OL.box; rfl; rfl; exact CellsL.agg; (intro bk hbk; simp only [AllLe, and_true] at hbk)
  apply oas; rfl; rfl
  apply OL.nil
  with_reducible apply At.next
  apply W.seq
  apply W.seq
  apply W.reg
  apply OL.op; exact Guard.none; rfl; rfl; apply Pev.load_blkA; rfl; exact yes; exact .head _; rfl; apply Take.succ; apply Take.succ; apply Take.succ; apply Take.succ; apply Take.succ; apply Take.zero
  (((first | (with_reducible apply OL.op) | (with_reducible apply QL.op)); ((first | exact Guard.none | exact Guard.yes rfl rfl | exact Guard.no rfl rfl | exact Guard.cyes rfl rfl | exact Guard.cno rfl rfl)); rfl; rfl); (exact Pev.call rfl (by (repeat (first | exact Args.nil | (apply Args.cons rfl; ((first | exact fun _ => rfl | exact fun h => h | (intro h; simp_all; done))))))) (fun _ w2 hw2 => (shape_calls x y w2 (h.at hw2 (by (repeat (first | exact List.Mem.head _ | apply List.Mem.tail))) (fun k hk => by (focus ((try simp only [add_block]); (repeat (first | exact NotOwned.nil | exact hno _ (by omega) | refine NotOwned.nothing ?_ | refine NotOwned.nds (hlow _ (by omega)) ?_ | refine NotOwned.mapS (by omega) ?_ | apply NotOwned.bif | refine NotOwned.blk (by omega) ?_ | refine NotOwned.row (by omega) ?_ | refine NotOwned.grid (by assumption) (by omega) ?_ | refine NotOwned.pile (by omega) ?_ | refine NotOwned.pool (by omega) ?_ | refine NotOwned.mapI (by omega) ?_ | refine NotOwned.mapX (by omega) ?_ | refine NotOwned.itI (by omega) ?_)); done)))) (Nat.lt_of_lt_of_le hg (hw2.kp w (by (repeat (first | exact List.Mem.head _ | apply List.Mem.tail)))).size) (hs.at hg hw2 (by (repeat (first | exact List.Mem.head _ | apply List.Mem.tail))) (fun k hk => by (focus ((try simp only [add_block]); (repeat (first | exact NotOwned.nil | exact hno _ (by omega) | refine NotOwned.nothing ?_ | refine NotOwned.nds (hlow _ (by omega)) ?_ | refine NotOwned.mapS (by omega) ?_ | apply NotOwned.bif | refine NotOwned.blk (by omega) ?_ | refine NotOwned.row (by omega) ?_ | refine NotOwned.grid (by assumption) (by omega) ?_ | refine NotOwned.pile (by omega) ?_ | refine NotOwned.pool (by omega) ?_ | refine NotOwned.mapI (by omega) ?_ | refine NotOwned.mapX (by omega) ?_ | refine NotOwned.itI (by omega) ?_)); done))))).mono (fun e w3 h => ⟨h.1, hw2.ext h.2⟩))))
  apply OL.op; exact Guard.none; rfl; rfl; apply Pev.not; rfl; exact yes
  apply OL.nil
  with_reducible apply At.next
  (refine W.cond rfl (fun hsh => ?_) (fun hsh => ?_)) <;> (try (simp only [Bool.and_eq_true, Bool.or_eq_true, Bool.not_eq_true', Bool.and_eq_false_iff, Bool.or_eq_false_iff, Bool.not_eq_false', decide_eq_true_eq, decide_eq_false_iff_not, Int.not_lt, Int.not_le] at hsh)) <;> (try (exfalso; first | omega | exact hsh trivial | contradiction))
  · apply W.seq
    apply W.reg
    apply oas; rfl; rfl
    apply OL.nil
    with_reducible apply At.next
    apply W.ret
    with_reducible apply At.then_ret
    ((with_reducible apply At.fin1); rfl; rfl; intro w' hw')
    refine ⟨?_, by (exact hw'.toExt (by (repeat (first | exact List.Mem.head _ | apply List.Mem.tail))) (fun k hk => by (focus ((try simp only [add_block]); (repeat (first | exact NotOwned.nil | exact hno _ (by omega) | refine NotOwned.nothing ?_ | refine NotOwned.nds (hlow _ (by omega)) ?_ | refine NotOwned.mapS (by omega) ?_ | apply NotOwned.bif | refine NotOwned.blk (by omega) ?_ | refine NotOwned.row (by omega) ?_ | refine NotOwned.grid (by assumption) (by omega) ?_ | refine NotOwned.pile (by omega) ?_ | refine NotOwned.pool (by omega) ?_ | refine NotOwned.mapI (by omega) ?_ | refine NotOwned.mapX (by omega) ?_ | refine NotOwned.itI (by omega) ?_)); done))))⟩
    unfold nodeE
    rw [if_pos (by simpa using hsh)]
  apply W.skip
  with_reducible apply At.next
  apply W.seq
  apply W.seq
  apply W.reg
  apply OL.op; exact Guard.none; rfl; rfl; apply Pev.load_blkA; rfl; exact yes; exact .head _; rfl; apply Take.succ; apply Take.succ; apply Take.succ; apply Take.succ; apply Take.succ; apply Take.zero
  (((first | (with_reducible apply OL.op) | (with_reducible apply QL.op)); ((first | exact Guard.none | exact Guard.yes rfl rfl | exact Guard.no rfl rfl | exact Guard.cyes rfl rfl | exact Guard.cno rfl rfl)); rfl; rfl); (exact Pev.call rfl (by (repeat (first | exact Args.nil | (apply Args.cons rfl; ((first | exact fun _ => rfl | exact fun h => h | (intro h; simp_all; done))))))) (fun _ w2 hw2 => (ranges_calls x y w2 (h.at hw2 (by (repeat (first | exact List.Mem.head _ | apply List.Mem.tail))) (fun k hk => by (focus ((try simp only [add_block]); (repeat (first | exact NotOwned.nil | exact hno _ (by omega) | refine NotOwned.nothing ?_ | refine NotOwned.nds (hlow _ (by omega)) ?_ | refine NotOwned.mapS (by omega) ?_ | apply NotOwned.bif | refine NotOwned.blk (by omega) ?_ | refine NotOwned.row (by omega) ?_ | refine NotOwned.grid (by assumption) (by omega) ?_ | refine NotOwned.pile (by omega) ?_ | refine NotOwned.pool (by omega) ?_ | refine NotOwned.mapI (by omega) ?_ | refine NotOwned.mapX (by omega) ?_ | refine NotOwned.itI (by omega) ?_)); done))))).mono (fun e w3 h => ⟨h.1, hw2.ext h.2⟩))))
  apply oas; rfl; rfl
  apply OL.nil
  with_reducible apply At.next
  apply W.seq
  apply W.reg
  apply omv; rfl; rfl
  apply obn; rfl; rfl; rfl; apply Bin.neq
  apply OL.nil
  with_reducible apply At.next
  (refine W.cond rfl (fun hra => ?_) (fun hra => ?_)) <;> (try (simp only [Bool.and_eq_true, Bool.or_eq_true, Bool.not_eq_true', Bool.and_eq_false_iff, Bool.or_eq_false_iff, Bool.not_eq_false', decide_eq_true_eq, decide_eq_false_iff_not, Int.not_lt, Int.not_le] at hra)) <;> (try (exfalso; first | omega | exact hra trivial | contradiction))
  · apply W.seq
    apply W.reg
    apply omv; rfl; rfl
    apply oas; rfl; rfl
    apply OL.nil
    with_reducible apply At.next
    apply W.ret
    with_reducible apply At.then_ret
    ((with_reducible apply At.fin1); rfl; rfl; intro w' hw')
    refine ⟨?_, by (exact hw'.toExt (by (repeat (first | exact List.Mem.head _ | apply List.Mem.tail))) (fun k hk => by (focus ((try simp only [add_block]); (repeat (first | exact NotOwned.nil | exact hno _ (by omega) | refine NotOwned.nothing ?_ | refine NotOwned.nds (hlow _ (by omega)) ?_ | refine NotOwned.mapS (by omega) ?_ | apply NotOwned.bif | refine NotOwned.blk (by omega) ?_ | refine NotOwned.row (by omega) ?_ | refine NotOwned.grid (by assumption) (by omega) ?_ | refine NotOwned.pile (by omega) ?_ | refine NotOwned.pool (by omega) ?_ | refine NotOwned.mapI (by omega) ?_ | refine NotOwned.mapX (by omega) ?_ | refine NotOwned.itI (by omega) ?_)); done))))⟩
    unfold nodeE
    rw [if_neg (by simpa using hsh), if_pos hra]
  have hn0 : nodeE (es.map Prod.fst) x = if kidsB (es.map Prod.fst) x = false then 3 else 0 := by
    unfold nodeE
    rw [if_neg (by simpa using hsh), if_neg (by simpa using hra)]
  have hsh1 : shapeB x = true := by simpa using hsh
  have hk5 : x.op = 5 → x.kids.length = x.binds.length + 1 := fun h5 => by
    have := hsh1
    unfold shapeB sh at this
    simp [h5] at this
    exact this.1.1.1
  apply W.skip
  with_reducible apply At.next
  apply W.seq
  apply W.seq
  apply W.reg
  apply ofa; rfl; rfl; rfl
  apply old; rfl; rfl; exact .head _; rfl; rfl
  apply OL.op; exact Guard.none; rfl; rfl; apply Pev.len_slice; rfl; exact yes; rfl
  apply omv; rfl; rfl
  apply OL.nil
  with_reducible apply At.next
  apply W.block
  refine W.loop (G := Nat) (fun i => i ≤ x.binds.length ∧ ∀ j, j < i → bindOk (es.map Prod.fst) x j = true) (fun i => x.binds.length - i)
    (fun i => [(1, true, .func (.func 68) #[] #[.pointer (some ⟨b, 0, none⟩)]), (2, true, .pointer (some ⟨bk, 0, none⟩)), (17, true, .int .i64 (x.binds.length : Int)), (18, true, .int .i64 (i : Int))])
    (fun _ => Cls [blk bk 28 [.int .i64 x.op, .int .i64 x.n, .slice y.b.1 x.binds.length y.b.2, .slice y.k.1 x.kids.length y.k.2, .slice y.a.1 x.alts.length y.a.2]] [w]) 0 ⟨by omega, fun j hj => by omega⟩ (by (repeat (first | exact Sub.nil | apply Sub.cons rfl | (refine Sub.cons_eq rfl (congrArg (Value.int .i64) (by first | omega | (simp only; omega))) ?_)))) (fun w' hw' => hw') ?_
  rintro i ⟨hi, hall⟩
  apply W.seq
  apply W.reg
  apply obn; rfl; rfl; rfl; apply Bin.lss
  apply OL.nil
  with_reducible apply At.next
  apply W.seq
  (refine W.cond rfl (fun hlt => ?_) (fun hlt => ?_)) <;> (try (simp only [Bool.and_eq_true, Bool.or_eq_true, Bool.not_eq_true', Bool.and_eq_false_iff, Bool.or_eq_false_iff, Bool.not_eq_false', decide_eq_true_eq, decide_eq_false_iff_not, Int.not_lt, Int.not_le] at hlt)) <;> (try (exfalso; first | omega | exact hlt trivial | contradiction))
  · have hil : i < x.binds.length := by omega
    have hbad : bindOk (es.map Prod.fst) x i = false → nodeE (es.map Prod.fst) x = 3 := fun hf => by
      rw [hn0, if_pos]
      unfold kidsB
      exact not_all_range hil hf
    have hagain : bindOk (es.map Prod.fst) x i = true → ∀ j, j < i + 1 → bindOk (es.map Prod.fst) x j = true := fun hf j hj => by
      by_cases e : j = i
      · rw [e]; exact hf
      · exact hall j (by omega)
    by_cases h5 : x.op = 5
    · have hkl5 := hk5 h5
      obtain ⟨ak, kv, hqk, habk, hkv, hck⟩ := h.k.get (i := i) (by omega)
      have habk : ak.block < w.heap.size := habk
      have hkr := hkd kv (List.mem_of_getElem? hkv)
      obtain ⟨p, hp⟩ : ∃ p, es[kv.toNat]? = some p := ⟨_, List.getElem?_eq_getElem (by omega)⟩
      rw [hqk]
      have hbk : bindOk (es.map Prod.fst) x i = decide (p.1.op = 2) := by
        have e1 : x.kids.getD i 0 = kv := by simp [List.getD, hkv]
        have e2 : (es.map Prod.fst).getD kv.toNat ⟨0, 0, [], [], []⟩ = p.1 := by simp [List.getD, hp]
        unfold bindOk
        rw [e1, e2]
        grind
      have hcall : ∀ (H : List Eng.Item) (w2 : World), (∀ k, k < w.heap.size → NotOwned H k) → Cls H [w] w2 → Calls Tryd.prog 68 [.int .i64 kv, .pointer (some ⟨b, 0, none⟩)].toArray w2 fun e w' => e = .returned (.agg (exC p.1 p.2).toArray) ∧ Cls H [w] w' := fun H w2 hno hw2 =>
        (getx_calls es q cap b kv p w2 (he.at hw2 (.head _) hno) hkr.1 hp hlen (by rw [hw2.cell (.head _) hb (hno _ hb)]; exact hc) (Nat.lt_of_lt_of_le hb (hw2.kp w (.head _)).size)).mono fun e w3 h => ⟨h.1, hw2.ext h.2⟩
      simp only [exC] at hcall
      apply W.skip
      with_reducible apply At.next
      apply W.seq
      apply W.block
      apply W.seq
      apply W.reg
      apply omv; rfl; rfl
      apply oas; rfl; rfl
      apply OL.nil
      with_reducible apply At.next
      apply W.seq
      apply W.regd0; decide +kernel; kernel_rfl; decide +kernel; exact fun w hw => hw.drew
      apply qfa; rfl; rfl; rfl
      apply qld; rfl; rfl; exact .head _; rfl; rfl
      apply qbn; rfl; rfl; rfl; apply Bin.eql
      apply qmv; rfl; rfl
      apply QL.op; exact Guard.yes rfl rfl; rfl; rfl; apply Pev.move; rfl; exact yes
      apply QL.op; exact Guard.yes rfl rfl; rfl; rfl; apply Pev.fld; rfl; exact yes; rfl
      apply QL.op; exact Guard.yes rfl rfl; rfl; rfl; apply Pev.load_blk; rfl; exact fun h => h; exact .head _; rfl; rfl
      apply QL.op; exact Guard.yes rfl rfl; rfl; rfl; apply Pev.move; rfl; exact yes
      apply QL.op; exact Guard.yes rfl rfl; rfl; rfl; apply Pev.idx; rfl; exact fun h => h; rfl; exact fun h => h; rfl; rfl; intro hcond; omega
      apply QL.op; exact Guard.yes rfl rfl; rfl; rfl; apply Pev.load_kept; rfl; exact fun h => h; exact .head _; rfl; intro hcond; assumption; intro hcond; (rw [add_block]; assumption); intro hcond; simp only [add_block]; refine NotOwned.blk (by omega) ?_; exact NotOwned.nil
      (((first | (with_reducible apply OL.op) | (with_reducible apply QL.op)); ((first | exact Guard.none | exact Guard.yes rfl rfl | exact Guard.no rfl rfl | exact Guard.cyes rfl rfl | exact Guard.cno rfl rfl)); rfl; rfl); (apply Pev.callv (first := []) (cap := [.pointer (some ⟨b, 0, none⟩)])); rfl; ((first | exact fun _ => rfl | exact fun h => h | (intro h; simp_all; done))); rfl; ((repeat (first | exact Args.nil | (apply Args.cons rfl; ((first | exact fun _ => rfl | exact fun h => h | (intro h; simp_all; done))))))); (exact (fun _ w2 hw2 => hcall _ w2 (fun k hk => by (focus ((try simp only [add_block]); (repeat (first | exact NotOwned.nil | exact hno _ (by omega) | refine NotOwned.nothing ?_ | refine NotOwned.nds (hlow _ (by omega)) ?_ | refine NotOwned.mapS (by omega) ?_ | apply NotOwned.bif | refine NotOwned.blk (by omega) ?_ | refine NotOwned.row (by omega) ?_ | refine NotOwned.grid (by assumption) (by omega) ?_ | refine NotOwned.pile (by omega) ?_ | refine NotOwned.pool (by omega) ?_ | refine NotOwned.mapI (by omega) ?_ | refine NotOwned.mapX (by omega) ?_ | refine NotOwned.itI (by omega) ?_)); done))) hw2)))
      apply QL.op; exact Guard.yes rfl rfl; rfl; rfl; apply Pev.field; rfl; exact fun h => h; rfl; rfl
      apply QL.op; exact Guard.yes rfl rfl; rfl; rfl; apply Pev.bin; rfl; exact fun h => h; rfl; exact yes; intro hcond; apply Bin.neq
      apply QL.op; exact Guard.none; rfl; rfl; apply Pev.pick_and; rfl; exact yes; rfl; exact fun h => h
      apply qmv; rfl; rfl
      apply QL.op; exact Guard.no rfl rfl; rfl; rfl; apply Pev.fld; rfl; exact yes; rfl
      apply QL.op; exact Guard.no rfl rfl; rfl; rfl; apply Pev.load_blk; rfl; exact fun h => h; exact .head _; rfl; rfl
      apply QL.op; exact Guard.no rfl rfl; rfl; rfl; apply Pev.bin; rfl; exact fun h => h; rfl; exact yes; intro hcond; apply Bin.eql
      apply QL.op; exact Guard.no rfl rfl; rfl; rfl; apply Pev.move; rfl; exact fun h => h
      apply QL.op; exact Guard.cyes rfl rfl; rfl; rfl; apply Pev.move; rfl; exact yes
      apply QL.op; exact Guard.cyes rfl rfl; rfl; rfl; apply Pev.bin; rfl; exact fun h => h; rfl; exact yes; intro hcond; apply Bin.gtr
      apply QL.op; exact Guard.no rfl rfl; rfl; rfl; apply Pev.pick_and; rfl; exact fun h => h; rfl; exact fun h => h
      apply QL.op; exact Guard.no rfl rfl; rfl; rfl; apply Pev.move; rfl; exact fun h => h
      apply QL.op; exact Guard.cyes rfl rfl; rfl; rfl; apply Pev.fld; rfl; exact yes; rfl
      apply QL.op; exact Guard.cyes rfl rfl; rfl; rfl; apply Pev.load_blk; rfl; exact fun h => h; exact .head _; rfl; rfl
      apply QL.op; exact Guard.cyes rfl rfl; rfl; rfl; apply Pev.move; rfl; exact yes
      apply QL.op; exact Guard.cyes rfl rfl; rfl; rfl; apply Pev.bin; rfl; exact fun h => h; rfl; exact yes; intro hcond; apply Bin.sub_in; omega
      apply QL.gateOff; exact Guard.cyes rfl rfl; (simp; omega); rfl
      apply QL.gateOff; exact Guard.cyes rfl rfl; (simp; omega); rfl
      apply QL.op; exact Guard.cyes rfl rfl; rfl; rfl; apply Pev.fld; rfl; exact yes; rfl
      apply QL.op; exact Guard.cyes rfl rfl; rfl; rfl; apply Pev.load_blk; rfl; exact fun h => h; exact .head _; rfl; rfl
      apply QL.op; exact Guard.cyes rfl rfl; rfl; rfl; apply Pev.move; rfl; exact yes
      apply QL.gateOff; exact Guard.cyes rfl rfl; (simp; omega); rfl
      apply QL.gateOff; exact Guard.cyes rfl rfl; (simp; omega); rfl
      apply QL.gateOff; exact Guard.cyes rfl rfl; (simp; omega); rfl
      apply QL.op; exact Guard.no rfl rfl; rfl; rfl; apply Pev.pick_off; rfl; exact fun h => h; (intro hcond; simp; omega); rfl; exact yes
      apply QL.op; exact Guard.none; rfl; rfl; apply Pev.pick_or; rfl; exact yes; rfl; exact fun h => h
      apply QL.nil
      with_reducible apply At.next
      refine W.cond rfl (fun hb => ?_) (fun hb => ?_)
      · apply W.seq
        apply W.reg
        apply oas; rfl; rfl
        apply OL.nil
        with_reducible apply At.next
        apply W.ret
        with_reducible apply At.in_ret
        with_reducible apply At.then_ret
        with_reducible apply At.then_ret
        with_reducible apply At.in_ret
        with_reducible apply At.then_ret
        ((with_reducible apply At.fin1); rfl; rfl; intro w' hw')
        exact ⟨by rw [hbad (by rw [hbk]; grind)], by (exact hw'.toExt (by (repeat (first | exact List.Mem.head _ | apply List.Mem.tail))) (fun k hk => by (focus ((try simp only [add_block]); (repeat (first | exact NotOwned.nil | exact hno _ (by omega) | refine NotOwned.nothing ?_ | refine NotOwned.nds (hlow _ (by omega)) ?_ | refine NotOwned.mapS (by omega) ?_ | apply NotOwned.bif | refine NotOwned.blk (by omega) ?_ | refine NotOwned.row (by omega) ?_ | refine NotOwned.grid (by assumption) (by omega) ?_ | refine NotOwned.pile (by omega) ?_ | refine NotOwned.pool (by omega) ?_ | refine NotOwned.mapI (by omega) ?_ | refine NotOwned.mapX (by omega) ?_ | refine NotOwned.itI (by omega) ?_)); done))))⟩
      · apply W.skip
        with_reducible apply At.in_normal
        with_reducible apply At.next
        apply W.reg
        apply obn; rfl; rfl; rfl; apply Bin.add_in; omega
        apply omv; rfl; rfl
        apply OL.nil
        exact At.again (i + 1) ⟨by omega, hagain (by first | exact hbk | (rw [hbk]; grind))⟩ (by omega) (by (repeat (first | exact Sub.nil | apply Sub.cons rfl | (refine Sub.cons_eq rfl (congrArg (Value.int .i64) (by first | omega | (simp only; omega))) ?_)))) (fun w' hw' => hw')
    · by_cases h9 : x.op = 9
      · obtain ⟨ab, vi, hqb, habb, hvi, hci⟩ := h.b.get hil
        have habb : ab.block < w.heap.size := habb
        have e1 : x.binds.getD i 0 = vi := by simp [List.getD, hvi]
        by_cases hi0 : i = 0
        · subst hi0
          have hbk : bindOk (es.map Prod.fst) x 0 = true := by unfold bindOk; grind
          apply W.skip
          with_reducible apply At.next
          apply W.seq
          apply W.block
          apply W.seq
          apply W.reg
          apply omv; rfl; rfl
          apply oas; rfl; rfl
          apply OL.nil
          with_reducible apply At.next
          apply W.seq
          apply W.regd0; decide +kernel; kernel_rfl; decide +kernel; exact fun w hw => hw.drew
          apply qfa; rfl; rfl; rfl
          apply qld; rfl; rfl; exact .head _; rfl; rfl
          apply qbn; rfl; rfl; rfl; apply Bin.eql
          apply qmv; rfl; rfl
          apply QL.op; exact Guard.yes rfl rfl; rfl; rfl; apply Pev.move; rfl; exact yes
          apply QL.op; exact Guard.yes rfl rfl; rfl; rfl; apply Pev.fld; rfl; exact yes; rfl
          apply QL.op; exact Guard.yes rfl rfl; rfl; rfl; apply Pev.load_blk; rfl; exact fun h => h; exact .head _; rfl; rfl
          apply QL.op; exact Guard.yes rfl rfl; rfl; rfl; apply Pev.move; rfl; exact yes
          apply QL.gateOff; exact Guard.yes rfl rfl; (simp; omega); rfl
          apply QL.gateOff; exact Guard.yes rfl rfl; (simp; omega); rfl
          apply QL.gateOff; exact Guard.yes rfl rfl; (simp; omega); rfl
          apply QL.gateOff; exact Guard.yes rfl rfl; (simp; omega); rfl
          apply QL.gateOff; exact Guard.yes rfl rfl; (simp; omega); rfl
          apply QL.op; exact Guard.none; rfl; rfl; apply Pev.pick_off; rfl; exact yes; (intro hcond; simp; omega); rfl; exact yes
          apply qmv; rfl; rfl
          apply QL.op; exact Guard.no rfl rfl; rfl; rfl; apply Pev.fld; rfl; exact yes; rfl
          apply QL.op; exact Guard.no rfl rfl; rfl; rfl; apply Pev.load_blk; rfl; exact yes; exact .head _; rfl; rfl
          apply QL.op; exact Guard.no rfl rfl; rfl; rfl; apply Pev.bin; rfl; exact yes; rfl; exact yes; intro hcond; apply Bin.eql
          apply QL.op; exact Guard.no rfl rfl; rfl; rfl; apply Pev.move; rfl; exact yes
          apply QL.op; exact Guard.yes rfl rfl; rfl; rfl; apply Pev.move; rfl; exact yes
          apply QL.op; exact Guard.yes rfl rfl; rfl; rfl; apply Pev.bin; rfl; exact fun h => h; rfl; exact yes; intro hcond; apply Bin.gtr
          apply QL.op; exact Guard.no rfl rfl; rfl; rfl; apply Pev.pick_and; rfl; exact yes; rfl; exact fun h => h
          apply QL.op; exact Guard.no rfl rfl; rfl; rfl; apply Pev.move; rfl; exact yes
          apply QL.op; exact Guard.yes rfl rfl; rfl; rfl; apply Pev.fld; rfl; exact yes; rfl
          apply QL.op; exact Guard.yes rfl rfl; rfl; rfl; apply Pev.load_blk; rfl; exact fun h => h; exact .head _; rfl; rfl
          apply QL.op; exact Guard.yes rfl rfl; rfl; rfl; apply Pev.move; rfl; exact yes
          apply QL.op; exact Guard.yes rfl rfl; rfl; rfl; apply Pev.bin; rfl; exact fun h => h; rfl; exact yes; intro hcond; apply Bin.sub_in; omega
          apply QL.gateOff; exact Guard.yes rfl rfl; (focus (simp; done)); rfl
          apply QL.gateOff; exact Guard.yes rfl rfl; (focus (simp; done)); rfl
          apply QL.op; exact Guard.yes rfl rfl; rfl; rfl; apply Pev.fld; rfl; exact yes; rfl
          apply QL.op; exact Guard.yes rfl rfl; rfl; rfl; apply Pev.load_blk; rfl; exact fun h => h; exact .head _; rfl; rfl
          apply QL.op; exact Guard.yes rfl rfl; rfl; rfl; apply Pev.move; rfl; exact yes
          apply QL.gateOff; exact Guard.yes rfl rfl; (focus (simp; done)); rfl
          apply QL.gateOff; exact Guard.yes rfl rfl; (focus (simp; done)); rfl
          apply QL.gateOff; exact Guard.yes rfl rfl; (focus (simp; done)); rfl
          apply QL.op; exact Guard.no rfl rfl; rfl; rfl; apply Pev.pick_off; rfl; exact yes; (focus (intro hcond; simp; done)); rfl; exact yes
          apply QL.op; exact Guard.none; rfl; rfl; apply Pev.pick_or; rfl; exact yes; rfl; exact yes
          apply QL.nil
          with_reducible apply At.next
          refine W.cond rfl (fun hb => ?_) (fun hb => ?_)
          · apply W.seq
            apply W.reg
            apply oas; rfl; rfl
            apply OL.nil
            with_reducible apply At.next
            apply W.ret
            with_reducible apply At.in_ret
            with_reducible apply At.then_ret
            with_reducible apply At.then_ret
            with_reducible apply At.in_ret
            with_reducible apply At.then_ret
            ((with_reducible apply At.fin1); rfl; rfl; intro w' hw')
            exact ⟨by rw [hbad (by rw [hbk]; grind)], by (exact hw'.toExt (by (repeat (first | exact List.Mem.head _ | apply List.Mem.tail))) (fun k hk => by (focus ((try simp only [add_block]); (repeat (first | exact NotOwned.nil | exact hno _ (by omega) | refine NotOwned.nothing ?_ | refine NotOwned.nds (hlow _ (by omega)) ?_ | refine NotOwned.mapS (by omega) ?_ | apply NotOwned.bif | refine NotOwned.blk (by omega) ?_ | refine NotOwned.row (by omega) ?_ | refine NotOwned.grid (by assumption) (by omega) ?_ | refine NotOwned.pile (by omega) ?_ | refine NotOwned.pool (by omega) ?_ | refine NotOwned.mapI (by omega) ?_ | refine NotOwned.mapX (by omega) ?_ | refine NotOwned.itI (by omega) ?_)); done))))⟩
          · apply W.skip
            with_reducible apply At.in_normal
            with_reducible apply At.next
            apply W.reg
            apply obn; rfl; rfl; rfl; apply Bin.add_in; omega
            apply omv; rfl; rfl
            apply OL.nil
            exact At.again (0 + 1) ⟨by omega, hagain (by first | exact hbk | (rw [hbk]; grind))⟩ (by omega) (by (repeat (first | exact Sub.nil | apply Sub.cons rfl | (refine Sub.cons_eq rfl (congrArg (Value.int .i64) (by first | omega | (simp only; omega))) ?_)))) (fun w' hw' => hw')
        · obtain ⟨ab2, vm, hqb2, _, hvm, hcm⟩ := h.b.get (i := i - 1) (by omega)
          rw [hqb] at hqb2
          obtain rfl := Option.some.inj hqb2
          have e2 : x.binds.getD (i - 1) 0 = vm := by simp [List.getD, hvm]
          have hbk : bindOk (es.map Prod.fst) x i = decide (vm < vi) := by
            unfold bindOk
            rw [e1, e2]
            grind
          have hcm : w.cell? (ab.add (((i : Int) - 1).toNat * 1)) = some (.int .i64 vm) := by rw [show ((i : Int) - 1).toNat = i - 1 by omega]; exact hcm
          rw [hqb]
          apply W.skip
          with_reducible apply At.next
          apply W.seq
          apply W.block
          apply W.seq
          apply W.reg
          apply omv; rfl; rfl
          apply oas; rfl; rfl
          apply OL.nil
          with_reducible apply At.next
          apply W.seq
          apply W.regd0; decide +kernel; kernel_rfl; decide +kernel; exact fun w hw => hw.drew
          apply qfa; rfl; rfl; rfl
          apply qld; rfl; rfl; exact .head _; rfl; rfl
          apply qbn; rfl; rfl; rfl; apply Bin.eql
          apply qmv; rfl; rfl
          apply QL.op; exact Guard.yes rfl rfl; rfl; rfl; apply Pev.move; rfl; exact yes
          apply QL.op; exact Guard.yes rfl rfl; rfl; rfl; apply Pev.fld; rfl; exact yes; rfl
          apply QL.op; exact Guard.yes rfl rfl; rfl; rfl; apply Pev.load_blk; rfl; exact fun h => h; exact .head _; rfl; rfl
          apply QL.op; exact Guard.yes rfl rfl; rfl; rfl; apply Pev.move; rfl; exact yes
          apply QL.gateOff; exact Guard.yes rfl rfl; (simp; omega); rfl
          apply QL.gateOff; exact Guard.yes rfl rfl; (simp; omega); rfl
          apply QL.gateOff; exact Guard.yes rfl rfl; (simp; omega); rfl
          apply QL.gateOff; exact Guard.yes rfl rfl; (simp; omega); rfl
          apply QL.gateOff; exact Guard.yes rfl rfl; (simp; omega); rfl
          apply QL.op; exact Guard.none; rfl; rfl; apply Pev.pick_off; rfl; exact yes; (intro hcond; simp; omega); rfl; exact yes
          apply qmv; rfl; rfl
          apply QL.op; exact Guard.no rfl rfl; rfl; rfl; apply Pev.fld; rfl; exact yes; rfl
          apply QL.op; exact Guard.no rfl rfl; rfl; rfl; apply Pev.load_blk; rfl; exact yes; exact .head _; rfl; rfl
          apply QL.op; exact Guard.no rfl rfl; rfl; rfl; apply Pev.bin; rfl; exact yes; rfl; exact yes; intro hcond; apply Bin.eql
          apply QL.op; exact Guard.no rfl rfl; rfl; rfl; apply Pev.move; rfl; exact yes
          apply QL.op; exact Guard.yes rfl rfl; rfl; rfl; apply Pev.move; rfl; exact yes
          apply QL.op; exact Guard.yes rfl rfl; rfl; rfl; apply Pev.bin; rfl; exact fun h => h; rfl; exact yes; intro hcond; apply Bin.gtr
          apply QL.op; exact Guard.no rfl rfl; rfl; rfl; apply Pev.pick_and; rfl; exact yes; rfl; exact fun h => h
          apply QL.op; exact Guard.no rfl rfl; rfl; rfl; apply Pev.move; rfl; exact yes
          apply QL.op; exact Guard.yes rfl rfl; rfl; rfl; apply Pev.fld; rfl; exact yes; rfl
          apply QL.op; exact Guard.yes rfl rfl; rfl; rfl; apply Pev.load_blk; rfl; exact fun h => h; exact .head _; rfl; rfl
          apply QL.op; exact Guard.yes rfl rfl; rfl; rfl; apply Pev.move; rfl; exact yes
          apply QL.op; exact Guard.yes rfl rfl; rfl; rfl; apply Pev.bin; rfl; exact fun h => h; rfl; exact yes; intro hcond; apply Bin.sub_in; omega
          apply QL.op; exact Guard.yes rfl rfl; rfl; rfl; apply Pev.idxI; rfl; exact fun h => h; rfl; exact fun h => h; rfl; intro hcond; omega
          apply QL.op; exact Guard.yes rfl rfl; rfl; rfl; apply Pev.load_kept; rfl; exact fun h => h; exact .head _; rfl; intro hcond; assumption; intro hcond; (rw [add_block]; assumption); intro hcond; simp only [add_block]; refine NotOwned.blk (by omega) ?_; exact NotOwned.nil
          apply QL.op; exact Guard.yes rfl rfl; rfl; rfl; apply Pev.fld; rfl; exact yes; rfl
          apply QL.op; exact Guard.yes rfl rfl; rfl; rfl; apply Pev.load_blk; rfl; exact fun h => h; exact .head _; rfl; rfl
          apply QL.op; exact Guard.yes rfl rfl; rfl; rfl; apply Pev.move; rfl; exact yes
          apply QL.op; exact Guard.yes rfl rfl; rfl; rfl; apply Pev.idx; rfl; exact fun h => h; rfl; exact fun h => h; rfl; rfl; intro hcond; omega
          apply QL.op; exact Guard.yes rfl rfl; rfl; rfl; apply Pev.load_kept; rfl; exact fun h => h; exact .head _; rfl; intro hcond; assumption; intro hcond; (rw [add_block]; assumption); intro hcond; simp only [add_block]; refine NotOwned.blk (by omega) ?_; exact NotOwned.nil
          apply QL.op; exact Guard.yes rfl rfl; rfl; rfl; apply Pev.bin; rfl; exact fun h => h; rfl; exact fun h => h; intro hcond; apply Bin.geq
          apply QL.op; exact Guard.no rfl rfl; rfl; rfl; apply Pev.pick_and; rfl; exact yes; rfl; exact fun h => h
          apply QL.op; exact Guard.none; rfl; rfl; apply Pev.pick_or; rfl; exact yes; rfl; exact yes
          apply QL.nil
          with_reducible apply At.next
          refine W.cond rfl (fun hb => ?_) (fun hb => ?_)
          · apply W.seq
            apply W.reg
            apply oas; rfl; rfl
            apply OL.nil
            with_reducible apply At.next
            apply W.ret
            with_reducible apply At.in_ret
            with_reducible apply At.then_ret
            with_reducible apply At.then_ret
            with_reducible apply At.in_ret
            with_reducible apply At.then_ret
            ((with_reducible apply At.fin1); rfl; rfl; intro w' hw')
            exact ⟨by rw [hbad (by rw [hbk]; grind)], by (exact hw'.toExt (by (repeat (first | exact List.Mem.head _ | apply List.Mem.tail))) (fun k hk => by (focus ((try simp only [add_block]); (repeat (first | exact NotOwned.nil | exact hno _ (by omega) | refine NotOwned.nothing ?_ | refine NotOwned.nds (hlow _ (by omega)) ?_ | refine NotOwned.mapS (by omega) ?_ | apply NotOwned.bif | refine NotOwned.blk (by omega) ?_ | refine NotOwned.row (by omega) ?_ | refine NotOwned.grid (by assumption) (by omega) ?_ | refine NotOwned.pile (by omega) ?_ | refine NotOwned.pool (by omega) ?_ | refine NotOwned.mapI (by omega) ?_ | refine NotOwned.mapX (by omega) ?_ | refine NotOwned.itI (by omega) ?_)); done))))⟩
          · apply W.skip
            with_reducible apply At.in_normal
            with_reducible apply At.next
            apply W.reg
            apply obn; rfl; rfl; rfl; apply Bin.add_in; omega
            apply omv; rfl; rfl
            apply OL.nil
            exact At.again (i + 1) ⟨by omega, hagain (by first | exact hbk | (rw [hbk]; grind))⟩ (by omega) (by (repeat (first | exact Sub.nil | apply Sub.cons rfl | (refine Sub.cons_eq rfl (congrArg (Value.int .i64) (by first | omega | (simp only; omega))) ?_)))) (fun w' hw' => hw')
      · have hbk : bindOk (es.map Prod.fst) x i = true := by unfold bindOk; grind
        apply W.skip
        with_reducible apply At.next
        apply W.seq
        apply W.block
        apply W.seq
        apply W.reg
        apply omv; rfl; rfl
        apply oas; rfl; rfl
        apply OL.nil
        with_reducible apply At.next
        apply W.seq
        apply W.regd0; decide +kernel; kernel_rfl; decide +kernel; exact fun w hw => hw.drew
        apply qfa; rfl; rfl; rfl
        apply qld; rfl; rfl; exact .head _; rfl; rfl
        apply qbn; rfl; rfl; rfl; apply Bin.eql
        apply qmv; rfl; rfl
        apply QL.op; exact Guard.yes rfl rfl; rfl; rfl; apply Pev.move; rfl; exact yes
        apply QL.op; exact Guard.yes rfl rfl; rfl; rfl; apply Pev.fld; rfl; exact yes; rfl
        apply QL.op; exact Guard.yes rfl rfl; rfl; rfl; apply Pev.load_blk; rfl; exact fun h => h; exact .head _; rfl; rfl
        apply QL.op; exact Guard.yes rfl rfl; rfl; rfl; apply Pev.move; rfl; exact yes
        apply QL.gateOff; exact Guard.yes rfl rfl; (simp; omega); rfl
        apply QL.gateOff; exact Guard.yes rfl rfl; (simp; omega); rfl
        apply QL.gateOff; exact Guard.yes rfl rfl; (simp; omega); rfl
        apply QL.gateOff; exact Guard.yes rfl rfl; (simp; omega); rfl
        apply QL.gateOff; exact Guard.yes rfl rfl; (simp; omega); rfl
        apply QL.op; exact Guard.none; rfl; rfl; apply Pev.pick_off; rfl; exact yes; (intro hcond; simp; omega); rfl; exact yes
        apply qmv; rfl; rfl
        apply QL.op; exact Guard.no rfl rfl; rfl; rfl; apply Pev.fld; rfl; exact yes; rfl
        apply QL.op; exact Guard.no rfl rfl; rfl; rfl; apply Pev.load_blk; rfl; exact yes; exact .head _; rfl; rfl
        apply QL.op; exact Guard.no rfl rfl; rfl; rfl; apply Pev.bin; rfl; exact yes; rfl; exact yes; intro hcond; apply Bin.eql
        apply QL.op; exact Guard.no rfl rfl; rfl; rfl; apply Pev.move; rfl; exact yes
        apply QL.op; exact Guard.yes rfl rfl; rfl; rfl; apply Pev.move; rfl; exact yes
        apply QL.op; exact Guard.yes rfl rfl; rfl; rfl; apply Pev.bin; rfl; exact fun h => h; rfl; exact yes; intro hcond; apply Bin.gtr
        apply QL.op; exact Guard.no rfl rfl; rfl; rfl; apply Pev.pick_and; rfl; exact yes; rfl; exact fun h => h
        apply QL.op; exact Guard.no rfl rfl; rfl; rfl; apply Pev.move; rfl; exact yes
        apply QL.op; exact Guard.yes rfl rfl; rfl; rfl; apply Pev.fld; rfl; exact yes; rfl
        apply QL.op; exact Guard.yes rfl rfl; rfl; rfl; apply Pev.load_blk; rfl; exact fun h => h; exact .head _; rfl; rfl
        apply QL.op; exact Guard.yes rfl rfl; rfl; rfl; apply Pev.move; rfl; exact yes
        apply QL.op; exact Guard.yes rfl rfl; rfl; rfl; apply Pev.bin; rfl; exact fun h => h; rfl; exact yes; intro hcond; apply Bin.sub_in; omega
        apply QL.gateOff; exact Guard.yes rfl rfl; (simp; omega); rfl
        apply QL.gateOff; exact Guard.yes rfl rfl; (simp; omega); rfl
        apply QL.op; exact Guard.yes rfl rfl; rfl; rfl; apply Pev.fld; rfl; exact yes; rfl
        apply QL.op; exact Guard.yes rfl rfl; rfl; rfl; apply Pev.load_blk; rfl; exact fun h => h; exact .head _; rfl; rfl
        apply QL.op; exact Guard.yes rfl rfl; rfl; rfl; apply Pev.move; rfl; exact yes
        apply QL.gateOff; exact Guard.yes rfl rfl; (simp; omega); rfl
        apply QL.gateOff; exact Guard.yes rfl rfl; (simp; omega); rfl
        apply QL.gateOff; exact Guard.yes rfl rfl; (simp; omega); rfl
        apply QL.op; exact Guard.no rfl rfl; rfl; rfl; apply Pev.pick_off; rfl; exact yes; (intro hcond; simp; omega); rfl; exact yes
        apply QL.op; exact Guard.none; rfl; rfl; apply Pev.pick_or; rfl; exact yes; rfl; exact yes
        apply QL.nil
        with_reducible apply At.next
        refine W.cond rfl (fun hb => ?_) (fun hb => ?_)
        · apply W.seq
          apply W.reg
          apply oas; rfl; rfl
          apply OL.nil
          with_reducible apply At.next
          apply W.ret
          with_reducible apply At.in_ret
          with_reducible apply At.then_ret
          with_reducible apply At.then_ret
          with_reducible apply At.in_ret
          with_reducible apply At.then_ret
          ((with_reducible apply At.fin1); rfl; rfl; intro w' hw')
          exact ⟨by rw [hbad (by rw [hbk]; grind)], by (exact hw'.toExt (by (repeat (first | exact List.Mem.head _ | apply List.Mem.tail))) (fun k hk => by (focus ((try simp only [add_block]); (repeat (first | exact NotOwned.nil | exact hno _ (by omega) | refine NotOwned.nothing ?_ | refine NotOwned.nds (hlow _ (by omega)) ?_ | refine NotOwned.mapS (by omega) ?_ | apply NotOwned.bif | refine NotOwned.blk (by omega) ?_ | refine NotOwned.row (by omega) ?_ | refine NotOwned.grid (by assumption) (by omega) ?_ | refine NotOwned.pile (by omega) ?_ | refine NotOwned.pool (by omega) ?_ | refine NotOwned.mapI (by omega) ?_ | refine NotOwned.mapX (by omega) ?_ | refine NotOwned.itI (by omega) ?_)); done))))⟩
        · apply W.skip
          with_reducible apply At.in_normal
          with_reducible apply At.next
          apply W.reg
          apply obn; rfl; rfl; rfl; apply Bin.add_in; omega
          apply omv; rfl; rfl
          apply OL.nil
          exact At.again (i + 1) ⟨by omega, hagain (by first | exact hbk | (rw [hbk]; grind))⟩ (by omega) (by (repeat (first | exact Sub.nil | apply Sub.cons rfl | (refine Sub.cons_eq rfl (congrArg (Value.int .i64) (by first | omega | (simp only; omega))) ?_)))) (fun w' hw' => hw')
  · obtain rfl : i = x.binds.length := by omega
    have hkb : kidsB (es.map Prod.fst) x = true := all_range hall
    apply W.exit
    with_reducible apply At.then_exit
    with_reducible apply At.then_exit
    with_reducible apply At.in_exit
    with_reducible apply At.next
    apply W.seq
    apply W.reg
    apply oas; rfl; rfl
    apply OL.nil
    with_reducible apply At.next
    apply W.ret
    ((with_reducible apply At.fin1); rfl; rfl; intro w' hw')
    exact ⟨by rw [hn0, if_neg (by simp [hkb])], by (exact hw'.toExt (by (repeat (first | exact List.Mem.head _ | apply List.Mem.tail))) (fun k hk => by (focus ((try simp only [add_block]); (repeat (first | exact NotOwned.nil | exact hno _ (by omega) | refine NotOwned.nothing ?_ | refine NotOwned.nds (hlow _ (by omega)) ?_ | refine NotOwned.mapS (by omega) ?_ | apply NotOwned.bif | refine NotOwned.blk (by omega) ?_ | refine NotOwned.row (by omega) ?_ | refine NotOwned.grid (by assumption) (by omega) ?_ | refine NotOwned.pile (by omega) ?_ | refine NotOwned.pool (by omega) ?_ | refine NotOwned.mapI (by omega) ?_ | refine NotOwned.mapX (by omega) ?_ | refine NotOwned.itI (by omega) ?_)); done))))⟩
end Go.Proofs.YtlboppiogeaicaaDoor.co
