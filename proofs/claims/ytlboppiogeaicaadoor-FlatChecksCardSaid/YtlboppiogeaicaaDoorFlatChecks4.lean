/- Texts of the proof of FlatChecks, part 4: rules of a calculus for walking, plain laws, and walks of the functions that the law reaches. No condition. -/
import Derived.SizedLaws
import Derived.Test.YtlboppiogeaicaaDoorProg
import Derived.Test.YtlboppiogeaicaaDoorFlatChecks3
/- The walks of the reference's goodForm and goodKids. Conditions: none. (Printed by crc.py.) The walks of the reference's Depth and binder. Conditions: none. The walks of the reference's BodyFault and Fault. Conditions: none. -/
namespace Go.Proofs.YtlboppiogeaicaaDoor.co
open Go.RowKit Go.Eng Go.Co
set_option linter.unusedVariables false
set_option linter.unusedSimpArgs false
set_option maxRecDepth 100000
theorem goodForm_calls (es : List (Ex × ExY)) (q : Option Addr) (cap : Nat) (x : Ex) (y : ExY) (flat : Bool) (w : World) (h : ExOk w (low w) x y) :
    Calls Tryd.prog 72 [.slice q es.length cap, .agg (exC x y).toArray, .bool flat].toArray w fun e w' => e = .returned (.bool (!flatBad flat x.op && formR x)) ∧ Ext w w' := by
  have hal := h.al
  have hkl := h.kl
  have hbl := h.bl
  refine enter Tryd.func72 rfl Tryd.ntmps72 rfl (Cls.start w) ?_
  (simp only [argEnv, Nat.zero_add, Nat.reduceAdd])
  simp only [exC]
  apply W.sr
  apply OL.box; rfl; rfl; exact CellsL.agg; (intro bk hbk; simp only [AllLe, and_true] at hbk)
  apply oas; rfl; rfl
  apply OL.nsr
  apply ofa; rfl; rfl; rfl
  apply old; rfl; rfl; exact .head _; rfl; rfl
  apply obn; rfl; rfl; rfl; apply Bin.eql
  apply omv; rfl; rfl
  apply ono; rfl; rfl; rfl; apply Pev.fld; rfl; exact yes; rfl
  apply ono; rfl; rfl; rfl; apply Pev.load_blk; rfl; exact fun h => h; exact .head _; rfl; rfl
  apply ono; rfl; rfl; rfl; apply Pev.bin; rfl; exact fun h => h; rfl; exact yes; intro hcond; apply Bin.eql
  apply oop; rfl; apply Pev.pick_or; rfl; exact yes; rfl; exact fun h => h
  apply omv; rfl; rfl
  apply ono; rfl; rfl; rfl; apply Pev.fld; rfl; exact yes; rfl
  apply ono; rfl; rfl; rfl; apply Pev.load_blk; rfl; exact fun h => h; exact .head _; rfl; rfl
  apply ono; rfl; rfl; rfl; apply Pev.bin; rfl; exact fun h => h; rfl; exact yes; intro hcond; apply Bin.eql
  apply oop; rfl; apply Pev.pick_or; rfl; exact yes; rfl; exact fun h => h
  apply oas; rfl; rfl
  apply OL.nsr
  apply ofa; rfl; rfl; rfl
  apply old; rfl; rfl; exact .head _; rfl; rfl
  apply obn; rfl; rfl; rfl; apply Bin.eql
  apply omv; rfl; rfl
  apply ono; rfl; rfl; rfl; apply Pev.fld; rfl; exact yes; rfl
  apply ono; rfl; rfl; rfl; apply Pev.load_blk; rfl; exact fun h => h; exact .head _; rfl; rfl
  apply ono; rfl; rfl; rfl; apply Pev.bin; rfl; exact fun h => h; rfl; exact yes; intro hcond; apply Bin.eql
  apply oop; rfl; apply Pev.pick_or; rfl; exact yes; rfl; exact fun h => h
  apply omv; rfl; rfl
  apply ono; rfl; rfl; rfl; apply Pev.fld; rfl; exact yes; rfl
  apply ono; rfl; rfl; rfl; apply Pev.load_blk; rfl; exact fun h => h; exact .head _; rfl; rfl
  apply ono; rfl; rfl; rfl; apply Pev.bin; rfl; exact fun h => h; rfl; exact yes; intro hcond; apply Bin.eql
  apply oop; rfl; apply Pev.pick_or; rfl; exact yes; rfl; exact fun h => h
  apply omv; rfl; rfl
  apply ono; rfl; rfl; rfl; apply Pev.fld; rfl; exact yes; rfl
  apply ono; rfl; rfl; rfl; apply Pev.load_blk; rfl; exact fun h => h; exact .head _; rfl; rfl
  apply ono; rfl; rfl; rfl; apply Pev.bin; rfl; exact fun h => h; rfl; exact yes; intro hcond; apply Bin.eql
  apply oop; rfl; apply Pev.pick_or; rfl; exact yes; rfl; exact fun h => h
  apply oas; rfl; rfl
  apply OL.nsr
  apply oop; rfl; apply Pev.load_blkA; rfl; exact yes; exact .head _; rfl; exact Take.au
  (((first | (with_reducible apply OL.op) | (with_reducible apply QL.op)); (exact Guard.au); rfl; rfl); (exact Pev.call rfl (by exact Args.au) (fun _ w2 hw2 => (kidsOf_calls x y w2 (h.at hw2 (by exact mau) (fun k hk => by exact NotOwned.au))).mono (fun e w3 h => ⟨h.1, hw2.ext h.2⟩))))
  apply omv; rfl; rfl
  apply oex; rfl; rfl; rfl
  apply oex; rfl; rfl; rfl
  apply oas; rfl; rfl
  apply oas; rfl; rfl
  apply OL.nx
  apply W.seq
  apply W.sr
  apply omv; rfl; rfl
  apply omv; rfl; rfl
  apply oy; rfl; rfl; rfl; apply Pev.move; rfl; exact yes
  apply oy; rfl; rfl; rfl; apply Pev.not; rfl; exact fun h => h
  apply oop; rfl; apply Pev.pick_and; rfl; exact yes; rfl; exact fun h => h
  apply omv; rfl; rfl
  apply ono; rfl; rfl; rfl; apply Pev.move; rfl; exact yes
  apply ono; rfl; rfl; rfl; apply Pev.move; rfl; exact fun h => h
  apply OL.op; exact Guard.cyes rfl rfl; rfl; rfl; apply Pev.move; rfl; exact yes
  apply ono; rfl; rfl; rfl; apply Pev.pick_and; rfl; exact fun h => h; rfl; exact fun h => h
  apply oop; rfl; apply Pev.pick_or; rfl; exact yes; rfl; exact fun h => h
  apply omv; rfl; rfl
  apply ono; rfl; rfl; rfl; apply Pev.move; rfl; exact yes
  apply ono; rfl; rfl; rfl; apply Pev.fld; rfl; exact yes; rfl
  apply ono; rfl; rfl; rfl; apply Pev.load_blk; rfl; exact fun h => h; exact .head _; rfl; rfl
  apply ono; rfl; rfl; rfl; apply Pev.len_slice; rfl; exact fun h => h; rfl
  apply ono; rfl; rfl; rfl; apply Pev.bin; rfl; exact fun h => h; rfl; exact fun h => h; intro hcond; apply Bin.neq
  apply oop; rfl; apply Pev.pick_or; rfl; exact yes; rfl; exact fun h => h
  apply omv; rfl; rfl
  apply ono; rfl; rfl; rfl; apply Pev.move; rfl; exact yes
  apply ono; rfl; rfl; rfl; apply Pev.not; rfl; exact fun h => h
  apply ono; rfl; rfl; rfl; apply Pev.move; rfl; exact fun h => h
  apply OL.op; exact Guard.cyes rfl rfl; rfl; rfl; apply Pev.fld; rfl; exact yes; rfl
  apply OL.op; exact Guard.cyes rfl rfl; rfl; rfl; apply Pev.load_blk; rfl; exact fun h => h; exact .head _; rfl; rfl
  apply OL.op; exact Guard.cyes rfl rfl; rfl; rfl; apply Pev.bin; rfl; exact fun h => h; rfl; exact yes; intro hcond; apply Bin.neq
  apply ono; rfl; rfl; rfl; apply Pev.pick_and; rfl; exact fun h => h; rfl; exact fun h => h
  apply oop; rfl; apply Pev.pick_or; rfl; exact yes; rfl; exact fun h => h
  apply omv; rfl; rfl
  apply ono; rfl; rfl; rfl; apply Pev.load_blkA; rfl; exact yes; exact .head _; rfl; exact Take.au
  (((first | (with_reducible apply OL.op) | (with_reducible apply QL.op)); (exact Guard.au); rfl; rfl); (exact Pev.call rfl (by exact Args.au) (fun _ w2 hw2 => (goodAlts_calls x y w2 (h.at hw2 (by exact mau) (fun k hk => by exact NotOwned.au))).mono (fun e w3 h => ⟨h.1, hw2.ext h.2⟩))))
  have hflat : flatBad flat x.op = (flat && (decide (x.op = 2) || decide (x.op = 5) || decide (x.op = 12) || decide (x.op = 13)) || !flat && (decide (x.op = 14) || decide (x.op = 15) || decide (x.op = 16))) := rfl
  have hform : formR x = (decide ((kidsR x).1 = (x.kids.length : Int)) && ((kidsR x).2 || decide (x.n = 0)) && altsR x && bindsR x) := rfl
  generalize kidsR x = kr at *
  obtain ⟨kn, ku⟩ := kr
  generalize altsR x = ar at *
  apply ono; rfl; rfl; rfl; apply Pev.not; rfl; exact fun h => h
  apply oop; rfl; apply Pev.pick_or; rfl; exact yes; rfl; exact fun h => h
  apply OL.nx
  refine W.cond rfl (fun hb => ?_) (fun hb => ?_)
  · apply W.sr
    apply oas; rfl; rfl
    apply OL.nx
    refine W.rt ?_
    ((with_reducible apply At.fin1); rfl; rfl; intro w' hw')
    refine ⟨congrArg (fun b => Ending.returned (Value.bool b)) ?_, by (exact hw'.fr)⟩
    rw [hflat, hform]
    cases flat <;> cases ku <;> cases ar <;> simp only [Bool.and_eq_true, Bool.and_eq_false_iff, Bool.or_eq_false_iff, Bool.not_eq_true', Bool.not_eq_false', decide_eq_true_eq, decide_eq_false_iff_not, Bool.or_eq_true, Bool.not_eq_true] at hb ⊢ <;> simp at hb ⊢ <;> grind
  have hrest : (!flatBad flat x.op && formR x) = bindsR x := by
    rw [hflat, hform]
    cases flat <;> cases ku <;> cases ar <;> simp only [Bool.and_eq_true, Bool.and_eq_false_iff, Bool.or_eq_false_iff, Bool.not_eq_true', Bool.not_eq_false', decide_eq_true_eq, decide_eq_false_iff_not, Bool.or_eq_true, Bool.not_eq_true] at hb <;> simp at hb ⊢ <;> grind
  rw [hrest]
  clear hrest hform hflat hb
  apply W.sk
  apply W.seq
  apply W.sr
  apply ofa; rfl; rfl; rfl
  apply old; rfl; rfl; exact .head _; rfl; rfl
  apply OL.nx
  apply W.block
  apply W.seq
  apply W.sr
  apply obn; rfl; rfl; rfl; apply Bin.eql
  apply oas; rfl; rfl
  apply OL.nx
  (refine W.cnd (fun c1 => ?_) (fun c1 => ?_)) <;> (try (exfalso; first | omega | exact c1 trivial | contradiction))
  · apply W.sk
    (refine W.cnd (fun c1b => ?_) (fun c1b => ?_)) <;> (try (exfalso; first | omega | exact c1b trivial | contradiction))
    apply W.sr
    apply oas; rfl; rfl
    apply OL.nx
    refine W.rt ?_
    ((with_reducible apply At.fin1); rfl; rfl; intro w' hw')
    exact ⟨by unfold bindsR; rw [if_pos (by omega)], by (exact hw'.fr)⟩
  apply W.reg
  apply obn; rfl; rfl; rfl; apply Bin.eql
  apply oas; rfl; rfl
  apply OL.nx
  (refine W.cnd (fun c2 => ?_) (fun c2 => ?_)) <;> (try (exfalso; first | omega | exact c2 trivial | contradiction))
  · apply W.sr
    apply oas; rfl; rfl
    apply OL.nx
    refine W.rt ?_
    ((with_reducible apply At.fin1); rfl; rfl; intro w' hw')
    exact ⟨by unfold bindsR; rw [if_pos (by omega)], by (exact hw'.fr)⟩
  apply W.sr
  apply obn; rfl; rfl; rfl; apply Bin.eql
  apply oas; rfl; rfl
  apply OL.nx
  (refine W.cnd (fun c3 => ?_) (fun c3 => ?_)) <;> (try (exfalso; first | omega | exact c3 trivial | contradiction))
  · apply W.sr
    apply ofa; rfl; rfl; rfl
    apply old; rfl; rfl; exact .head _; rfl; rfl
    apply oop; rfl; apply Pev.len_slice; rfl; exact yes; rfl
    apply obn; rfl; rfl; rfl; apply Bin.eql
    apply oas; rfl; rfl
    apply OL.nx
    refine W.rt ?_
    ((with_reducible apply At.fin1); rfl; rfl; intro w' hw')
    refine ⟨congrArg (fun b => Ending.returned (Value.bool b)) ?_, by (exact hw'.fr)⟩
    unfold bindsR
    rw [if_neg (by omega), if_pos (by omega)]
    grind
  apply W.sr
  apply obn; rfl; rfl; rfl; apply Bin.eql
  apply oas; rfl; rfl
  apply OL.nx
  (refine W.cnd (fun c4 => ?_) (fun c4 => ?_)) <;> (try (exfalso; first | omega | exact c4 trivial | contradiction))
  · apply W.sr
    apply ofa; rfl; rfl; rfl
    apply old; rfl; rfl; exact .head _; rfl; rfl
    apply oop; rfl; apply Pev.len_slice; rfl; exact yes; rfl
    apply obn; rfl; rfl; rfl; apply Bin.gtr
    apply oas; rfl; rfl
    apply OL.nx
    refine W.rt ?_
    ((with_reducible apply At.fin1); rfl; rfl; intro w' hw')
    refine ⟨congrArg (fun b => Ending.returned (Value.bool b)) ?_, by (exact hw'.fr)⟩
    unfold bindsR
    rw [if_neg (by omega), if_neg (by omega), if_pos (by omega)]
    grind
  apply W.skip
  with_reducible apply At.in_normal
  with_reducible apply At.next
  apply W.sr
  apply ofa; rfl; rfl; rfl
  apply old; rfl; rfl; exact .head _; rfl; rfl
  apply oop; rfl; apply Pev.len_slice; rfl; exact yes; rfl
  apply obn; rfl; rfl; rfl; apply Bin.eql
  apply oas; rfl; rfl
  apply OL.nx
  apply W.ret
  ((with_reducible apply At.fin1); rfl; rfl; intro w' hw')
  refine ⟨congrArg (fun b => Ending.returned (Value.bool b)) ?_, by (exact hw'.fr)⟩
  unfold bindsR
  rw [if_neg (by omega), if_neg (by omega), if_neg (by omega)]
  grind
theorem goodKids_calls (es : List (Ex × ExY)) (q : Option Addr) (cap : Nat) (x : Ex) (y : ExY) (w : World) (h : ExOk w (low w) x y) (he : Arr exR w (low w) es q) (hlen : es.length ≤ 4096) (hkd : ∀ k ∈ x.kids, 0 ≤ k ∧ k < (es.length : Int)) (hk5 : x.op = 5 → x.kids.length = x.binds.length + 1) :
    Calls Tryd.prog 74 [.slice q es.length cap, .agg (exC x y).toArray].toArray w fun e w' => e = .returned (.bool (kidsB (es.map Prod.fst) x)) ∧ Ext w w' := by
  have hal := h.al
  have hkl := h.kl
  have hbl := h.bl
  refine enter Tryd.func74 rfl Tryd.ntmps74 rfl (Cls.start w) ?_
  (simp only [argEnv, Nat.zero_add, Nat.reduceAdd])
  simp only [exC]
  apply W.sr
  apply OL.box; rfl; rfl; exact CellsL.agg; (intro bk hbk; simp only [AllLe, and_true] at hbk)
  apply oas; rfl; rfl
  apply OL.nx
  apply W.seq
  apply W.sr
  apply ofa; rfl; rfl; rfl
  apply old; rfl; rfl; exact .head _; rfl; rfl
  apply oop; rfl; apply Pev.len_slice; rfl; exact yes; rfl
  apply omv; rfl; rfl
  apply OL.nx
  apply W.block
  refine W.loop (G := Nat) (fun i => i ≤ x.binds.length ∧ ∀ j, j < i → bindOk (es.map Prod.fst) x j = true) (fun i => x.binds.length - i)
    (fun i => [(0, true, .slice q es.length cap), (3, true, .pointer (some ⟨bk, 0, none⟩)), (8, true, .int .i64 (x.binds.length : Int)), (9, true, .int .i64 (i : Int))])
    (fun _ => Cls [blk bk 28 [.int .i64 x.op, .int .i64 x.n, .slice y.b.1 x.binds.length y.b.2, .slice y.k.1 x.kids.length y.k.2, .slice y.a.1 x.alts.length y.a.2]] [w]) 0 ⟨by omega, fun j hj => by omega⟩ (by exact Sub.au) (fun w' hw' => hw') ?_
  rintro i ⟨hi, hall⟩
  apply W.sr
  apply obn; rfl; rfl; rfl; apply Bin.lss
  apply OL.nx
  apply W.seq
  (refine W.cnd (fun hlt => ?_) (fun hlt => ?_)) <;> (try (exfalso; first | omega | exact hlt trivial | contradiction))
  · have hil : i < x.binds.length := by omega
    have hbad : bindOk (es.map Prod.fst) x i = false → kidsB (es.map Prod.fst) x = false := fun hf => not_all_range hil hf
    have hagain : bindOk (es.map Prod.fst) x i = true → ∀ j, j < i + 1 → bindOk (es.map Prod.fst) x j = true := fun hf j hj => by
      by_cases e : j = i
      · rw [e]; exact hf
      · exact hall j (by omega)
    by_cases h5 : x.op = 5
    · have hkl5 := hk5 h5
      obtain ⟨ak, kv, hqk, habk, hkv, hck⟩ := h.k.get (i := i) (by omega)
      have habk : ak.block < w.heap.size := habk
      have hkr := hkd kv (List.mem_of_getElem? hkv)
      obtain ⟨ae, p, hqe, habe, hp, hcell, hok⟩ := he.get (i := kv.toNat) (by omega)
      have habe : ae.block < w.heap.size := habe
      have hcell : CellsAt w (ae.add (kv.toNat * 5)) [.int .i64 p.1.op, .int .i64 p.1.n, .slice p.2.b.1 p.1.binds.length p.2.b.2, .slice p.2.k.1 p.1.kids.length p.2.k.2, .slice p.2.a.1 p.1.alts.length p.2.a.2] := hcell
      have hbk : bindOk (es.map Prod.fst) x i = decide (p.1.op = 2) := by
        have e1 : x.kids.getD i 0 = kv := by simp [List.getD, hkv]
        have e2 : (es.map Prod.fst).getD kv.toNat ⟨0, 0, [], [], []⟩ = p.1 := by simp [List.getD, hp]
        unfold bindOk
        rw [e1, e2]
        grind
      rw [hqk, hqe]
      apply W.sk
      apply W.sb
      apply W.sr
      apply omv; rfl; rfl
      apply oas; rfl; rfl
      apply OL.nx
      apply W.seq
      apply W.regd0; decide +kernel; kernel_rfl; decide +kernel; exact fun w hw => hw.drew
      apply qfa; rfl; rfl; rfl
      apply qld; rfl; rfl; exact .head _; rfl; rfl
      apply qbn; rfl; rfl; rfl; apply Bin.eql
      apply qmv; rfl; rfl
      apply qy; rfl; rfl; rfl; apply Pev.move; rfl; exact yes
      apply qy; rfl; rfl; rfl; apply Pev.fld; rfl; exact yes; rfl
      apply qy; rfl; rfl; rfl; apply Pev.load_blk; rfl; exact fun h => h; exact .head _; rfl; rfl
      apply qy; rfl; rfl; rfl; apply Pev.move; rfl; exact yes
      apply qy; rfl; rfl; rfl; apply Pev.idx; rfl; exact fun h => h; rfl; exact fun h => h; rfl; rfl; intro hcond; omega
      apply qy; rfl; rfl; rfl; apply Pev.load_kept; rfl; exact fun h => h; exact .head _; rfl; intro hcond; assumption; intro hcond; (rw [add_block]; assumption); intro hcond; exact NotOwned.au
      apply qy; rfl; rfl; rfl; apply Pev.idxI; rfl; exact fun h => h; rfl; exact fun h => h; rfl; intro hcond; omega
      apply qy; rfl; rfl; rfl; apply Pev.fldA; rfl; exact fun h => h; rfl
      apply qy; rfl; rfl; rfl; apply Pev.load_kept; rfl; exact fun h => h; exact .head _; rfl; intro hcond; apply CellsAt.at_ (by assumption) rfl; intro hcond; (simp only [add_block]; assumption); intro hcond; exact NotOwned.au
      apply qy; rfl; rfl; rfl; apply Pev.bin; rfl; exact fun h => h; rfl; exact yes; intro hcond; apply Bin.neq
      apply qop; rfl; apply Pev.pick_and; rfl; exact yes; rfl; exact fun h => h
      apply qmv; rfl; rfl
      apply qno; rfl; rfl; rfl; apply Pev.fld; rfl; exact yes; rfl
      apply qno; rfl; rfl; rfl; apply Pev.load_blk; rfl; exact fun h => h; exact .head _; rfl; rfl
      apply qno; rfl; rfl; rfl; apply Pev.bin; rfl; exact fun h => h; rfl; exact yes; intro hcond; apply Bin.eql
      apply qno; rfl; rfl; rfl; apply Pev.move; rfl; exact fun h => h
      apply QL.op; exact Guard.cyes rfl rfl; rfl; rfl; apply Pev.move; rfl; exact yes
      apply QL.op; exact Guard.cyes rfl rfl; rfl; rfl; apply Pev.bin; rfl; exact fun h => h; rfl; exact yes; intro hcond; apply Bin.gtr
      apply qno; rfl; rfl; rfl; apply Pev.pick_and; rfl; exact fun h => h; rfl; exact fun h => h
      apply qno; rfl; rfl; rfl; apply Pev.move; rfl; exact fun h => h
      apply QL.op; exact Guard.cyes rfl rfl; rfl; rfl; apply Pev.fld; rfl; exact yes; rfl
      apply QL.op; exact Guard.cyes rfl rfl; rfl; rfl; apply Pev.load_blk; rfl; exact fun h => h; exact .head _; rfl; rfl
      apply QL.op; exact Guard.cyes rfl rfl; rfl; rfl; apply Pev.move; rfl; exact yes
      apply QL.gateOff; exact Guard.cyes rfl rfl; (simp; omega); rfl
      apply QL.gateOff; exact Guard.cyes rfl rfl; (simp; omega); rfl
      apply QL.op; exact Guard.cyes rfl rfl; rfl; rfl; apply Pev.fld; rfl; exact yes; rfl
      apply QL.op; exact Guard.cyes rfl rfl; rfl; rfl; apply Pev.load_blk; rfl; exact fun h => h; exact .head _; rfl; rfl
      apply QL.op; exact Guard.cyes rfl rfl; rfl; rfl; apply Pev.move; rfl; exact yes
      apply QL.op; exact Guard.cyes rfl rfl; rfl; rfl; apply Pev.bin; rfl; exact fun h => h; rfl; exact yes; intro hcond; apply Bin.sub_in; omega
      apply QL.gateOff; exact Guard.cyes rfl rfl; (simp; omega); rfl
      apply QL.gateOff; exact Guard.cyes rfl rfl; (simp; omega); rfl
      apply QL.gateOff; exact Guard.cyes rfl rfl; (simp; omega); rfl
      apply qno; rfl; rfl; rfl; apply Pev.pick_off; rfl; exact fun h => h; (intro hcond; simp; omega); rfl; exact yes
      apply qop; rfl; apply Pev.pick_or; rfl; exact yes; rfl; exact fun h => h
      apply QL.nil
      with_reducible apply At.next
      refine W.cond rfl (fun hb => ?_) (fun hb => ?_)
      · apply W.sr
        apply oas; rfl; rfl
        apply OL.nx
        refine W.rt ?_
        ((with_reducible apply At.fin1); rfl; rfl; intro w' hw')
        exact ⟨by rw [hbad (by rw [hbk]; grind)], by (exact hw'.fr)⟩
      · apply W.skip
        with_reducible apply At.in_normal
        with_reducible apply At.next
        apply W.reg
        apply obn; rfl; rfl; rfl; apply Bin.add_in; omega
        apply omv; rfl; rfl
        apply OL.nil
        exact At.again (i + 1) ⟨by omega, hagain (by first | exact hbk | (rw [hbk]; grind))⟩ (by omega) (by exact Sub.au) (fun w' hw' => hw')
    · by_cases h9 : x.op = 9
      · obtain ⟨ab, vi, hqb, habb, hvi, hci⟩ := h.b.get hil
        have habb : ab.block < w.heap.size := habb
        have e1 : x.binds.getD i 0 = vi := by simp [List.getD, hvi]
        by_cases hi0 : i = 0
        · subst hi0
          have hbk : bindOk (es.map Prod.fst) x 0 = true := by unfold bindOk; grind
          apply W.sk
          apply W.sb
          apply W.sr
          apply omv; rfl; rfl
          apply oas; rfl; rfl
          apply OL.nx
          apply W.seq
          apply W.regd0; decide +kernel; kernel_rfl; decide +kernel; exact fun w hw => hw.drew
          apply qfa; rfl; rfl; rfl
          apply qld; rfl; rfl; exact .head _; rfl; rfl
          apply qbn; rfl; rfl; rfl; apply Bin.eql
          apply qmv; rfl; rfl
          apply qy; rfl; rfl; rfl; apply Pev.move; rfl; exact yes
          apply qy; rfl; rfl; rfl; apply Pev.fld; rfl; exact yes; rfl
          apply qy; rfl; rfl; rfl; apply Pev.load_blk; rfl; exact fun h => h; exact .head _; rfl; rfl
          apply qy; rfl; rfl; rfl; apply Pev.move; rfl; exact yes
          apply QL.gateOff; exact Guard.yes rfl rfl; (simp; omega); rfl
          apply QL.gateOff; exact Guard.yes rfl rfl; (simp; omega); rfl
          apply QL.gateOff; exact Guard.yes rfl rfl; (simp; omega); rfl
          apply QL.gateOff; exact Guard.yes rfl rfl; (simp; omega); rfl
          apply QL.gateOff; exact Guard.yes rfl rfl; (simp; omega); rfl
          apply QL.gateOff; exact Guard.yes rfl rfl; (simp; omega); rfl
          apply qop; rfl; apply Pev.pick_off; rfl; exact yes; (intro hcond; simp; omega); rfl; exact yes
          apply qmv; rfl; rfl
          apply qno; rfl; rfl; rfl; apply Pev.fld; rfl; exact yes; rfl
          apply qno; rfl; rfl; rfl; apply Pev.load_blk; rfl; exact yes; exact .head _; rfl; rfl
          apply qno; rfl; rfl; rfl; apply Pev.bin; rfl; exact yes; rfl; exact yes; intro hcond; apply Bin.eql
          apply qno; rfl; rfl; rfl; apply Pev.move; rfl; exact yes
          apply qy; rfl; rfl; rfl; apply Pev.move; rfl; exact yes
          apply qy; rfl; rfl; rfl; apply Pev.bin; rfl; exact fun h => h; rfl; exact yes; intro hcond; apply Bin.gtr
          apply qno; rfl; rfl; rfl; apply Pev.pick_and; rfl; exact yes; rfl; exact fun h => h
          apply qno; rfl; rfl; rfl; apply Pev.move; rfl; exact yes
          apply qy; rfl; rfl; rfl; apply Pev.fld; rfl; exact yes; rfl
          apply qy; rfl; rfl; rfl; apply Pev.load_blk; rfl; exact fun h => h; exact .head _; rfl; rfl
          apply qy; rfl; rfl; rfl; apply Pev.move; rfl; exact yes
          apply QL.gateOff; exact Guard.yes rfl rfl; (focus (simp; done)); rfl
          apply QL.gateOff; exact Guard.yes rfl rfl; (focus (simp; done)); rfl
          apply qy; rfl; rfl; rfl; apply Pev.fld; rfl; exact yes; rfl
          apply qy; rfl; rfl; rfl; apply Pev.load_blk; rfl; exact fun h => h; exact .head _; rfl; rfl
          apply qy; rfl; rfl; rfl; apply Pev.move; rfl; exact yes
          apply qy; rfl; rfl; rfl; apply Pev.bin; rfl; exact fun h => h; rfl; exact yes; intro hcond; apply Bin.sub_in; omega
          apply QL.gateOff; exact Guard.yes rfl rfl; (focus (simp; done)); rfl
          apply QL.gateOff; exact Guard.yes rfl rfl; (focus (simp; done)); rfl
          apply QL.gateOff; exact Guard.yes rfl rfl; (focus (simp; done)); rfl
          apply qno; rfl; rfl; rfl; apply Pev.pick_off; rfl; exact yes; (focus (intro hcond; simp; done)); rfl; exact yes
          apply qop; rfl; apply Pev.pick_or; rfl; exact yes; rfl; exact yes
          apply QL.nil
          with_reducible apply At.next
          refine W.cond rfl (fun hb => ?_) (fun hb => ?_)
          · apply W.sr
            apply oas; rfl; rfl
            apply OL.nx
            refine W.rt ?_
            ((with_reducible apply At.fin1); rfl; rfl; intro w' hw')
            exact ⟨by rw [hbad (by rw [hbk]; grind)], by (exact hw'.fr)⟩
          · apply W.skip
            with_reducible apply At.in_normal
            with_reducible apply At.next
            apply W.reg
            apply obn; rfl; rfl; rfl; apply Bin.add_in; omega
            apply omv; rfl; rfl
            apply OL.nil
            exact At.again (0 + 1) ⟨by omega, hagain (by first | exact hbk | (rw [hbk]; grind))⟩ (by omega) (by exact Sub.au) (fun w' hw' => hw')
        · obtain ⟨ab2, vm, hqb2, _, hvm, hcm⟩ := h.b.get (i := i - 1) (by omega)
          rw [hqb] at hqb2
          obtain rfl := Option.some.inj hqb2
          have e2 : x.binds.getD (i - 1) 0 = vm := by simp [List.getD, hvm]
          have hbk : bindOk (es.map Prod.fst) x i = decide (vm < vi) := by
            unfold bindOk
            rw [e1, e2]
            grind
          have hcm : w.cell? (ab.add (((i : Int) - 1).toNat * 1)) = some (.int .i64 vm) := by rw [show ((i : Int) - 1).toNat = i - 1 by omega]; exact hcm
          rw [hqb]
          apply W.sk
          apply W.sb
          apply W.sr
          apply omv; rfl; rfl
          apply oas; rfl; rfl
          apply OL.nx
          apply W.seq
          apply W.regd0; decide +kernel; kernel_rfl; decide +kernel; exact fun w hw => hw.drew
          apply qfa; rfl; rfl; rfl
          apply qld; rfl; rfl; exact .head _; rfl; rfl
          apply qbn; rfl; rfl; rfl; apply Bin.eql
          apply qmv; rfl; rfl
          apply qy; rfl; rfl; rfl; apply Pev.move; rfl; exact yes
          apply qy; rfl; rfl; rfl; apply Pev.fld; rfl; exact yes; rfl
          apply qy; rfl; rfl; rfl; apply Pev.load_blk; rfl; exact fun h => h; exact .head _; rfl; rfl
          apply qy; rfl; rfl; rfl; apply Pev.move; rfl; exact yes
          apply QL.gateOff; exact Guard.yes rfl rfl; (simp; omega); rfl
          apply QL.gateOff; exact Guard.yes rfl rfl; (simp; omega); rfl
          apply QL.gateOff; exact Guard.yes rfl rfl; (simp; omega); rfl
          apply QL.gateOff; exact Guard.yes rfl rfl; (simp; omega); rfl
          apply QL.gateOff; exact Guard.yes rfl rfl; (simp; omega); rfl
          apply QL.gateOff; exact Guard.yes rfl rfl; (simp; omega); rfl
          apply qop; rfl; apply Pev.pick_off; rfl; exact yes; (intro hcond; simp; omega); rfl; exact yes
          apply qmv; rfl; rfl
          apply qno; rfl; rfl; rfl; apply Pev.fld; rfl; exact yes; rfl
          apply qno; rfl; rfl; rfl; apply Pev.load_blk; rfl; exact yes; exact .head _; rfl; rfl
          apply qno; rfl; rfl; rfl; apply Pev.bin; rfl; exact yes; rfl; exact yes; intro hcond; apply Bin.eql
          apply qno; rfl; rfl; rfl; apply Pev.move; rfl; exact yes
          apply qy; rfl; rfl; rfl; apply Pev.move; rfl; exact yes
          apply qy; rfl; rfl; rfl; apply Pev.bin; rfl; exact fun h => h; rfl; exact yes; intro hcond; apply Bin.gtr
          apply qno; rfl; rfl; rfl; apply Pev.pick_and; rfl; exact yes; rfl; exact fun h => h
          apply qno; rfl; rfl; rfl; apply Pev.move; rfl; exact yes
          apply qy; rfl; rfl; rfl; apply Pev.fld; rfl; exact yes; rfl
          apply qy; rfl; rfl; rfl; apply Pev.load_blk; rfl; exact fun h => h; exact .head _; rfl; rfl
          apply qy; rfl; rfl; rfl; apply Pev.move; rfl; exact yes
          apply qy; rfl; rfl; rfl; apply Pev.idx; rfl; exact fun h => h; rfl; exact fun h => h; rfl; rfl; intro hcond; omega
          apply qy; rfl; rfl; rfl; apply Pev.load_kept; rfl; exact fun h => h; exact .head _; rfl; intro hcond; assumption; intro hcond; (rw [add_block]; assumption); intro hcond; exact NotOwned.au
          apply qy; rfl; rfl; rfl; apply Pev.fld; rfl; exact yes; rfl
          apply qy; rfl; rfl; rfl; apply Pev.load_blk; rfl; exact fun h => h; exact .head _; rfl; rfl
          apply qy; rfl; rfl; rfl; apply Pev.move; rfl; exact yes
          apply qy; rfl; rfl; rfl; apply Pev.bin; rfl; exact fun h => h; rfl; exact yes; intro hcond; apply Bin.sub_in; omega
          apply qy; rfl; rfl; rfl; apply Pev.idxI; rfl; exact fun h => h; rfl; exact fun h => h; rfl; intro hcond; omega
          apply qy; rfl; rfl; rfl; apply Pev.load_kept; rfl; exact fun h => h; exact .head _; rfl; intro hcond; assumption; intro hcond; (rw [add_block]; assumption); intro hcond; exact NotOwned.au
          apply qy; rfl; rfl; rfl; apply Pev.bin; rfl; exact fun h => h; rfl; exact fun h => h; intro hcond; apply Bin.leq
          apply qno; rfl; rfl; rfl; apply Pev.pick_and; rfl; exact yes; rfl; exact fun h => h
          apply qop; rfl; apply Pev.pick_or; rfl; exact yes; rfl; exact yes
          apply QL.nil
          with_reducible apply At.next
          refine W.cond rfl (fun hb => ?_) (fun hb => ?_)
          · apply W.sr
            apply oas; rfl; rfl
            apply OL.nx
            refine W.rt ?_
            ((with_reducible apply At.fin1); rfl; rfl; intro w' hw')
            exact ⟨by rw [hbad (by rw [hbk]; grind)], by (exact hw'.fr)⟩
          · apply W.skip
            with_reducible apply At.in_normal
            with_reducible apply At.next
            apply W.reg
            apply obn; rfl; rfl; rfl; apply Bin.add_in; omega
            apply omv; rfl; rfl
            apply OL.nil
            exact At.again (i + 1) ⟨by omega, hagain (by first | exact hbk | (rw [hbk]; grind))⟩ (by omega) (by exact Sub.au) (fun w' hw' => hw')
      · have hbk : bindOk (es.map Prod.fst) x i = true := by unfold bindOk; grind
        apply W.sk
        apply W.sb
        apply W.sr
        apply omv; rfl; rfl
        apply oas; rfl; rfl
        apply OL.nx
        apply W.seq
        apply W.regd0; decide +kernel; kernel_rfl; decide +kernel; exact fun w hw => hw.drew
        apply qfa; rfl; rfl; rfl
        apply qld; rfl; rfl; exact .head _; rfl; rfl
        apply qbn; rfl; rfl; rfl; apply Bin.eql
        apply qmv; rfl; rfl
        apply qy; rfl; rfl; rfl; apply Pev.move; rfl; exact yes
        apply qy; rfl; rfl; rfl; apply Pev.fld; rfl; exact yes; rfl
        apply qy; rfl; rfl; rfl; apply Pev.load_blk; rfl; exact fun h => h; exact .head _; rfl; rfl
        apply qy; rfl; rfl; rfl; apply Pev.move; rfl; exact yes
        apply QL.gateOff; exact Guard.yes rfl rfl; (simp; omega); rfl
        apply QL.gateOff; exact Guard.yes rfl rfl; (simp; omega); rfl
        apply QL.gateOff; exact Guard.yes rfl rfl; (simp; omega); rfl
        apply QL.gateOff; exact Guard.yes rfl rfl; (simp; omega); rfl
        apply QL.gateOff; exact Guard.yes rfl rfl; (simp; omega); rfl
        apply QL.gateOff; exact Guard.yes rfl rfl; (simp; omega); rfl
        apply qop; rfl; apply Pev.pick_off; rfl; exact yes; (intro hcond; simp; omega); rfl; exact yes
        apply qmv; rfl; rfl
        apply qno; rfl; rfl; rfl; apply Pev.fld; rfl; exact yes; rfl
        apply qno; rfl; rfl; rfl; apply Pev.load_blk; rfl; exact yes; exact .head _; rfl; rfl
        apply qno; rfl; rfl; rfl; apply Pev.bin; rfl; exact yes; rfl; exact yes; intro hcond; apply Bin.eql
        apply qno; rfl; rfl; rfl; apply Pev.move; rfl; exact yes
        apply qy; rfl; rfl; rfl; apply Pev.move; rfl; exact yes
        apply qy; rfl; rfl; rfl; apply Pev.bin; rfl; exact fun h => h; rfl; exact yes; intro hcond; apply Bin.gtr
        apply qno; rfl; rfl; rfl; apply Pev.pick_and; rfl; exact yes; rfl; exact fun h => h
        apply qno; rfl; rfl; rfl; apply Pev.move; rfl; exact yes
        apply qy; rfl; rfl; rfl; apply Pev.fld; rfl; exact yes; rfl
        apply qy; rfl; rfl; rfl; apply Pev.load_blk; rfl; exact fun h => h; exact .head _; rfl; rfl
        apply qy; rfl; rfl; rfl; apply Pev.move; rfl; exact yes
        apply QL.gateOff; exact Guard.yes rfl rfl; (simp; omega); rfl
        apply QL.gateOff; exact Guard.yes rfl rfl; (simp; omega); rfl
        apply qy; rfl; rfl; rfl; apply Pev.fld; rfl; exact yes; rfl
        apply qy; rfl; rfl; rfl; apply Pev.load_blk; rfl; exact fun h => h; exact .head _; rfl; rfl
        apply qy; rfl; rfl; rfl; apply Pev.move; rfl; exact yes
        apply qy; rfl; rfl; rfl; apply Pev.bin; rfl; exact fun h => h; rfl; exact yes; intro hcond; apply Bin.sub_in; omega
        apply QL.gateOff; exact Guard.yes rfl rfl; (simp; omega); rfl
        apply QL.gateOff; exact Guard.yes rfl rfl; (simp; omega); rfl
        apply QL.gateOff; exact Guard.yes rfl rfl; (simp; omega); rfl
        apply qno; rfl; rfl; rfl; apply Pev.pick_off; rfl; exact yes; (intro hcond; simp; omega); rfl; exact yes
        apply qop; rfl; apply Pev.pick_or; rfl; exact yes; rfl; exact yes
        apply QL.nil
        with_reducible apply At.next
        refine W.cond rfl (fun hb => ?_) (fun hb => ?_)
        · apply W.sr
          apply oas; rfl; rfl
          apply OL.nx
          refine W.rt ?_
          ((with_reducible apply At.fin1); rfl; rfl; intro w' hw')
          exact ⟨by rw [hbad (by rw [hbk]; grind)], by (exact hw'.fr)⟩
        · apply W.skip
          with_reducible apply At.in_normal
          with_reducible apply At.next
          apply W.reg
          apply obn; rfl; rfl; rfl; apply Bin.add_in; omega
          apply omv; rfl; rfl
          apply OL.nil
          exact At.again (i + 1) ⟨by omega, hagain (by first | exact hbk | (rw [hbk]; grind))⟩ (by omega) (by exact Sub.au) (fun w' hw' => hw')
  · obtain rfl : i = x.binds.length := by omega
    have hkb : kidsB (es.map Prod.fst) x = true := all_range hall
    refine W.xt ?_
    with_reducible apply At.next
    apply W.sr
    apply oas; rfl; rfl
    apply OL.nx
    apply W.ret
    ((with_reducible apply At.fin1); rfl; rfl; intro w' hw')
    exact ⟨by rw [hkb], by (exact hw'.fr)⟩
end Go.Proofs.YtlboppiogeaicaaDoor.co
namespace Go.Co
open Go.Eng Go.RowKit
set_option linter.unusedVariables false
set_option linter.unusedSimpArgs false
theorem dep_small {e : List Ex} {P : List Int} (ht : IsTree e) (hP : Parents e P) {i : Nat} (hi : i < e.length) : dep e P i ≤ e.length := by
  obtain ⟨d, hu, hd⟩ := dep_under ht hP hi
  have := hu.le ht.down
  omega
theorem depths_small {e : List Ex} {P : List Int} (ht : IsTree e) (hP : Parents e P) : ∀ {n : Nat}, n ≤ e.length → depths e P n ≤ e.length
  | 0, _ => Nat.zero_le _
  | n + 1, h => by
    rw [depths_succ]
    have := depths_small ht hP (n := n) (by omega)
    have := dep_small ht hP (i := n) (by omega)
    omega
/-- a node's parent, or none -/
theorem Parents.cases {e : List Ex} {P : List Int} (hP : Parents e P) (ht : IsTree e) {c : Nat} (hc : c < e.length) : P[c]? = some (-1) ∨ ∃ p m : Nat, P[c]? = some (p : Int) ∧ c < p ∧ p < e.length ∧ Par e c p m := by
  by_cases h : c + 1 < e.length
  · obtain ⟨p, m, hp⟩ := ht.one c h
    have hl := hp.lt ht.down
    exact .inr ⟨p, m, hP.par c p m hp, hl.1, hl.2, hp⟩
  · rw [show c = e.length - 1 by omega]
    exact .inl hP.root
end Go.Co
namespace Go.Proofs.YtlboppiogeaicaaDoor.co
open Go.RowKit Go.Eng Go.Co
set_option linter.unusedVariables false
set_option linter.unusedSimpArgs false
set_option maxRecDepth 100000
theorem Depth_calls (e : List Ex) (q qp : Option Addr) (cap cp : Nat) (P : List Int) (w : World) (ht : IsTree e) (hP : Parents e P) (hlen : e.length ≤ 4096) (hI : IntsO w (low w) P qp) :
    Calls Tryd.prog 71 [.slice q e.length cap, .slice qp e.length cp].toArray w fun e1 w' => e1 = .returned (.int .i64 (depths e P e.length : Int)) ∧ Ext w w' := by
  refine enter Tryd.func71 rfl Tryd.ntmps71 rfl (Cls.start w) ?_
  (simp only [argEnv, Nat.zero_add, Nat.reduceAdd])
  apply W.sr
  apply oas; rfl; rfl
  apply OL.nsr
  apply oas; rfl; rfl
  apply OL.nx
  apply W.seq
  apply W.sr
  apply omv; rfl; rfl
  apply oop; rfl; apply Pev.len_slice; rfl; exact yes; rfl
  apply omv; rfl; rfl
  apply OL.nx
  apply W.block
  refine W.loop (G := Nat) (fun i => i ≤ e.length) (fun i => e.length - i)
    (fun i => [(1, true, .slice qp e.length cp), (5, true, .int .i64 (depths e P i : Int)), (10, true, .int .i64 (e.length : Int)), (11, true, .int .i64 (i : Int))])
    (fun i => Cls [] [w]) 0 (by omega) (by exact Sub.au) (fun w' hw' => hw') ?_
  rintro i hi
  apply W.sr
  apply obn; rfl; rfl; rfl; apply Bin.lss
  apply OL.nx
  apply W.seq
  (refine W.cnd (fun hlt => ?_) (fun hlt => ?_)) <;> (try (exfalso; first | omega | exact hlt trivial | contradiction))
  · have hil : i < e.length := by omega
    have hdi := dep_small ht hP hil
    have hds := depths_small ht hP hi
    apply W.sk
    apply W.sb
    apply W.sr
    apply omv; rfl; rfl
    apply oas; rfl; rfl
    apply OL.nsr
    apply oas; rfl; rfl
    apply OL.nx
    apply W.seq
    apply W.sr
    apply omv; rfl; rfl
    apply oas; rfl; rfl
    apply OL.nx
    apply W.block
    refine W.loop (G := Int × Nat) (fun g => (g.1 = -1 ∧ g.2 = dep e P i) ∨ (0 ≤ g.1 ∧ g.1.toNat < e.length ∧ g.2 + dep e P g.1.toNat = dep e P i)) (fun g => if g.1 < 0 then 0 else e.length - g.1.toNat)
      (fun g => [(1, true, .slice qp e.length cp), (5, true, .int .i64 (depths e P i : Int)), (7, true, .int .i64 (g.2 : Int)), (8, true, .int .i64 g.1), (10, true, .int .i64 (e.length : Int)), (11, true, .int .i64 (i : Int))])
      (fun i => Cls [] [w]) ((i : Int), 0) (.inr ⟨by simp, by simpa using hil, by simp⟩) (by exact Sub.au) (fun w' hw' => hw') ?_
    rintro ⟨k, n⟩ hk
    simp only at hk ⊢
    apply W.seq
    apply W.sr
    apply omv; rfl; rfl
    apply obn; rfl; rfl; rfl; apply Bin.geq
    apply OL.nx
    (refine W.cnd (fun hk0 => ?_) (fun hk0 => ?_)) <;> (try (exfalso; first | omega | exact hk0 trivial | contradiction))
    · obtain ⟨c, rfl⟩ : ∃ c : Nat, k = (c : Int) := ⟨k.toNat, by omega⟩
      obtain ⟨hc, hn⟩ : c < e.length ∧ n + dep e P c = dep e P i := by
        rcases hk with ⟨h1, _⟩ | ⟨_, h2, h3⟩
        · omega
        · exact ⟨by simpa using h2, by simpa using h3⟩
      obtain ⟨a, u, hq, hab, hu, hcell⟩ := hI.get (i := c) (by rw [hP.len]; exact hc)
      have hab : a.block < w.heap.size := hab
      rw [hq]
      apply W.sk
      apply W.sb
      apply W.reg
      apply omv; rfl; rfl
      apply obn; rfl; rfl; rfl; apply Bin.add_in; omega
      apply oas; rfl; rfl
      apply OL.nil
      with_reducible apply At.in_normal
      with_reducible apply At.next
      apply W.reg
      apply omv; rfl; rfl
      apply omv; rfl; rfl
      apply oop; rfl; apply Pev.idx; rfl; exact yes; rfl; exact yes; rfl; rfl; intro hcond; omega
      apply oop; rfl; apply Pev.load_kept; rfl; exact yes; exact .head _; rfl; intro hcond; assumption; intro hcond; (rw [add_block]; assumption); intro hcond; exact NotOwned.au
      apply oas; rfl; rfl
      apply OL.nil
      rcases hP.cases ht hc with h1 | ⟨p, m, h1, h2, h3, _⟩
      · rw [h1] at hu
        obtain rfl := Option.some.inj hu
        have := dep_root (e := e) h1
        exact At.again (-1, n + 1) (.inl ⟨rfl, by simp only; omega⟩) (by simp only; rw [if_pos (by omega), if_neg (by omega)]; simp; omega) (by exact Sub.au) (fun w' hw' => hw')
      · rw [h1] at hu
        obtain rfl := Option.some.inj hu
        have := dep_up h1 ⟨by omega, by simpa using h2, by simpa using h3⟩
        simp only [Int.toNat_natCast] at this
        exact At.again ((p : Int), n + 1) (.inr ⟨by simp, by simpa using h3, by simp only [Int.toNat_natCast]; omega⟩) (by simp only; rw [if_neg (by omega), if_neg (by omega)]; simp; omega) (by exact Sub.au) (fun w' hw' => hw')
    · have hn : n = dep e P i := by
        rcases hk with ⟨_, h1⟩ | ⟨h1, _⟩
        · exact h1
        · omega
      subst hn
      refine W.xt ?_
      with_reducible apply At.next
      apply W.reg
      apply omv; rfl; rfl
      apply omv; rfl; rfl
      apply oop; rfl; apply Pev.max2; rfl; exact yes; rfl; exact yes
      apply oas; rfl; rfl
      apply OL.nil
      with_reducible apply At.in_normal
      with_reducible apply At.next
      apply W.reg
      apply obn; rfl; rfl; rfl; apply Bin.add_in; omega
      apply omv; rfl; rfl
      apply OL.nil
      rw [maxIf, ← depths_succ]
      skip
      exact At.again (i + 1) (by omega) (by omega) (by exact Sub.au) (fun w' hw' => hw')
  · obtain rfl : i = e.length := by omega
    refine W.xt ?_
    with_reducible apply At.next
    apply W.sr
    apply omv; rfl; rfl
    apply oas; rfl; rfl
    apply OL.nx
    apply W.ret
    ((with_reducible apply At.fin1); rfl; rfl; intro w' hw')
    exact ⟨rfl, by (exact hw'.fr)⟩
theorem binder_calls (es : List (Ex × ExY)) (q qp : Option Addr) (cap cp : Nat) (P : List Int) (at_ : Nat) (x0 : Ex) (w : World) (he : Arr exR w (low w) es q) (hlen : es.length ≤ 4096) (ht : IsTree (es.map Prod.fst)) (hP : Parents (es.map Prod.fst) P) (hI : IntsO w (low w) P qp)
    (hx0 : (es.map Prod.fst)[at_]? = some x0) (hk7 : ∀ p ∈ es, p.1.op = 7 ∨ p.1.op = 13 → p.1.kids.length = 1 + p.1.alts.length) (ha : ∀ p ∈ es, ¬ (p.1.op = 7 ∨ p.1.op = 13) → p.1.alts.length = 0) :
    Calls Tryd.prog 46 [.slice q es.length cap, .slice qp es.length cp, .int .i64 (at_ : Int)].toArray w fun e1 w' => e1 = .returned (.int .i64 (bnd (es.map Prod.fst) P x0.n at_)) ∧ Ext w w' := by
  obtain ⟨e, hee⟩ : ∃ e, es.map Prod.fst = e := ⟨_, rfl⟩
  have hel : e.length = es.length := by rw [← hee, List.length_map]
  rw [hee] at hx0 ht hP ⊢
  have hget : ∀ {i : Nat}, i < es.length → ∃ a p, q = some a ∧ a.block < w.heap.size ∧ es[i]? = some p ∧ e[i]? = some p.1 ∧ CellsAt w (a.add (i * 5)) [.int .i64 p.1.op, .int .i64 p.1.n, .slice p.2.b.1 p.1.binds.length p.2.b.2, .slice p.2.k.1 p.1.kids.length p.2.k.2, .slice p.2.a.1 p.1.alts.length p.2.a.2] ∧ ExOk w (low w) p.1 p.2 := fun {i} hi => by
    obtain ⟨a, p, h1, h2, h3, h4, h5⟩ := he.get hi
    exact ⟨a, p, h1, h2, h3, by rw [← hee, List.getElem?_map, h3]; rfl, h4, h5⟩
  have hat : at_ < es.length := by have := (List.getElem?_eq_some_iff.1 hx0).1; omega
  obtain ⟨a0, p0, hq0, hab0, hp0, hpe0, hcell0, hok0⟩ := hget hat
  rw [hx0] at hpe0
  obtain rfl := Option.some.inj hpe0
  refine enter Tryd.func46 rfl Tryd.ntmps46 rfl (Cls.start w) ?_
  (simp only [argEnv, Nat.zero_add, Nat.reduceAdd])
  apply W.sr
  apply oas; rfl; rfl
  apply OL.nx
  apply W.seq
  apply W.sr
  apply omv; rfl; rfl
  apply oas; rfl; rfl
  apply OL.nx
  apply W.block
  refine W.loop (G := Nat) (fun c => c < es.length ∧ bnd e P p0.1.n c = bnd e P p0.1.n at_) (fun c => es.length - c)
    (fun c => [(0, true, .slice q es.length cap), (1, true, .slice qp es.length cp), (2, true, .int .i64 (at_ : Int)), (7, true, .int .i64 (c : Int))])
    (fun c => Cls [] [w]) at_ ⟨hat, rfl⟩ (by exact Sub.au) (fun w' hw' => hw') ?_
  rintro c ⟨hc, hb⟩
  obtain ⟨a, u, hq, hab, hu, hcell⟩ := hI.get (i := c) (by rw [hP.len]; omega)
  have hab : a.block < w.heap.size := hab
  rw [hq]
  apply W.seq
  apply W.sr
  apply omv; rfl; rfl
  apply omv; rfl; rfl
  apply oop; rfl; apply Pev.idx; rfl; exact yes; rfl; exact yes; rfl; rfl; intro hcond; omega
  apply oop; rfl; apply Pev.load_kept; rfl; exact yes; exact .head _; rfl; intro hcond; assumption; intro hcond; (rw [add_block]; assumption); intro hcond; exact NotOwned.au
  apply obn; rfl; rfl; rfl; apply Bin.geq
  apply OL.nx
  rcases hP.cases ht (c := c) (by omega) with h1 | ⟨p, m0, h1, h2, h3, _⟩
  · rw [h1] at hu
    obtain rfl := Option.some.inj hu
    refine W.cond rfl (fun hb => by cases hb) (fun _ => ?_)
    refine W.xt ?_
    with_reducible apply At.next
    apply W.sr
    apply oas; rfl; rfl
    apply OL.nx
    apply W.ret
    ((with_reducible apply At.fin1); rfl; rfl; intro w' hw')
    exact ⟨by rw [← hb, bnd_root h1], by (exact hw'.fr)⟩
  · rw [h1] at hu
    obtain rfl := Option.some.inj hu
    obtain ⟨a1, x, hq1, hab1, hp1, hpe1, hcell1, hok1⟩ := hget (i := p) (by omega)
    rw [hq0] at hq1
    obtain rfl := Option.some.inj hq1
    have hkl := hok1.kl
    have hup := bnd_up (n := p0.1.n) h1 h2 hpe1
    rw [hq0]
    refine W.cond rfl (fun _ => ?_) (fun hb => by simp at hb)
    apply W.sk
    apply W.sb
    apply W.sr
    apply omv; rfl; rfl
    apply omv; rfl; rfl
    apply oop; rfl; apply Pev.idx; rfl; exact yes; rfl; exact yes; rfl; rfl; intro hcond; omega
    apply oop; rfl; apply Pev.load_kept; rfl; exact yes; exact .head _; rfl; intro hcond; assumption; intro hcond; (rw [add_block]; assumption); intro hcond; exact NotOwned.au
    apply oas; rfl; rfl
    apply OL.nsr
    apply omv; rfl; rfl
    apply omv; rfl; rfl
    apply oop; rfl; apply Pev.idx; rfl; exact yes; rfl; exact yes; rfl; rfl; intro hcond; omega
    apply oop; rfl; apply Pev.fldA; rfl; exact yes; rfl
    apply oop; rfl; apply Pev.load_kept; rfl; exact yes; exact .head _; rfl; intro hcond; apply CellsAt.at_ (by assumption) rfl; intro hcond; (simp only [add_block]; assumption); intro hcond; exact NotOwned.au
    apply oop; rfl; apply Pev.len_slice; rfl; exact yes; rfl
    apply omv; rfl; rfl
    apply OL.nx
    apply W.block
    refine W.loop (G := Nat) (fun m => m ≤ x.1.kids.length ∧ ∀ m', m' < m → hitK x.1 c p0.1.n m' = false) (fun m => x.1.kids.length - m)
      (fun m => [(0, true, .slice (some a0) es.length cap), (1, true, .slice (some a) es.length cp), (2, true, .int .i64 (at_ : Int)), (7, true, .int .i64 (c : Int)), (8, true, .int .i64 (p : Int)), (29, true, .slice x.2.k.1 x.1.kids.length x.2.k.2), (30, true, .int .i64 (x.1.kids.length : Int)), (31, true, .int .i64 (m : Int))])
      (fun m => Cls [] [w]) 0 ⟨by omega, fun m' h => by omega⟩ (by exact Sub.au) (fun w' hw' => hw') ?_
    rintro m ⟨hm, hno⟩
    apply W.sr
    apply obn; rfl; rfl; rfl; apply Bin.lss
    apply OL.nx
    apply W.seq
    (refine W.cnd (fun hlt => ?_) (fun hlt => ?_)) <;> (try (exfalso; first | omega | exact hlt trivial | contradiction))
    · have hml : m < x.1.kids.length := by omega
      obtain ⟨ak, k, hqk, habk, hk, hck⟩ := hok1.k.get hml
      have habk : ak.block < w.heap.size := habk
      have hxm := List.mem_of_getElem? hp1
      rw [hqk]
      by_cases hkc : k = (c : Int)
      · subst hkc
        obtain ⟨qs, cs, hIs, hsl, hcall⟩ := Scope_calls x.1 x.2 m w hok1 (fun h7 => by have := hk7 x hxm h7; omega) (ha x hxm) (by omega)
        simp only [exC] at hcall
        have hhk : hitK x.1 c p0.1.n m = decide (p0.1.n ∈ scopeX x.1 m) := by unfold hitK; rw [hk]; simp
        apply W.sk
        apply W.sb
        apply W.sr
        apply omv; rfl; rfl
        apply oop; rfl; apply Pev.idx; rfl; exact yes; rfl; exact yes; rfl; rfl; intro hcond; omega
        apply oop; rfl; apply Pev.load_kept; rfl; exact yes; exact .head _; rfl; intro hcond; assumption; intro hcond; (rw [add_block]; assumption); intro hcond; exact NotOwned.au
        apply oas; rfl; rfl
        apply oas; rfl; rfl
        apply OL.nx
        apply W.seq
        apply W.regd0; decide +kernel; kernel_rfl; decide +kernel; exact fun w hw => hw.drew
        apply qmv; rfl; rfl
        apply qmv; rfl; rfl
        apply qbn; rfl; rfl; rfl; apply Bin.eql
        apply qmv; rfl; rfl
        apply qy; rfl; rfl; rfl; apply Pev.move; rfl; exact yes
        apply qy; rfl; rfl; rfl; apply Pev.move; rfl; exact yes
        apply qy; rfl; rfl; rfl; apply Pev.idx; rfl; exact fun h => h; rfl; exact fun h => h; rfl; rfl; intro hcond; omega
        apply qy; rfl; rfl; rfl; apply Pev.load_keptA; rfl; exact fun h => h; exact .head _; rfl; intro hcond; assumption; rfl; intro hcond; (rw [add_block]; assumption); intro hcond; exact NotOwned.au
        apply qy; rfl; rfl; rfl; apply Pev.move; rfl; exact yes
        (((first | (with_reducible apply OL.op) | (with_reducible apply QL.op)); (exact Guard.au); rfl; rfl); (exact Pev.call rfl (by exact Args.au) (fun _ w2 hw2 => (hcall w2 (hw2.same (.head _) (fun k hk => by exact NotOwned.au)) (hw2.kp w (by exact mau)).size).mono (fun e w3 h => ⟨h.1, hw2.ext h.2⟩))))
        apply qy; rfl; rfl; rfl; apply Pev.move; rfl; exact yes
        apply qy; rfl; rfl; rfl; apply Pev.move; rfl; exact yes
        apply qy; rfl; rfl; rfl; apply Pev.idx; rfl; exact fun h => h; rfl; exact fun h => h; rfl; rfl; intro hcond; omega
        apply qy; rfl; rfl; rfl; apply Pev.fldA; rfl; exact fun h => h; rfl
        apply qy; rfl; rfl; rfl; apply Pev.load_kept; rfl; exact fun h => h; exact .head _; rfl; intro hcond; apply CellsAt.at_ (by assumption) rfl; intro hcond; (simp only [add_block]; assumption); intro hcond; exact NotOwned.au
        (((first | (with_reducible apply OL.op) | (with_reducible apply QL.op)); (exact Guard.au); rfl; rfl); (exact Pev.call rfl (by exact Args.au) (fun _ w2 hw2 => (In_calls qs cs (scopeX x.1 m) p0.1.n w2 (by omega) (hIs.at hw2 (by exact mau) (fun k hk => by exact NotOwned.au))).mono (fun e w3 h => ⟨h.1, hw2.ext h.2⟩))))
        apply qop; rfl; apply Pev.pick_and; rfl; exact yes; rfl; exact fun h => h
        apply QL.nil
        with_reducible apply At.next
        refine W.cond rfl (fun hb2 => ?_) (fun hb2 => ?_)
        · have hin : p0.1.n ∈ scopeX x.1 m := by simpa using hb2
          apply W.sr
          apply omv; rfl; rfl
          apply oas; rfl; rfl
          apply OL.nx
          refine W.rt ?_
          ((with_reducible apply At.fin1); rfl; rfl; intro w' hw')
          refine ⟨?_, by (exact hw'.fr)⟩
          have hh : hit x.1 c p0.1.n = true := by
            unfold hit
            rw [List.any_eq_true]
            exact ⟨m, List.mem_range.2 hml, by rw [hhk]; simpa using hin⟩
          rw [← hb, hup, if_pos hh]
        · have hnin : ¬ p0.1.n ∈ scopeX x.1 m := by simpa using hb2
          apply W.skip
          with_reducible apply At.in_normal
          with_reducible apply At.next
          apply W.reg
          apply obn; rfl; rfl; rfl; apply Bin.add_in; omega
          apply omv; rfl; rfl
          apply OL.nil
          refine At.again (m + 1) ⟨by omega, fun m' hm' => ?_⟩ (by omega) (by exact Sub.au) (fun w' hw' => hw')
          by_cases em : m' = m
          · subst em
            rw [hhk]
            simpa using hnin
          · exact hno m' (by omega)
      · apply W.sk
        apply W.sb
        apply W.sr
        apply omv; rfl; rfl
        apply oop; rfl; apply Pev.idx; rfl; exact yes; rfl; exact yes; rfl; rfl; intro hcond; omega
        apply oop; rfl; apply Pev.load_kept; rfl; exact yes; exact .head _; rfl; intro hcond; assumption; intro hcond; (rw [add_block]; assumption); intro hcond; exact NotOwned.au
        apply oas; rfl; rfl
        apply oas; rfl; rfl
        apply OL.nx
        apply W.seq
        apply W.regd0; decide +kernel; kernel_rfl; decide +kernel; exact fun w hw => hw.drew
        apply qmv; rfl; rfl
        apply qmv; rfl; rfl
        apply qbn; rfl; rfl; rfl; apply Bin.eql
        apply qmv; rfl; rfl
        apply qy; rfl; rfl; rfl; apply Pev.move; rfl; exact yes
        apply qy; rfl; rfl; rfl; apply Pev.move; rfl; exact yes
        apply qy; rfl; rfl; rfl; apply Pev.idx; rfl; exact fun h => h; rfl; exact fun h => h; rfl; rfl; intro hcond; omega
        apply qy; rfl; rfl; rfl; apply Pev.load_keptA; rfl; exact fun h => h; exact .head _; rfl; intro hcond; assumption; rfl; intro hcond; (rw [add_block]; assumption); intro hcond; exact NotOwned.au
        apply qy; rfl; rfl; rfl; apply Pev.move; rfl; exact yes
        apply QL.gateOff; exact Guard.yes rfl rfl; (simp; omega); rfl
        apply qy; rfl; rfl; rfl; apply Pev.move; rfl; exact yes
        apply qy; rfl; rfl; rfl; apply Pev.move; rfl; exact yes
        apply qy; rfl; rfl; rfl; apply Pev.idx; rfl; exact fun h => h; rfl; exact fun h => h; rfl; rfl; intro hcond; omega
        apply qy; rfl; rfl; rfl; apply Pev.fldA; rfl; exact fun h => h; rfl
        apply qy; rfl; rfl; rfl; apply Pev.load_kept; rfl; exact fun h => h; exact .head _; rfl; intro hcond; apply CellsAt.at_ (by assumption) rfl; intro hcond; (simp only [add_block]; assumption); intro hcond; exact NotOwned.au
        apply QL.gateOff; exact Guard.yes rfl rfl; (simp; omega); rfl
        apply qop; rfl; apply Pev.pick_off; rfl; exact yes; (intro hcond; simp; omega); rfl; exact yes
        apply QL.nil
        with_reducible apply At.next
        refine W.cond rfl (fun hb2 => by simp [hkc] at hb2) (fun hb2 => ?_)
        apply W.skip
        with_reducible apply At.in_normal
        with_reducible apply At.next
        apply W.reg
        apply obn; rfl; rfl; rfl; apply Bin.add_in; omega
        apply omv; rfl; rfl
        apply OL.nil
        refine At.again (m + 1) ⟨by omega, fun m' hm' => ?_⟩ (by omega) (by exact Sub.au) (fun w' hw' => hw')
        by_cases em : m' = m
        · subst em
          unfold hitK
          rw [hk]
          simp [hkc]
        · exact hno m' (by omega)
    · obtain rfl : m = x.1.kids.length := by omega
      have hh : ¬ hit x.1 c p0.1.n = true := by
        unfold hit
        rw [List.any_eq_true]
        rintro ⟨m', h4, h5⟩
        rw [hno m' (List.mem_range.1 h4)] at h5
        cases h5
      rw [if_neg hh] at hup
      refine W.xt ?_
      with_reducible apply At.in_normal
      with_reducible apply At.next
      apply W.reg
      apply omv; rfl; rfl
      apply omv; rfl; rfl
      apply oop; rfl; apply Pev.idx; rfl; exact yes; rfl; exact yes; rfl; rfl; intro hcond; omega
      apply oop; rfl; apply Pev.load_kept; rfl; exact yes; exact .head _; rfl; intro hcond; assumption; intro hcond; (rw [add_block]; assumption); intro hcond; exact NotOwned.au
      apply oas; rfl; rfl
      apply OL.nil
      refine At.again p ⟨by omega, by rw [← hb, hup]⟩ (by omega) (by exact Sub.au) (fun w' hw' => hw')
end Go.Proofs.YtlboppiogeaicaaDoor.co
namespace Go.Co
open Go.Eng Go.RowKit
set_option linter.unusedVariables false
set_option linter.unusedSimpArgs false
theorem IntsO.part {w w' : World} {lo : Nat} {l : List Int} {q : Option Addr} {H : List Eng.Item} {S : List World} (h : IntsO w (fun k => lo ≤ k ∧ k < w.heap.size) l q) (hw : Cls H S w') (hs : w ∈ S) (hno : ∀ k, lo ≤ k → NotOwned H k) : IntsO w' (low w') l q :=
  IntsO.mono (fun k hk => Nat.lt_of_lt_of_le hk.2 (hw.kp w hs).size) (IntsO.stab (fun k hk => (hw.kp w hs).block k hk.2 (hno k hk.1).not) h)
theorem IntsO.take {w : World} {O : Nat → Prop} {l : List Int} {q : Option Addr} (h : IntsO w O l q) (i : Nat) : IntsO w O (l.take i) q := fun hl => by
  rw [List.length_take] at hl
  obtain ⟨a, h1, h2, h3⟩ := h (by omega)
  refine ⟨a, h1, h2, fun j v hj => ?_⟩
  unfold ints at hj
  rw [List.map_take] at hj
  by_cases hji : j < i
  · rw [List.getElem?_take_of_lt hji] at hj
    exact h3 j v hj
  · rw [List.getElem?_eq_none (by rw [List.length_take]; omega)] at hj
    cases hj
theorem oneR_zero {e : List Ex} {flat : Bool} {x : Ex} (h : oneE e flat x = 0) : nodeE e x = 0 := by
  unfold oneE at h
  split at h
  · omega
  · exact h
theorem shape_kids {x : Ex} (h : shapeB x = true) : (x.op = 7 ∨ x.op = 13 → x.kids.length = 1 + x.alts.length) ∧ (¬ (x.op = 7 ∨ x.op = 13) → x.alts.length = 0) ∧ (x.op = 5 → x.kids.length = x.binds.length + 1) := by
  unfold shapeB at h
  by_cases h7 : x.op = 7 ∨ x.op = 13
  · rw [if_pos h7] at h
    simp only [Bool.and_eq_true, altsB, decide_eq_true_eq] at h
    exact ⟨fun _ => h.1.1.1.2, fun h8 => absurd h7 h8, fun h5 => by omega⟩
  · rw [if_neg h7] at h
    split at h
    · cases h
    · rename_i k b u hs
      simp only [Bool.and_eq_true, decide_eq_true_eq] at h
      refine ⟨fun h8 => absurd h8 h7, fun _ => h.1.2, fun h5 => ?_⟩
      unfold sh at hs
      simp [h5] at hs
      omega
theorem free_ok {e : List Ex} {P : List Int} {ps : List Int} (ht : IsTree e) (hP : Parents e P) (h0 : 0 < e.length) (h : ∀ (j : Nat) (x : Ex), e[j]? = some x → x.op = 0 → bnd e P x.n j < 0 → x.n ∈ ps) : ∀ n ∈ fv (grow e (e.length - 1)) [], n ∈ ps := fun n hn => by
  obtain ⟨j, x, sc, h1, h2, h3, h4, h5⟩ := (mem_fv ht.down (e.length - 1) (by omega) []).1 hn
  subst h3
  refine h j x h1 h2 ((bnd_neg ht hP x.n (List.getElem?_eq_some_iff.1 h1).1).2 fun sc2 hu => ?_)
  rw [Under.uniq ht hu h4]
  simpa using h5
theorem free_bad {e : List Ex} {P : List Int} (ht : IsTree e) (hP : Parents e P) (h0 : 0 < e.length) {j : Nat} {x : Ex} (hx : e[j]? = some x) (hop : x.op = 0) (hb : bnd e P x.n j < 0) : x.n ∈ fv (grow e (e.length - 1)) [] := by
  have hj := (List.getElem?_eq_some_iff.1 hx).1
  obtain ⟨sc, hu⟩ := ht.root hj
  exact (mem_fv ht.down (e.length - 1) (by omega) []).2 ⟨j, x, sc, hx, hop, rfl, hu, by simpa using (bnd_neg ht hP x.n hj).1 hb sc hu⟩
theorem treeE_tree {e : List Ex} (h : e.length ≤ 4096) (hg : TreeP e) : treeE e = if 400 < high (grow e (e.length - 1)) then 2 else 0 := treeE_ok h hg.1 hg.2.1 hg.2.2
theorem binders_small {l : List Ex} (h : ∀ x ∈ l, Lim x) : (l.flatMap bindersX).length ≤ l.length * 65552 := by
  induction l with
  | nil => simp
  | cons x r ih =>
    have h1 := h x (.head _)
    have h2 := ih fun y hy => h y (.tail _ hy)
    have h3 := flat_len h1.ab
    have h4 := h1.a
    have h5 := h1.b
    have h6 : (bindersX x).length ≤ 65552 := by
      unfold bindersX
      have h8 : (if x.op = 2 ∨ x.op = 4 ∨ x.op = 5 then x.binds else []).length ≤ x.binds.length := by split <;> simp
      rw [List.length_append]
      omega
    rw [List.flatMap_cons, List.length_append, List.length_cons]
    omega
end Go.Co
namespace Go.Proofs.YtlboppiogeaicaaDoor.co
open Go.RowKit Go.Eng Go.Co
set_option linter.unusedVariables false
set_option linter.unusedSimpArgs false
set_option maxRecDepth 100000
theorem BodyFault_calls (es : List (Ex × ExY)) (q qp : Option Addr) (cap cp : Nat) (ps : List Int) (flat : Bool) (w : World) (he : Arr exR w (low w) es q) (hlen : es.length ≤ 9223372036854775807) (hp : IntsO w (low w) ps qp) (hpl : ps.length ≤ 4096) :
    Calls Tryd.prog 38 [.slice q es.length cap, .slice qp ps.length cp, .bool flat].toArray w fun e w' => e = .returned (.int .i64 (bodyE (es.map Prod.fst) ps flat)) ∧ Ext w w' := by
  obtain ⟨e, hee⟩ : ∃ e, es.map Prod.fst = e := ⟨_, rfl⟩
  have hel : e.length = es.length := by rw [← hee, List.length_map]
  rw [hee]
  refine enter Tryd.func38 rfl Tryd.ntmps38 rfl (Cls.start w) ?_
  (simp only [argEnv, Nat.zero_add, Nat.reduceAdd])
  apply W.sr
  apply oas; rfl; rfl
  apply OL.nx
  apply W.seq
  apply W.sr
  apply omv; rfl; rfl
  apply oop; rfl; apply Pev.len_slice; rfl; exact yes; rfl
  apply obn; rfl; rfl; rfl; apply Bin.gtr
  apply OL.nx
  (refine W.cnd (fun hbig => ?_) (fun hbig => ?_)) <;> (try (exfalso; first | omega | exact hbig trivial | contradiction))
  · apply W.sr
    apply oas; rfl; rfl
    apply OL.nx
    refine W.rt ?_
    ((with_reducible apply At.fin1); rfl; rfl; intro w' hw')
    have h2 := treeE_big (e := e) (by omega)
    exact ⟨by rw [bodyE_tree (by rw [h2]; simp), h2], by (exact hw'.fr)⟩
  have hl4 : es.length ≤ 4096 := by omega
  apply W.sk
  apply W.sr
  apply omv; rfl; rfl
  refine OL.callE (α := Option Addr × Nat × Nat × Bool × World) (fun z => .tuple #[.slice z.1 z.2.1 z.2.2.1, .bool z.2.2.2.1]) (fun z => (z.2.2.2.1 = true ↔ TreeP e) ∧ (z.2.2.2.1 = true → z.2.1 = es.length ∧ ∃ P, Parents e P ∧ IntsO z.2.2.2.2 (low z.2.2.2.2) P z.1) ∧ w.heap.size ≤ z.2.2.2.2.heap.size) (fun z => Cls [] [z.2.2.2.2, w]) rfl rfl (by exact Args.au) (fun w2 hw2 => (parentsOf_calls es q cap w2 (he.at hw2 (by exact mau) (fun k hk => by exact NotOwned.au)) hl4).mono (fun e1 w3 ⟨q', n, c, b, h1, h2, h3, h4⟩ => ⟨(q', n, c, b, w3), h1, ⟨by rw [hee] at h3; exact h3, by rw [hee] at h4; exact h4, Nat.le_trans (hw2.kp w (by exact mau)).size h2.size⟩, (hw2.ext h2).note⟩)) ?_
  rintro ⟨qr, n, cr, b, w1⟩ ⟨hbt, hbP, hsz1⟩
  simp only at hbt hbP hsz1 ⊢
  apply omv; rfl; rfl
  apply oex; rfl; rfl; rfl
  apply oex; rfl; rfl; rfl
  apply oas; rfl; rfl
  apply oas; rfl; rfl
  apply OL.nx
  apply W.seq
  apply W.sr
  apply omv; rfl; rfl
  apply oop; rfl; apply Pev.not; rfl; exact yes
  apply OL.nx
  (refine W.cnd (fun hnt => ?_) (fun hnt => ?_)) <;> (try (exfalso; first | omega | exact hnt trivial | contradiction))
  · have hnot : ¬ TreeP e := fun h => by have := hbt.2 h; simp_all
    have h3 : treeE e = 3 := treeE_bad (by omega) hnot
    apply W.sr
    apply oas; rfl; rfl
    apply OL.nx
    refine W.rt ?_
    ((with_reducible apply At.fin1); rfl; rfl; intro w' hw')
    exact ⟨by rw [bodyE_tree (by rw [h3]; simp), h3], by (exact hw'.fr)⟩
  have hb1 : b = true := by simpa using hnt
  have hT : TreeP e := hbt.1 hb1
  obtain ⟨rfl, P, hP, hPI⟩ := hbP hb1
  have ht := hT.tree
  have hpos := hT.1
  have hte := treeE_tree (by omega) hT
  rw [← depths_high ht hP hpos] at hte
  apply W.sk
  apply W.seq
  apply W.sr
  apply omv; rfl; rfl
  apply omv; rfl; rfl
  (((first | (with_reducible apply OL.op) | (with_reducible apply QL.op)); (exact Guard.au); rfl; rfl); (refine Pev.call (v := .int .i64 (depths e P e.length : Int)) rfl (by exact Args.au) (fun _ w2 hw2 => ?_)))
  · have h5 := Depth_calls e q qr cap cr P w2 ht hP (by omega) (hPI.at hw2 (by exact mau) (fun k hk => by exact NotOwned.au))
    rw [hel] at h5 ⊢
    exact h5.mono (fun e w3 h => ⟨h.1, hw2.ext h.2⟩)
  apply obn; rfl; rfl; rfl; apply Bin.gtr
  apply OL.nx
  (refine W.cnd (fun hdeep => ?_) (fun hdeep => ?_)) <;> (try (exfalso; first | omega | exact hdeep trivial | contradiction))
  · rw [if_pos (by omega)] at hte
    apply W.sr
    apply oas; rfl; rfl
    apply OL.nx
    refine W.rt ?_
    ((with_reducible apply At.fin1); rfl; rfl; intro w' hw')
    exact ⟨by rw [bodyE_tree (by rw [hte]; simp), hte], by (exact hw'.fr)⟩
  rw [if_neg (by omega)] at hte
  have hkd : ∀ p ∈ es, ∀ k ∈ p.1.kids, 0 ≤ k ∧ k < (es.length : Int) := fun p hp k hk => by
    obtain ⟨i, hi⟩ := List.getElem?_of_mem hp
    have hx : e[i]? = some p.1 := by rw [← hee, List.getElem?_map, hi]; rfl
    have := ht.down i p.1 hx k hk
    have := (List.getElem?_eq_some_iff.1 hx).1
    omega
  apply W.sk
  apply W.seq
  apply W.sr
  apply omv; rfl; rfl
  apply oop; rfl; apply Pev.len_slice; rfl; exact yes; rfl
  apply omv; rfl; rfl
  apply OL.nx
  apply W.block
  refine W.loop (G := Nat) (fun i => i ≤ es.length ∧ firstE (oneE e flat) (e.drop i) = firstE (oneE e flat) e) (fun i => es.length - i)
    (fun i => [(0, true, .slice q es.length cap), (1, true, .slice qp ps.length cp), (2, true, .bool flat), (7, true, .slice qr es.length cr), (33, true, .slice q es.length cap), (34, true, .int .i64 (es.length : Int)), (35, true, .int .i64 (i : Int))])
    (fun i => Cls [] [w1, w]) 0 ⟨by omega, rfl⟩ (by exact Sub.au) (fun w' hw' => hw') ?_
  rintro i ⟨hi, hrest⟩
  apply W.sr
  apply obn; rfl; rfl; rfl; apply Bin.lss
  apply OL.nx
  apply W.seq
  (refine W.cnd (fun hlt => ?_) (fun hlt => ?_)) <;> (try (exfalso; first | omega | exact hlt trivial | contradiction))
  · have hil : i < es.length := by omega
    obtain ⟨a, p, rfl, hab, hpi, hcell, hok⟩ := he.get hil
    have hab : a.block < w.heap.size := hab
    have hcell : CellsAt w (a.add (i * 5)) [.int .i64 p.1.op, .int .i64 p.1.n, .slice p.2.b.1 p.1.binds.length p.2.b.2, .slice p.2.k.1 p.1.kids.length p.2.k.2, .slice p.2.a.1 p.1.alts.length p.2.a.2] := hcell
    have hx : e[i]? = some p.1 := by rw [← hee, List.getElem?_map, hpi]; rfl
    rw [firstE_drop hx] at hrest
    have hone : oneE e flat p.1 = oneR e flat p.1 := (oneR_eq e flat p.1).symm
    apply W.sk
    apply W.sb
    apply W.sr
    apply oop; rfl; apply Pev.idx; rfl; exact yes; rfl; exact yes; rfl; rfl; intro hcond; omega
    apply oop; rfl; apply Pev.load_keptA; rfl; exact yes; exact .tail _ (.head _); rfl; intro hcond; assumption; rfl; intro hcond; (rw [add_block]; assumption); intro hcond; exact NotOwned.au
    apply OL.alloc; rfl; rfl; exact CellsL.agg; (intro bk hbk; simp only [AllLe, and_true] at hbk)
    apply OL.storeB; rfl; rfl; exact CellsL.agg; rfl; rfl; rfl; exact Swap.au; exact Put.au
    apply OL.nx
    apply W.seq
    apply W.sr
    apply omv; rfl; rfl
    apply oop; rfl; apply Pev.load_blkA; rfl; exact yes; exact .head _; rfl; exact Take.au
    apply omv; rfl; rfl
    (((first | (with_reducible apply OL.op) | (with_reducible apply QL.op)); (exact Guard.au); rfl; rfl); (exact Pev.call rfl (by exact Args.au) (fun _ w2 hw2 => (goodForm_calls es (some a) cap p.1 p.2 flat w2 (hok.at hw2 (by exact mau) (fun k hk => by exact NotOwned.au))).mono (fun e w3 h => ⟨h.1, hw2.ext h.2⟩))))
    apply oop; rfl; apply Pev.not; rfl; exact yes
    apply OL.nx
    (refine W.cnd (fun hgf => ?_) (fun hgf => ?_)) <;> (try (exfalso; first | omega | exact hgf trivial | contradiction))
    · have h3 : oneE e flat p.1 = 3 := by rw [hone]; unfold oneR; rw [if_pos (by cases h1 : flatBad flat p.1.op <;> cases h2 : formR p.1 <;> simp_all)]
      rw [h3] at hrest
      apply W.sr
      apply oas; rfl; rfl
      apply OL.nx
      refine W.rt ?_
      ((with_reducible apply At.fin1); rfl; rfl; intro w' hw')
      exact ⟨by rw [bodyE_one hte (by rw [← hrest]; simp), ← hrest]; simp, by (exact hw'.fr)⟩
    have hgf' : (!flatBad flat p.1.op && formR p.1) = true := by cases h1 : flatBad flat p.1.op <;> cases h2 : formR p.1 <;> simp_all
    have hsh : shapeB p.1 = true := by rw [← formR_eq]; exact (Bool.and_eq_true _ _ ▸ hgf' : _ ∧ _).2
    have hskk := shape_kids hsh
    apply W.sk
    apply W.seq
    apply W.sr
    apply oop; rfl; apply Pev.load_blkA; rfl; exact yes; exact .head _; rfl; exact Take.au
    (((first | (with_reducible apply OL.op) | (with_reducible apply QL.op)); (exact Guard.au); rfl; rfl); (exact Pev.call rfl (by exact Args.au) (fun _ w2 hw2 => (numbersError_calls p.1 p.2 w2 (hok.at hw2 (by exact mau) (fun k hk => by exact NotOwned.au))).mono (fun e w3 h => ⟨h.1, hw2.ext h.2⟩))))
    apply oas; rfl; rfl
    apply OL.nsr
    apply omv; rfl; rfl
    apply obn; rfl; rfl; rfl; apply Bin.neq
    apply OL.nx
    (refine W.cnd (fun hne => ?_) (fun hne => ?_)) <;> (try (exfalso; first | omega | exact hne trivial | contradiction))
    · have h3 : oneE e flat p.1 = numE p.1 := by rw [hone]; unfold oneR; rw [if_neg (by rw [hgf']; simp), if_pos (by simpa using hne)]
      rw [h3, if_neg (by simpa using hne)] at hrest
      apply W.sr
      apply omv; rfl; rfl
      apply oas; rfl; rfl
      apply OL.nx
      refine W.rt ?_
      ((with_reducible apply At.fin1); rfl; rfl; intro w' hw')
      exact ⟨by rw [bodyE_one hte (by rw [← hrest]; simpa using hne), ← hrest], by (exact hw'.fr)⟩
    apply W.sk
    apply W.sr
    apply omv; rfl; rfl
    apply oop; rfl; apply Pev.load_blkA; rfl; exact yes; exact .head _; rfl; exact Take.au
    (((first | (with_reducible apply OL.op) | (with_reducible apply QL.op)); (exact Guard.au); rfl; rfl); (exact Pev.call rfl (by exact Args.au) (fun _ w2 hw2 => (goodKids_calls es (some a) cap p.1 p.2 w2 (hok.at hw2 (by exact mau) (fun k hk => by exact NotOwned.au)) (he.at hw2 (by exact mau) (fun k hk => by exact NotOwned.au)) hl4 (hkd p (List.mem_of_getElem? hpi)) hskk.2.2).mono (fun e w3 h => ⟨h.1, hw2.ext h.2⟩))))
    rw [hee]
    apply oop; rfl; apply Pev.not; rfl; exact yes
    apply OL.nx
    (refine W.cnd (fun hgk => ?_) (fun hgk => ?_)) <;> (try (exfalso; first | omega | exact hgk trivial | contradiction))
    · have h3 : oneE e flat p.1 = 3 := by rw [hone]; unfold oneR; rw [if_neg (by rw [hgf']; simp), if_neg (by simpa using hne), if_pos (by simpa using hgk)]
      rw [h3] at hrest
      apply W.sr
      apply oas; rfl; rfl
      apply OL.nx
      refine W.rt ?_
      ((with_reducible apply At.fin1); rfl; rfl; intro w' hw')
      exact ⟨by rw [bodyE_one hte (by rw [← hrest]; simp), ← hrest]; simp, by (exact hw'.fr)⟩
    have h3 : oneE e flat p.1 = 0 := by rw [hone]; unfold oneR; rw [if_neg (by rw [hgf']; simp), if_neg (by simpa using hne), if_neg (by simpa using hgk)]
    rw [h3, if_pos rfl] at hrest
    apply W.skip
    with_reducible apply At.in_normal
    with_reducible apply At.next
    apply W.reg
    apply obn; rfl; rfl; rfl; apply Bin.add_in; omega
    apply omv; rfl; rfl
    apply OL.nil
    exact At.again (i + 1) ⟨by omega, hrest⟩ (by omega) (by exact Sub.au) (fun w' hw' => hw'.thin (by exact Thin.au))
  obtain rfl : i = es.length := by omega
  rw [← hel, List.drop_length] at hrest
  have hall : firstE (oneE e flat) e = 0 := hrest.symm
  have hzero : ∀ x ∈ e, nodeE e x = 0 ∧ x.kids.length ≤ 4096 := fun x hx => by
    obtain ⟨i, hi⟩ := List.getElem?_of_mem hx
    have h2 := kids_len ht hi
    exact ⟨oneR_zero (firstE_zero.1 hall x hx), by omega⟩
  have hlim : ∀ x ∈ e, Lim x := fun x hx => by
    obtain ⟨h1, h2⟩ := hzero x hx
    obtain ⟨h3, h4⟩ := nodeE_zero h1
    exact lim_of h3 h4 h2
  have hmem : ∀ p ∈ es, p.1 ∈ e := fun p hp => by rw [← hee]; exact List.mem_map_of_mem hp
  have hskk : ∀ p ∈ es, shapeB p.1 = true := fun p hp => (nodeE_zero (hzero p.1 (hmem p hp)).1).1
  clear hrest
  refine W.xt ?_
  with_reducible apply At.next
  apply W.sr
  apply omv; rfl; rfl
  refine OL.cls (C' := Cls [row w1.heap.size (fun _ => False) none 0 0 3 1 []] [w1, w]) (fun w' hw' => hw'.row_nil w1.heap.size 3 1) ?_
  skip
  (apply OL.appendK (news := ints ps)); rfl; rfl; rfl; rfl; (exact Hole.au); (exact fun w2 hw2 => (hp.at hw2 (.tail _ (.head _)) (fun k hk => by exact NotOwned.au)).slAt); (rw [ints_length, Nat.mul_one]); (exact ints_oneL _); (exact ⟨w1, .head _, Nat.le_refl _⟩); (omega); (intro O1 q1 c1)
  simp only [Nat.zero_add, List.nil_append]
  obtain ⟨all, hal⟩ : ∃ f : Nat → List Int, f = fun i => ps ++ (e.take i).flatMap bindersX := ⟨_, rfl⟩
  have hbnd : ∀ i, (all i).length ≤ 4096 + 4096 * 65552 := fun i => by
    have h1 := binders_small (l := e.take i) fun x hx => hlim x (List.mem_of_mem_take hx)
    rw [hal]
    simp only [List.length_append]
    have h2 : (e.take i).length ≤ 4096 := by rw [List.length_take]; omega
    have h3 : (e.take i).length * 65552 ≤ 4096 * 65552 := Nat.mul_le_mul_right _ h2
    omega
  have hall0 : all 0 = ps := by rw [hal]; simp
  have hallE : all es.length = ps ++ e.flatMap bindersX := by rw [hal]; simp only; rw [← hel, List.take_length]
  have hsnoc : ∀ {i : Nat} {x : Ex}, e[i]? = some x → all (i + 1) = all i ++ bindersX x := fun {i x} hx => by
    rw [hal]
    simp only
    rw [List.take_add_one, hx]
    simp
  clear hal
  apply oas; rfl; rfl
  apply OL.nx
  apply W.seq
  apply W.sr
  apply omv; rfl; rfl
  apply oop; rfl; apply Pev.len_slice; rfl; exact yes; rfl
  apply omv; rfl; rfl
  apply OL.nx
  apply W.block
  refine W.loop (G := Nat × GR) (fun g => g.1 ≤ es.length) (fun g => es.length - g.1)
    (fun g => [(0, true, .slice q es.length cap), (1, true, .slice qp ps.length cp), (7, true, .slice qr es.length cr), (12, true, .slice g.2.q (all g.1).length g.2.c), (56, true, .slice q es.length cap), (57, true, .int .i64 (es.length : Int)), (58, true, .int .i64 (g.1 : Int))])
    (fun g => Cls [row w1.heap.size g.2.O g.2.q (all g.1).length g.2.c 3 1 (ints (all g.1))] [w1, w]) (0, ⟨O1, q1, c1⟩) (by simp) (by rw [hall0]; exact Sub.au) (fun w' hw' => by rw [hall0]; exact hw') ?_
  rintro ⟨i, ⟨O2, q2, c2⟩⟩ hi2
  simp only at hi2 ⊢
  apply W.sr
  apply obn; rfl; rfl; rfl; apply Bin.lss
  apply OL.nx
  apply W.seq
  (refine W.cnd (fun hlt2 => ?_) (fun hlt2 => ?_)) <;> (try (exfalso; first | omega | exact hlt2 trivial | contradiction))
  · have hil : i < es.length := by omega
    obtain ⟨a, p, hqa, hab, hpi, hcell, hok⟩ := he.get hil
    have hab : a.block < w.heap.size := hab
    have hcell : CellsAt w (a.add (i * 5)) [.int .i64 p.1.op, .int .i64 p.1.n, .slice p.2.b.1 p.1.binds.length p.2.b.2, .slice p.2.k.1 p.1.kids.length p.2.k.2, .slice p.2.a.1 p.1.alts.length p.2.a.2] := hcell
    have hx : e[i]? = some p.1 := by rw [← hee, List.getElem?_map, hpi]; rfl
    have hL := hlim p.1 (List.mem_of_getElem? hx)
    have hb1 := hbnd i
    have hb2 := hbnd (i + 1)
    rw [hsnoc hx, List.length_append] at hb2
    rw [hqa]
    apply W.sk
    apply W.sb
    apply W.sr
    apply oop; rfl; apply Pev.idx; rfl; exact yes; rfl; exact yes; rfl; rfl; intro hcond; omega
    apply oop; rfl; apply Pev.load_keptA; rfl; exact yes; exact .tail _ (.head _); rfl; intro hcond; assumption; rfl; intro hcond; (rw [add_block]; assumption); intro hcond; exact NotOwned.au
    apply OL.alloc; rfl; rfl; exact CellsL.agg; (intro bk hbk; simp only [AllLe, and_true] at hbk)
    apply OL.storeB; rfl; rfl; exact CellsL.agg; rfl; rfl; rfl; exact Swap.au; exact Put.au
    apply OL.nx
    apply W.reg
    apply omv; rfl; rfl
    apply oop; rfl; apply Pev.load_blkA; rfl; exact yes; exact .head _; rfl; exact Take.au
    refine OL.callE (α := World × Nat × Option Addr × Nat) (fun x => .slice x.2.2.1 (bindersX p.1).length x.2.2.2) (fun x => w1.heap.size ≤ x.1.heap.size ∧ (∀ k, w1.heap.size ≤ k → O2 k → k < x.2.1) ∧ bk < x.2.1 ∧ w1.heap.size ≤ x.2.1 ∧ IntsO x.1 (fun k => x.2.1 ≤ k ∧ k < x.1.heap.size) (bindersX p.1) x.2.2.1) (fun x => Cls [blk bk 28 [.int .i64 p.1.op, .int .i64 p.1.n, .slice p.2.b.1 p.1.binds.length p.2.b.2, .slice p.2.k.1 p.1.kids.length p.2.k.2, .slice p.2.a.1 p.1.alts.length p.2.a.2], row w1.heap.size O2 q2 (all i).length c2 3 1 (ints (all i))] [x.1, w1, w]) rfl rfl (by exact Args.au) (fun w2 hw2 => ?_) ?_
    · have hlt3 := hw2.lt _ (.head _) bk rfl
      have hrow : ∀ k, w1.heap.size ≤ k → O2 k → k < w2.heap.size := fun k h1 h2 => hw2.lt _ (.tail _ (.head _)) k ⟨h1, h2⟩
      have hkw := (hw2.kp w1 (by exact mau)).size
      refine (Binds_calls p.1 p.2 w2 (hok.at hw2 (by exact mau) (fun k hk => by exact NotOwned.au)) hL.b hL.a hL.ab).mono fun e1 w3 ⟨q3, c3, h1, h2, h3, h4⟩ => ?_
      exact ⟨(w3, w2.heap.size, q3, c3), h1, ⟨Nat.le_trans hkw h2.size, hrow, hlt3, hkw, h3⟩, (hw2.ext h2).note⟩
    rintro ⟨w3, lo, q3, c3⟩ ⟨hsz3, hrow, hblo, hwlo, hI3⟩
    simp only at hsz3 hrow hblo hwlo hI3 ⊢
    have hb3 := hsnoc hx
    generalize hbi : bindersX p.1 = bs at *
    (apply OL.appendK (news := ints bs)); rfl; rfl; rfl; rfl; (exact Hole.au); (exact fun w4 hw4 => (hI3.part hw4 (.head _) (fun k hk => NotOwned.blk (by omega) (NotOwned.any (fun hm => by have := hrow k hm.1 hm.2; omega) NotOwned.nil))).slAt); (rw [ints_length, Nat.mul_one]); (exact ints_oneL _); (exact ⟨w1, .tail _ (.head _), Nat.le_refl _⟩); (omega); (intro O4 q4 c4)
    rw [← ints_append, ← List.length_append, ← hb3]
    apply oas; rfl; rfl
    apply OL.nil
    with_reducible apply At.in_normal
    with_reducible apply At.next
    apply W.reg
    apply obn; rfl; rfl; rfl; apply Bin.add_in; omega
    apply omv; rfl; rfl
    apply OL.nil
    refine At.again (i + 1, ⟨O4, q4, c4⟩) (by simp only; omega) (by simp only; omega) (by exact Sub.au) (fun w' hw' => (hw'.forget (by simp)).thin (by exact Thin.au))
  obtain rfl : i = es.length := by omega
  have hb1 := hbnd es.length
  rw [hallE] at hb1 ⊢
  clear hbnd hsnoc hall0
  refine W.exx (X := { x : World // IntsO x (low x) (ps ++ e.flatMap bindersX) q2 ∧ w1.heap.size ≤ x.heap.size ∧ (ps ++ e.flatMap bindersX).length ≤ c2 }) (C' := fun x => Cls [] [x.1, w1, w]) (fun w2 hw2 => ⟨⟨w2, IntsO.mono (fun k hk => hk.2) (rowInts hw2 (.head _) (Nat.le_refl _)), (hw2.kp w1 (by exact mau)).size, row_cap (hw2.item (.head _))⟩, (hw2.thin (Thin.any (fun k hk => ⟨hk.1, Nat.le_trans hsz1 hk.1, trivial⟩) Thin.nil)).note⟩) ?_
  rintro ⟨w5, hI5, hsz5, hcap5⟩
  simp only
  have hbt2 := bodyE_twice (ps := ps) hte hall
  have hbf2 := fun n => bodyE_free (ps := ps) (n := n) hte hall
  have hbo2 := bodyE_ok (ps := ps) hte hall
  generalize ps ++ e.flatMap bindersX = L at *
  refine W.xt ?_
  with_reducible apply At.next
  apply W.seq
  apply W.sr
  apply omv; rfl; rfl
  apply oop; rfl; apply Pev.len_slice; rfl; exact yes; rfl
  apply omv; rfl; rfl
  apply OL.nx
  apply W.block
  refine W.loop (G := Nat) (fun i => i ≤ L.length ∧ (L.take i).Nodup) (fun i => L.length - i)
    (fun i => [(0, true, .slice q es.length cap), (1, true, .slice qp ps.length cp), (7, true, .slice qr es.length cr), (12, true, .slice q2 L.length c2), (67, true, .slice q2 L.length c2), (68, true, .int .i64 (L.length : Int)), (69, true, .int .i64 (i : Int))])
    (fun _ => Cls [] [w5, w1, w]) 0 ⟨by omega, by simp⟩ (by exact Sub.au) (fun w' hw' => hw') ?_
  rintro i ⟨hi, hnd⟩
  apply W.sr
  apply obn; rfl; rfl; rfl; apply Bin.lss
  apply OL.nx
  apply W.seq
  (refine W.cnd (fun hlt3 => ?_) (fun hlt3 => ?_)) <;> (try (exfalso; first | omega | exact hlt3 trivial | contradiction))
  · have hil : i < L.length := by omega
    obtain ⟨a, v, rfl, hab, hv, hcell⟩ := hI5.get hil
    have hab : a.block < w5.heap.size := hab
    have hlT : (L.take i).length = i := by rw [List.length_take]; omega
    have hsplit : L = L.take i ++ v :: L.drop (i + 1) := by
      obtain ⟨h1, rfl⟩ := List.getElem?_eq_some_iff.1 hv
      rw [← List.drop_eq_getElem_cons h1, List.take_append_drop]
    have htake : L.take (i + 1) = L.take i ++ [v] := by rw [List.take_add_one, hv]; rfl
    apply W.sk
    apply W.sb
    apply W.sr
    apply omv; rfl; rfl
    apply oop; rfl; apply Pev.idx; rfl; exact yes; rfl; exact yes; rfl; rfl; intro hcond; omega
    apply oop; rfl; apply Pev.load_kept; rfl; exact yes; exact .head _; rfl; intro hcond; assumption; intro hcond; (rw [add_block]; assumption); intro hcond; exact NotOwned.au
    apply oas; rfl; rfl
    apply oas; rfl; rfl
    apply OL.nsr
    apply omv; rfl; rfl
    apply omv; rfl; rfl
    apply oop; rfl; apply Pev.slice_hi; rfl; exact yes; rfl; exact yes; rfl; rfl; intro hcond; omega
    apply omv; rfl; rfl
    (((first | (with_reducible apply OL.op) | (with_reducible apply QL.op)); (exact Guard.au); rfl; rfl); (refine Pev.call (v := .bool (decide (v ∈ L.take i))) rfl (by exact Args.au) (fun _ w2 hw2 => ?_)))
    · have h5 := In_calls (some a) c2 (L.take i) v w2 (by omega) ((hI5.take i).at hw2 (by exact mau) (fun k hk => by exact NotOwned.au))
      rw [hlT] at h5
      exact h5.mono (fun e w3 h => ⟨h.1, hw2.ext h.2⟩)
    apply OL.nx
    (refine W.cnd (fun hin => ?_) (fun hin => ?_)) <;> (try (exfalso; first | omega | exact hin trivial | contradiction))
    · apply W.sr
      apply oas; rfl; rfl
      apply OL.nx
      refine W.rt ?_
      ((with_reducible apply At.fin1); rfl; rfl; intro w' hw')
      have hnn : ¬ L.Nodup := by
        rw [hsplit]
        exact not_nodup hin
      exact ⟨by rw [hbt2 hnn], by (exact hw'.fr)⟩
    apply W.skip
    with_reducible apply At.in_normal
    with_reducible apply At.next
    apply W.reg
    apply obn; rfl; rfl; rfl; apply Bin.add_in; omega
    apply omv; rfl; rfl
    apply OL.nil
    exact At.again (i + 1) ⟨by omega, by rw [htake]; exact nodup_snoc hnd hin⟩ (by omega) (by exact Sub.au) (fun w' hw' => hw')
  obtain rfl : i = L.length := by omega
  rw [List.take_length] at hnd
  refine W.xt ?_
  with_reducible apply At.next
  apply W.seq
  apply W.sr
  apply omv; rfl; rfl
  apply oop; rfl; apply Pev.len_slice; rfl; exact yes; rfl
  apply omv; rfl; rfl
  apply OL.nx
  apply W.block
  refine W.loop (G := Nat) (fun i => i ≤ es.length ∧ ∀ (j : Nat) (x : Ex), j < i → e[j]? = some x → x.op = 0 → bnd e P x.n j < 0 → x.n ∈ ps) (fun i => es.length - i)
    (fun i => [(0, true, .slice q es.length cap), (1, true, .slice qp ps.length cp), (7, true, .slice qr es.length cr), (80, true, .slice q es.length cap), (81, true, .int .i64 (es.length : Int)), (82, true, .int .i64 (i : Int))])
    (fun _ => Cls [] [w1, w]) 0 ⟨by omega, fun j x hj => by omega⟩ (by exact Sub.au) (fun w' hw' => hw'.forget (by simp)) ?_
  rintro i ⟨hi, hfr⟩
  apply W.sr
  apply obn; rfl; rfl; rfl; apply Bin.lss
  apply OL.nx
  apply W.seq
  (refine W.cnd (fun hlt4 => ?_) (fun hlt4 => ?_)) <;> (try (exfalso; first | omega | exact hlt4 trivial | contradiction))
  · have hil : i < es.length := by omega
    obtain ⟨a, p, hqa, hab, hpi, hcell, hok⟩ := he.get hil
    have hab : a.block < w.heap.size := hab
    have hcell : CellsAt w (a.add (i * 5)) [.int .i64 p.1.op, .int .i64 p.1.n, .slice p.2.b.1 p.1.binds.length p.2.b.2, .slice p.2.k.1 p.1.kids.length p.2.k.2, .slice p.2.a.1 p.1.alts.length p.2.a.2] := hcell
    have hx : e[i]? = some p.1 := by rw [← hee, List.getElem?_map, hpi]; rfl
    rw [hqa]
    apply W.sk
    apply W.sb
    apply W.sr
    apply omv; rfl; rfl
    apply oop; rfl; apply Pev.idx; rfl; exact yes; rfl; exact yes; rfl; rfl; intro hcond; omega
    apply oop; rfl; apply Pev.load_keptA; rfl; exact yes; exact .tail _ (.head _); rfl; intro hcond; assumption; rfl; intro hcond; (rw [add_block]; assumption); intro hcond; exact NotOwned.au
    apply OL.alloc; rfl; rfl; exact CellsL.agg; (intro bk hbk; simp only [AllLe, and_true] at hbk)
    apply oas; rfl; rfl
    apply OL.storeB; rfl; rfl; exact CellsL.agg; rfl; rfl; rfl; exact Swap.au; exact Put.au
    apply OL.nsr
    apply ofa; rfl; rfl; rfl
    apply old; rfl; rfl; exact .head _; rfl; rfl
    apply obn; rfl; rfl; rfl; apply Bin.eql
    apply omv; rfl; rfl
    apply oy; rfl; rfl; rfl; apply Pev.move; rfl; exact yes
    apply oy; rfl; rfl; rfl; apply Pev.move; rfl; exact yes
    apply oy; rfl; rfl; rfl; apply Pev.move; rfl; exact yes
    (((first | (with_reducible apply OL.op) | (with_reducible apply QL.op)); (exact Guard.au); rfl; rfl); (exact Pev.call (v := .int .i64 (bnd e P p.1.n i)) rfl (by exact Args.au) (fun _ w2 hw2 => by
      have h5 := binder_calls es (some a) qr cap cr P i p.1 w2 (hqa ▸ he.at hw2 (by exact mau) (fun k hk => by exact NotOwned.au)) hl4 (by rw [hee]; exact ht) (by rw [hee]; exact hP) (hPI.at hw2 (by exact mau) (fun k hk => by exact NotOwned.au)) (by rw [hee]; exact hx) (fun p hp => (shape_kids (hskk p hp)).1) (fun p hp => (shape_kids (hskk p hp)).2.1)
      rw [hee] at h5
      exact h5.mono (fun e w3 h => ⟨h.1, hw2.ext h.2⟩))))
    apply oy; rfl; rfl; rfl; apply Pev.bin; rfl; exact fun h => h; rfl; exact yes; intro hcond; apply Bin.lss
    apply oop; rfl; apply Pev.pick_and; rfl; exact yes; rfl; exact fun h => h
    apply omv; rfl; rfl
    apply oy; rfl; rfl; rfl; apply Pev.move; rfl; exact yes
    apply oy; rfl; rfl; rfl; apply Pev.fld; rfl; exact yes; rfl
    apply oy; rfl; rfl; rfl; apply Pev.load_blk; rfl; exact fun h => h; exact .head _; rfl; rfl
    (((first | (with_reducible apply OL.op) | (with_reducible apply QL.op)); (exact Guard.au); rfl; rfl); (exact Pev.call rfl (by exact Args.au) (fun _ w2 hw2 => (In_calls qp cp ps p.1.n w2 (by omega) (hp.at hw2 (by exact mau) (fun k hk => by exact NotOwned.au))).mono (fun e w3 h => ⟨h.1, hw2.ext h.2⟩))))
    apply oy; rfl; rfl; rfl; apply Pev.not; rfl; exact fun h => h
    apply oop; rfl; apply Pev.pick_and; rfl; exact yes; rfl; exact fun h => h
    apply OL.nx
    refine W.cond rfl (fun hb => ?_) (fun hb => ?_)
    · simp only [Bool.and_eq_true, decide_eq_true_eq, Bool.not_eq_true', decide_eq_false_iff_not] at hb
      apply W.sr
      apply oas; rfl; rfl
      apply OL.nx
      refine W.rt ?_
      ((with_reducible apply At.fin1); rfl; rfl; intro w' hw')
      exact ⟨by rw [hbf2 p.1.n hnd (free_bad ht hP hpos hx hb.1.1 hb.1.2) hb.2], by (exact hw'.fr)⟩
    · simp only [Bool.and_eq_false_iff, decide_eq_false_iff_not, Bool.not_eq_false', decide_eq_true_eq] at hb
      apply W.skip
      with_reducible apply At.in_normal
      with_reducible apply At.next
      apply W.reg
      apply obn; rfl; rfl; rfl; apply Bin.add_in; omega
      apply omv; rfl; rfl
      apply OL.nil
      refine At.again (i + 1) ⟨by omega, fun j x hj hxj hop hbn => ?_⟩ (by omega) (by exact Sub.au) (fun w' hw' => hw'.thin (by exact Thin.au))
      by_cases ej : j = i
      · subst ej
        rw [hx] at hxj
        obtain rfl := Option.some.inj hxj
        rcases hb with (hb | hb) | hb
        · exact absurd hop hb
        · omega
        · exact hb
      · exact hfr j x (by omega) hxj hop hbn
  · obtain rfl : i = es.length := by omega
    refine W.xt ?_
    with_reducible apply At.next
    apply W.sr
    apply oas; rfl; rfl
    apply OL.nx
    apply W.ret
    ((with_reducible apply At.fin1); rfl; rfl; intro w' hw')
    exact ⟨by rw [hbo2 hnd (free_ok ht hP hpos fun j x hx => hfr j x (by have := (List.getElem?_eq_some_iff.1 hx).1; omega) hx)], by (exact hw'.fr)⟩
theorem Fault_calls (es : List (Ex × ExY)) (q : Option Addr) (cap : Nat) (w : World) (he : Arr exR w (low w) es q) (hlen : es.length ≤ 9223372036854775807) :
    Calls Tryd.prog 12 [.slice q es.length cap].toArray w fun e w' => e = .returned (.int .i64 (bodyE (es.map Prod.fst) [] false)) ∧ Ext w w' := by
  refine enter Tryd.func12 rfl Tryd.ntmps12 rfl (Cls.start w) ?_
  (simp only [argEnv, Nat.zero_add, Nat.reduceAdd])
  apply W.sr
  apply oas; rfl; rfl
  apply OL.nsr
  apply omv; rfl; rfl
  (((first | (with_reducible apply OL.op) | (with_reducible apply QL.op)); (exact Guard.au); rfl; rfl); (exact Pev.call rfl (by exact Args.au) (fun _ w2 hw2 => (BodyFault_calls es q none cap 0 [] false w2 (he.at hw2 (by exact mau) (fun k hk => by exact NotOwned.au)) hlen IntsO.nil (by simp)).mono (fun e w3 h => ⟨h.1, hw2.ext h.2⟩))))
  apply oas; rfl; rfl
  apply OL.nx
  apply W.ret
  ((with_reducible apply At.fin1); rfl; rfl; intro w' hw')
  exact ⟨rfl, by (exact hw'.fr)⟩
end Go.Proofs.YtlboppiogeaicaaDoor.co

/- The walks of flat's fnError and Check, and of the law's flatFault. Conditions: none. (Printed by fla.py.) -/
namespace Go.Co
open Go.Eng Go.RowKit
set_option linter.unusedVariables false
set_option linter.unusedSimpArgs false
section
variable {fs : List Fun} {f : Fun}
theorem funE_name (h : f.name < -1 ∨ 1048576 ≤ f.name) : funE fs f = 4 := if_pos h
theorem funE_par (h1 : ¬ (f.name < -1 ∨ 1048576 ≤ f.name)) (h2 : 6 < f.params.length) : funE fs f = 2 := by unfold funE; rw [if_neg h1, if_pos h2]
theorem funE_id (h1 : ¬ (f.name < -1 ∨ 1048576 ≤ f.name)) (h2 : ¬ 6 < f.params.length) (h3 : ¬ firstE idE f.params = 0) : funE fs f = 4 := by unfold funE; rw [if_neg h1, if_neg h2, if_pos h3]
theorem funE_bd (h1 : ¬ (f.name < -1 ∨ 1048576 ≤ f.name)) (h2 : ¬ 6 < f.params.length) (h3 : firstE idE f.params = 0) (h4 : ¬ bodyE f.body f.params true = 0) : funE fs f = bodyE f.body f.params true := by
  unfold funE; rw [if_neg h1, if_neg h2, if_neg (fun h => h h3), if_pos h4]
theorem funE_ok (h1 : ¬ (f.name < -1 ∨ 1048576 ≤ f.name)) (h2 : ¬ 6 < f.params.length) (h3 : firstE idE f.params = 0) (h4 : bodyE f.body f.params true = 0) : funE fs f = firstE (callE fs) f.body := by
  unfold funE; rw [if_neg h1, if_neg h2, if_neg (fun h => h h3), if_neg (fun h => h h4)]
theorem callE_no {x : Ex} (h : ¬ (x.op = 14 ∨ x.op = 15)) : callE fs x = 0 := if_pos h
theorem callE_far {x : Ex} (h : x.op = 14 ∨ x.op = 15) (h2 : (fs.length : Int) ≤ x.n) : callE fs x = 4 := by unfold callE; rw [if_neg (fun h3 => h3 h), if_pos h2]
theorem callE_near {x : Ex} {g : Fun} (h : x.op = 14 ∨ x.op = 15) (h2 : ¬ (fs.length : Int) ≤ x.n) (hg : fs[x.n.toNat]? = some g) : callE fs x = if x.op = 14 ∧ ¬ x.kids.length = g.params.length ∨ x.op = 15 ∧ g.params.length = 0 then 3 else 0 := by
  unfold callE
  rw [if_neg (fun h3 => h3 h), if_neg h2, List.getD_eq_getElem?_getD, hg]
  rfl
variable {main : Int}
theorem progE_none (h : fs.length = 0) : progE fs main = 3 := if_pos h
theorem progE_many (h : ¬ fs.length = 0) (h2 : 256 < fs.length) : progE fs main = 2 := by unfold progE; rw [if_neg h, if_pos h2]
theorem progE_main (h : ¬ fs.length = 0) (h2 : ¬ 256 < fs.length) (h3 : main < 0 ∨ (fs.length : Int) ≤ main) : progE fs main = 4 := by unfold progE; rw [if_neg h, if_neg h2, if_pos h3]
theorem progE_par {g : Fun} (h : ¬ fs.length = 0) (h2 : ¬ 256 < fs.length) (h3 : ¬ (main < 0 ∨ (fs.length : Int) ≤ main)) (hg : fs[main.toNat]? = some g) (h4 : 0 < g.params.length) : progE fs main = 3 := by
  unfold progE; rw [if_neg h, if_neg h2, if_neg h3, List.getD_eq_getElem?_getD, hg, Option.getD_some, if_pos h4]
theorem progE_ok {g : Fun} (h : ¬ fs.length = 0) (h2 : ¬ 256 < fs.length) (h3 : ¬ (main < 0 ∨ (fs.length : Int) ≤ main)) (hg : fs[main.toNat]? = some g) (h4 : ¬ 0 < g.params.length) : progE fs main = firstE (funE fs) fs := by
  unfold progE; rw [if_neg h, if_neg h2, if_neg h3, List.getD_eq_getElem?_getD, hg, Option.getD_some, if_neg h4]
end
end Go.Co
namespace Go.Proofs.YtlboppiogeaicaaDoor.co
open Go.RowKit Go.Eng Go.Co
set_option linter.unusedVariables false
set_option linter.unusedSimpArgs false
set_option maxRecDepth 100000
theorem fnError_calls (fs : List (Fun × FunY)) (qf : Option Addr) (cf : Nat) (main : Int) (f : Fun) (y : FunY) (w : World) (hfs : Arr funR w (low w) fs qf) (hfl : fs.length ≤ 256) (hF : FunOk w (low w) f y) (hg : 1 < w.heap.size) (hs : arityAt w) :
    Calls Tryd.prog 51 [.agg [.slice qf fs.length cf, .int .i64 main].toArray, .agg [.int .i64 f.name, .slice y.p.1 f.params.length y.p.2, .slice y.b.1 f.body.length y.b.2].toArray].toArray w fun e w' => e = .returned (.int .i64 (funE (fs.map Prod.fst) f)) ∧ Ext w w' := by
  obtain ⟨F, hFd⟩ : ∃ F, fs.map Prod.fst = F := ⟨_, rfl⟩
  have hFl : F.length = fs.length := by rw [← hFd, List.length_map]
  rw [hFd]
  obtain ⟨pb, hbm, harrB⟩ := hF.b
  have hbl := hF.bl
  have hpbl : f.body.length = pb.length := by rw [← hbm, List.length_map]
  refine enter Tryd.func51 rfl Tryd.ntmps51 rfl (Cls.start w) ?_
  (simp only [argEnv, Nat.zero_add, Nat.reduceAdd])
  apply W.sr
  apply OL.box; rfl; rfl; exact CellsL.agg; (intro bk hbk; simp only [AllLe, and_true] at hbk)
  apply OL.box; rfl; rfl; exact CellsL.agg; (intro bk hbk; simp only [AllLe, and_true] at hbk)
  apply oas; rfl; rfl
  apply OL.nx
  apply W.seq
  apply W.sr
  apply ofa; rfl; rfl; rfl
  apply old; rfl; rfl; exact .head _; rfl; rfl
  apply obn; rfl; rfl; rfl; apply Bin.lss
  apply omv; rfl; rfl
  apply ono; rfl; rfl; rfl; apply Pev.fld; rfl; exact yes; rfl
  apply ono; rfl; rfl; rfl; apply Pev.load_blk; rfl; exact fun h => h; exact .head _; rfl; rfl
  apply ono; rfl; rfl; rfl; apply Pev.bin; rfl; exact fun h => h; rfl; exact yes; intro hcond; apply Bin.geq
  apply oop; rfl; apply Pev.pick_or; rfl; exact yes; rfl; exact fun h => h
  apply OL.nx
  revert bk
  intro bf hbf
  revert bk
  intro bp hbp
  refine W.cond rfl (fun hb => ?_) (fun hb => ?_)
  · have hbad : f.name < -1 ∨ 1048576 ≤ f.name := by grind
    have hfe := funE_name (fs := F) hbad
    apply W.sr
    apply oas; rfl; rfl
    apply OL.nx
    refine W.rt ?_
    ((with_reducible apply At.fin1); rfl; rfl; intro w' hw')
    exact ⟨by rw [hfe], by (exact hw'.fr)⟩
  have hn1 : ¬ (f.name < -1 ∨ 1048576 ≤ f.name) := by grind
  apply W.sk
  apply W.seq
  apply W.sr
  apply ofa; rfl; rfl; rfl
  apply old; rfl; rfl; exact .head _; rfl; rfl
  apply oop; rfl; apply Pev.len_slice; rfl; exact yes; rfl
  apply obn; rfl; rfl; rfl; apply Bin.gtr
  apply OL.nx
  (refine W.cnd (fun hp6 => ?_) (fun hp6 => ?_)) <;> (try (exfalso; first | omega | exact hp6 trivial | contradiction))
  · have hfe := funE_par (fs := F) hn1 (by omega)
    apply W.sr
    apply oas; rfl; rfl
    apply OL.nx
    refine W.rt ?_
    ((with_reducible apply At.fin1); rfl; rfl; intro w' hw')
    exact ⟨by rw [hfe], by (exact hw'.fr)⟩
  have hp6' : ¬ 6 < f.params.length := by omega
  apply W.sk
  apply W.seq
  apply W.sr
  apply ofa; rfl; rfl; rfl
  apply old; rfl; rfl; exact .head _; rfl; rfl
  apply oop; rfl; apply Pev.len_slice; rfl; exact yes; rfl
  apply omv; rfl; rfl
  apply OL.nx
  apply W.block
  refine W.loop (G := Nat) (fun j => j ≤ f.params.length ∧ firstE idE f.params = firstE idE (f.params.drop j)) (fun j => f.params.length - j)
    (fun j => [(2, true, .pointer (some ⟨bp, 0, none⟩)), (3, true, .pointer (some ⟨bf, 0, none⟩)), (24, true, .slice y.p.1 f.params.length y.p.2), (25, true, .int .i64 (f.params.length : Int)), (26, true, .int .i64 (j : Int))])
    (fun _ => Cls [blk bf 87 [.int .i64 f.name, .slice y.p.1 f.params.length y.p.2, .slice y.b.1 f.body.length y.b.2], blk bp 45 [.slice qf fs.length cf, .int .i64 main]] [w]) 0 ⟨by omega, by rw [List.drop_zero]⟩ (by exact Sub.au) (fun w' hw' => hw') ?_
  rintro j ⟨hj, hjr⟩
  apply W.sr
  apply obn; rfl; rfl; rfl; apply Bin.lss
  apply OL.nx
  apply W.seq
  (refine W.cnd (fun hlt => ?_) (fun hlt => ?_)) <;> (try (exfalso; first | omega | exact hlt trivial | contradiction))
  · obtain ⟨av, v, hqv, habv, hv, hcv⟩ := hF.p.get (show j < f.params.length by omega)
    have habv : av.block < w.heap.size := habv
    rw [firstE_drop hv] at hjr
    rw [hqv]
    apply W.sk
    apply W.sb
    apply W.sr
    apply oop; rfl; apply Pev.idx; rfl; exact yes; rfl; exact yes; rfl; rfl; intro hcond; omega
    apply oop; rfl; apply Pev.load_kept; rfl; exact yes; exact .head _; rfl; intro hcond; assumption; intro hcond; (rw [add_block]; assumption); intro hcond; exact NotOwned.au
    apply oas; rfl; rfl
    apply OL.nsr
    apply omv; rfl; rfl
    apply obn; rfl; rfl; rfl; apply Bin.lss
    apply omv; rfl; rfl
    apply ono; rfl; rfl; rfl; apply Pev.move; rfl; exact yes
    apply ono; rfl; rfl; rfl; apply Pev.bin; rfl; exact fun h => h; rfl; exact yes; intro hcond; apply Bin.geq
    apply oop; rfl; apply Pev.pick_or; rfl; exact yes; rfl; exact fun h => h
    apply OL.nx
    refine W.cond rfl (fun hb => ?_) (fun hb => ?_)
    · have hbad : v < 0 ∨ 1048576 ≤ v := by grind
      have h4 := idE_bad hbad
      have hfe := funE_id (fs := F) hn1 hp6' (by rw [hjr, if_neg (by rw [h4]; decide), h4]; decide)
      apply W.sr
      apply oas; rfl; rfl
      apply OL.nx
      refine W.rt ?_
      ((with_reducible apply At.fin1); rfl; rfl; intro w' hw')
      exact ⟨by rw [hfe], by (exact hw'.fr)⟩
    · have hgood : ¬ (v < 0 ∨ 1048576 ≤ v) := by grind
      rw [if_pos (idE_ok hgood)] at hjr
      rw [← hqv]
      apply W.skip
      with_reducible apply At.in_normal
      with_reducible apply At.next
      apply W.reg
      apply obn; rfl; rfl; rfl; apply Bin.add_in; omega
      apply omv; rfl; rfl
      apply OL.nil
      exact At.again (j + 1) ⟨by omega, hjr⟩ (by omega) (by exact Sub.au) (fun w' hw' => hw')
  obtain rfl : j = f.params.length := by omega
  rw [List.drop_length] at hjr
  have hid : firstE idE f.params = 0 := hjr
  refine W.xt ?_
  with_reducible apply At.next
  apply W.seq
  apply W.sr
  apply ofa; rfl; rfl; rfl
  apply old; rfl; rfl; exact .head _; rfl; rfl
  apply ofa; rfl; rfl; rfl
  apply old; rfl; rfl; exact .head _; rfl; rfl
  (((first | (with_reducible apply OL.op) | (with_reducible apply QL.op)); (exact Guard.au); rfl; rfl); (exact Pev.call (v := .int .i64 (bodyE f.body f.params true)) rfl (by exact Args.au) (fun _ w2 hw2 => by
    have h5 := Body_calls pb y.b.1 y.p.1 y.b.2 y.p.2 f.params true w2 (harrB.at hw2 (by exact mau) (fun k hk => by exact NotOwned.au)) (by omega) (hF.p.at hw2 (by exact mau) (fun k hk => by exact NotOwned.au)) (by omega) (Nat.lt_of_lt_of_le hg (hw2.kp w (by exact mau)).size) (hs.at hg hw2 (by exact mau) (fun k hk => by exact NotOwned.au))
    rw [← hpbl, hbm] at h5
    exact h5.mono (fun e w3 h => ⟨h.1, hw2.ext h.2⟩))))
  apply oas; rfl; rfl
  apply OL.nsr
  apply omv; rfl; rfl
  apply obn; rfl; rfl; rfl; apply Bin.neq
  apply OL.nx
  (refine W.cnd (fun hbz => ?_) (fun hbz => ?_)) <;> (try (exfalso; first | omega | exact hbz trivial | contradiction))
  · have hfe := funE_bd (fs := F) hn1 hp6' hid hbz
    apply W.sr
    apply omv; rfl; rfl
    apply oas; rfl; rfl
    apply OL.nx
    refine W.rt ?_
    ((with_reducible apply At.fin1); rfl; rfl; intro w' hw')
    exact ⟨by rw [hfe], by (exact hw'.fr)⟩
  have hb0 : bodyE f.body f.params true = 0 := by simpa using hbz
  have hfe := funE_ok (fs := F) hn1 hp6' hid hb0
  have hbok := BodyOk.of hb0
  apply W.sk
  apply W.seq
  apply W.sr
  apply ofa; rfl; rfl; rfl
  apply old; rfl; rfl; exact .head _; rfl; rfl
  apply oop; rfl; apply Pev.len_slice; rfl; exact yes; rfl
  apply omv; rfl; rfl
  apply OL.nx
  apply W.block
  refine W.loop (G := Nat) (fun j => j ≤ f.body.length ∧ firstE (callE F) f.body = firstE (callE F) (f.body.drop j)) (fun j => f.body.length - j)
    (fun j => [(2, true, .pointer (some ⟨bp, 0, none⟩)), (46, true, .slice y.b.1 f.body.length y.b.2), (47, true, .int .i64 (f.body.length : Int)), (48, true, .int .i64 (j : Int))])
    (fun _ => Cls [blk bf 87 [.int .i64 f.name, .slice y.p.1 f.params.length y.p.2, .slice y.b.1 f.body.length y.b.2], blk bp 45 [.slice qf fs.length cf, .int .i64 main]] [w]) 0 ⟨by omega, by rw [List.drop_zero]⟩ (by exact Sub.au) (fun w' hw' => hw'.thin (by exact Thin.au)) ?_
  rintro j ⟨hj, hjr⟩
  apply W.sr
  apply obn; rfl; rfl; rfl; apply Bin.lss
  apply OL.nx
  apply W.seq
  (refine W.cnd (fun hlt2 => ?_) (fun hlt2 => ?_)) <;> (try (exfalso; first | omega | exact hlt2 trivial | contradiction))
  · obtain ⟨av, u, hqv, habv, hu, hcv, hoku⟩ := harrB.get (show j < pb.length by omega)
    have habv : av.block < w.heap.size := habv
    have hcv : CellsAt w (av.add (j * 5)) [.int .i64 u.1.op, .int .i64 u.1.n, .slice u.2.b.1 u.1.binds.length u.2.b.2, .slice u.2.k.1 u.1.kids.length u.2.k.2, .slice u.2.a.1 u.1.alts.length u.2.a.2] := hcv
    have hx : f.body[j]? = some u.1 := by rw [← hbm, List.getElem?_map, hu]; rfl
    rw [firstE_drop hx] at hjr
    rw [hqv]
    apply W.sk
    apply W.sb
    apply W.sr
    apply oop; rfl; apply Pev.idx; rfl; exact yes; rfl; exact yes; rfl; rfl; intro hcond; omega
    apply oop; rfl; apply Pev.load_keptA; rfl; exact yes; exact .head _; rfl; intro hcond; assumption; rfl; intro hcond; (rw [add_block]; assumption); intro hcond; exact NotOwned.au
    apply OL.alloc; rfl; rfl; exact CellsL.agg; (intro bk hbk; simp only [AllLe, and_true] at hbk)
    apply OL.storeB; rfl; rfl; exact CellsL.agg; rfl; rfl; rfl; exact Swap.au; exact Put.au
    apply OL.nx
    apply W.seq
    apply W.sr
    apply ofa; rfl; rfl; rfl
    apply old; rfl; rfl; exact .head _; rfl; rfl
    apply obn; rfl; rfl; rfl; apply Bin.neq
    apply omv; rfl; rfl
    apply oy; rfl; rfl; rfl; apply Pev.fld; rfl; exact yes; rfl
    apply oy; rfl; rfl; rfl; apply Pev.load_blk; rfl; exact fun h => h; exact .head _; rfl; rfl
    apply oy; rfl; rfl; rfl; apply Pev.bin; rfl; exact fun h => h; rfl; exact yes; intro hcond; apply Bin.neq
    apply oop; rfl; apply Pev.pick_and; rfl; exact yes; rfl; exact fun h => h
    apply OL.nx
    revert bk
    intro bx hbx
    refine W.cond rfl (fun hb => ?_) (fun hb => ?_)
    · have hno : ¬ (u.1.op = 14 ∨ u.1.op = 15) := by grind
      rw [if_pos (callE_no hno)] at hjr
      rw [← hqv]
      refine W.xt ?_
      with_reducible apply At.next
      apply W.reg
      apply obn; rfl; rfl; rfl; apply Bin.add_in; omega
      apply omv; rfl; rfl
      apply OL.nil
      exact At.again (j + 1) ⟨by omega, hjr⟩ (by omega) (by exact Sub.au) (fun w' hw' => hw'.thin (by exact Thin.au))
    have hop : u.1.op = 14 ∨ u.1.op = 15 := by grind
    have hn0 := call_pos hbok (List.mem_of_getElem? hx) hop
    apply W.sk
    apply W.seq
    apply W.sr
    apply ofa; rfl; rfl; rfl
    apply old; rfl; rfl; exact .head _; rfl; rfl
    apply ofa; rfl; rfl; rfl
    apply old; rfl; rfl; exact .tail _ (.tail _ (.head _)); rfl; rfl
    apply oop; rfl; apply Pev.len_slice; rfl; exact yes; rfl
    apply obn; rfl; rfl; rfl; apply Bin.geq
    apply OL.nx
    (refine W.cnd (fun hfar => ?_) (fun hfar => ?_)) <;> (try (exfalso; first | omega | exact hfar trivial | contradiction))
    · have h4 := callE_far (fs := F) hop (by rw [hFl]; omega)
      have hfe2 : funE F f = 4 := by rw [hfe, hjr, if_neg (by rw [h4]; decide), h4]
      apply W.sr
      apply oas; rfl; rfl
      apply OL.nx
      refine W.rt ?_
      ((with_reducible apply At.fin1); rfl; rfl; intro w' hw')
      exact ⟨by rw [hfe2], by (exact hw'.fr)⟩
    have hfar' : ¬ (F.length : Int) ≤ u.1.n := by rw [hFl]; omega
    obtain ⟨af, g, hqg, habg, hg1, hcg, hokg⟩ := hfs.get (i := u.1.n.toNat) (by omega)
    have habg : af.block < w.heap.size := habg
    have hcg : CellsAt w (af.add (u.1.n.toNat * 3)) [.int .i64 g.1.name, .slice g.2.p.1 g.1.params.length g.2.p.2, .slice g.2.b.1 g.1.body.length g.2.b.2] := hcg
    have hg2 : F[u.1.n.toNat]? = some g.1 := by rw [← hFd, List.getElem?_map, hg1]; rfl
    have hnear := callE_near (fs := F) hop hfar' hg2
    rw [hqg]
    apply W.sk
    apply W.sr
    apply ofa; rfl; rfl; rfl
    apply old; rfl; rfl; exact .tail _ (.tail _ (.head _)); rfl; rfl
    apply ofa; rfl; rfl; rfl
    apply old; rfl; rfl; exact .head _; rfl; rfl
    apply oop; rfl; apply Pev.idxI; rfl; exact yes; rfl; exact yes; rfl; intro hcond; omega
    apply oop; rfl; apply Pev.fldA; rfl; exact yes; rfl
    apply oop; rfl; apply Pev.load_kept; rfl; exact yes; exact .head _; rfl; intro hcond; apply CellsAt.at_ (by assumption) rfl; intro hcond; (simp only [add_block]; assumption); intro hcond; exact NotOwned.au
    apply oop; rfl; apply Pev.len_slice; rfl; exact yes; rfl
    apply oas; rfl; rfl
    apply OL.nsr
    apply ofa; rfl; rfl; rfl
    apply old; rfl; rfl; exact .head _; rfl; rfl
    apply obn; rfl; rfl; rfl; apply Bin.eql
    apply omv; rfl; rfl
    apply oy; rfl; rfl; rfl; apply Pev.fld; rfl; exact yes; rfl
    apply oy; rfl; rfl; rfl; apply Pev.load_blk; rfl; exact fun h => h; exact .head _; rfl; rfl
    apply oy; rfl; rfl; rfl; apply Pev.len_slice; rfl; exact fun h => h; rfl
    apply oy; rfl; rfl; rfl; apply Pev.move; rfl; exact yes
    apply oy; rfl; rfl; rfl; apply Pev.bin; rfl; exact fun h => h; rfl; exact fun h => h; intro hcond; apply Bin.neq
    apply oop; rfl; apply Pev.pick_and; rfl; exact yes; rfl; exact fun h => h
    apply omv; rfl; rfl
    apply ono; rfl; rfl; rfl; apply Pev.fld; rfl; exact yes; rfl
    apply ono; rfl; rfl; rfl; apply Pev.load_blk; rfl; exact fun h => h; exact .head _; rfl; rfl
    apply ono; rfl; rfl; rfl; apply Pev.bin; rfl; exact fun h => h; rfl; exact yes; intro hcond; apply Bin.eql
    apply ono; rfl; rfl; rfl; apply Pev.move; rfl; exact fun h => h
    apply OL.op; exact Guard.cyes rfl rfl; rfl; rfl; apply Pev.move; rfl; exact yes
    apply OL.op; exact Guard.cyes rfl rfl; rfl; rfl; apply Pev.bin; rfl; exact fun h => h; rfl; exact yes; intro hcond; apply Bin.eql
    apply ono; rfl; rfl; rfl; apply Pev.pick_and; rfl; exact fun h => h; rfl; exact fun h => h
    apply oop; rfl; apply Pev.pick_or; rfl; exact yes; rfl; exact fun h => h
    apply OL.nx
    refine W.cond rfl (fun hb2 => ?_) (fun hb2 => ?_)
    · have hc3 : u.1.op = 14 ∧ ¬ u.1.kids.length = g.1.params.length ∨ u.1.op = 15 ∧ g.1.params.length = 0 := by
        rcases hop with ho | ho <;> simp [ho] at hb2 <;> first | (simp [ho, hb2]; done) | omega | grind
      rw [if_pos hc3] at hnear
      have hfe2 : funE F f = 3 := by rw [hfe, hjr, if_neg (by rw [hnear]; decide), hnear]
      apply W.sr
      apply oas; rfl; rfl
      apply OL.nx
      refine W.rt ?_
      ((with_reducible apply At.fin1); rfl; rfl; intro w' hw')
      exact ⟨by rw [hfe2], by (exact hw'.fr)⟩
    · have hc3 : ¬ (u.1.op = 14 ∧ ¬ u.1.kids.length = g.1.params.length ∨ u.1.op = 15 ∧ g.1.params.length = 0) := by
        rcases hop with ho | ho <;> simp [ho] at hb2 <;> first | (simp [ho, hb2]; done) | omega | grind
      rw [if_neg hc3] at hnear
      rw [if_pos hnear] at hjr
      rw [← hqg, ← hqv]
      apply W.skip
      with_reducible apply At.in_normal
      with_reducible apply At.next
      apply W.reg
      apply obn; rfl; rfl; rfl; apply Bin.add_in; omega
      apply omv; rfl; rfl
      apply OL.nil
      exact At.again (j + 1) ⟨by omega, hjr⟩ (by omega) (by exact Sub.au) (fun w' hw' => hw'.thin (by exact Thin.au))
  obtain rfl : j = f.body.length := by omega
  rw [List.drop_length] at hjr
  have hf0 : funE F f = 0 := by rw [hfe, hjr]; rfl
  refine W.xt ?_
  with_reducible apply At.next
  apply W.sr
  apply oas; rfl; rfl
  apply OL.nx
  apply W.ret
  ((with_reducible apply At.fin1); rfl; rfl; intro w' hw')
  exact ⟨by rw [hf0], by (exact hw'.fr)⟩
theorem FlatCheck_calls (fs : List (Fun × FunY)) (qf : Option Addr) (cf : Nat) (main : Int) (w : World) (hfs : Arr funR w (low w) fs qf) (hg : 1 < w.heap.size) (hs : arityAt w) :
    Calls Tryd.prog 24 [.agg [.slice qf fs.length cf, .int .i64 main].toArray].toArray w fun e w' => e = .returned (.int .i64 (progE (fs.map Prod.fst) main)) ∧ Ext w w' := by
  obtain ⟨F, hFd⟩ : ∃ F, fs.map Prod.fst = F := ⟨_, rfl⟩
  have hFl : F.length = fs.length := by rw [← hFd, List.length_map]
  rw [hFd]
  refine enter Tryd.func24 rfl Tryd.ntmps24 rfl (Cls.start w) ?_
  (simp only [argEnv, Nat.zero_add, Nat.reduceAdd])
  apply W.sr
  apply OL.box; rfl; rfl; exact CellsL.agg; (intro bk hbk; simp only [AllLe, and_true] at hbk)
  apply oas; rfl; rfl
  apply OL.nx
  apply W.seq
  revert bk
  intro bp hbp
  refine W.joinx (G := Unit) (fun _ => ¬ F.length = 0 ∧ ¬ 256 < F.length ∧ progE F main = firstE (funE F) F) (fun _ => [(1, true, .pointer (some ⟨bp, 0, none⟩))]) (fun _ => Cls [blk bp 45 [.slice qf fs.length cf, .int .i64 main]] [w]) ?_ ?_
  · apply W.block
    apply W.sr
    apply ofa; rfl; rfl; rfl
    apply old; rfl; rfl; exact .head _; rfl; rfl
    apply oop; rfl; apply Pev.len_slice; rfl; exact yes; rfl
    apply obn; rfl; rfl; rfl; apply Bin.eql
    apply oas; rfl; rfl
    apply OL.nx
    (refine W.cnd (fun h1 => ?_) (fun h1 => ?_)) <;> (try (exfalso; first | omega | exact h1 trivial | contradiction))
    · apply W.sr
      apply oas; rfl; rfl
      apply OL.nx
      refine W.rt ?_
      ((with_reducible apply At.fin1); rfl; rfl; intro w' hw')
      exact ⟨by rw [progE_none (by omega)], by (exact hw'.fr)⟩
    have g1 : ¬ F.length = 0 := by omega
    apply W.sr
    apply ofa; rfl; rfl; rfl
    apply old; rfl; rfl; exact .head _; rfl; rfl
    apply oop; rfl; apply Pev.len_slice; rfl; exact yes; rfl
    apply obn; rfl; rfl; rfl; apply Bin.gtr
    apply oas; rfl; rfl
    apply OL.nx
    (refine W.cnd (fun h2 => ?_) (fun h2 => ?_)) <;> (try (exfalso; first | omega | exact h2 trivial | contradiction))
    · apply W.sr
      apply oas; rfl; rfl
      apply OL.nx
      refine W.rt ?_
      ((with_reducible apply At.fin1); rfl; rfl; intro w' hw')
      exact ⟨by rw [progE_many g1 (by omega)], by (exact hw'.fr)⟩
    have g2 : ¬ 256 < F.length := by omega
    apply W.sr
    apply ofa; rfl; rfl; rfl
    apply old; rfl; rfl; exact .head _; rfl; rfl
    apply obn; rfl; rfl; rfl; apply Bin.lss
    apply omv; rfl; rfl
    apply ono; rfl; rfl; rfl; apply Pev.fld; rfl; exact yes; rfl
    apply ono; rfl; rfl; rfl; apply Pev.load_blk; rfl; exact fun h => h; exact .head _; rfl; rfl
    apply ono; rfl; rfl; rfl; apply Pev.fld; rfl; exact yes; rfl
    apply ono; rfl; rfl; rfl; apply Pev.load_blk; rfl; exact fun h => h; exact .head _; rfl; rfl
    apply ono; rfl; rfl; rfl; apply Pev.len_slice; rfl; exact fun h => h; rfl
    apply ono; rfl; rfl; rfl; apply Pev.bin; rfl; exact fun h => h; rfl; exact fun h => h; intro hcond; apply Bin.geq
    apply oop; rfl; apply Pev.pick_or; rfl; exact yes; rfl; exact fun h => h
    apply oas; rfl; rfl
    apply OL.nx
    refine W.cond rfl (fun hb => ?_) (fun hb => ?_)
    · have g3 : main < 0 ∨ (F.length : Int) ≤ main := by rw [hFl]; grind
      apply W.sr
      apply oas; rfl; rfl
      apply OL.nx
      refine W.rt ?_
      ((with_reducible apply At.fin1); rfl; rfl; intro w' hw')
      exact ⟨by rw [progE_main g1 g2 g3], by (exact hw'.fr)⟩
    have g3 : ¬ (main < 0 ∨ (F.length : Int) ≤ main) := by rw [hFl]; grind
    obtain ⟨af, g, hqg, habg, hg1, hcg, hokg⟩ := hfs.get (i := main.toNat) (by omega)
    have habg : af.block < w.heap.size := habg
    have hcg : CellsAt w (af.add (main.toNat * 3)) [.int .i64 g.1.name, .slice g.2.p.1 g.1.params.length g.2.p.2, .slice g.2.b.1 g.1.body.length g.2.b.2] := hcg
    have hg2 : F[main.toNat]? = some g.1 := by rw [← hFd, List.getElem?_map, hg1]; rfl
    rw [hqg]
    apply W.sr
    apply ofa; rfl; rfl; rfl
    apply old; rfl; rfl; exact .head _; rfl; rfl
    apply ofa; rfl; rfl; rfl
    apply old; rfl; rfl; exact .head _; rfl; rfl
    apply oop; rfl; apply Pev.idxI; rfl; exact yes; rfl; exact yes; rfl; intro hcond; omega
    apply oop; rfl; apply Pev.fldA; rfl; exact yes; rfl
    apply oop; rfl; apply Pev.load_kept; rfl; exact yes; exact .head _; rfl; intro hcond; apply CellsAt.at_ (by assumption) rfl; intro hcond; (simp only [add_block]; assumption); intro hcond; exact NotOwned.au
    apply oop; rfl; apply Pev.len_slice; rfl; exact yes; rfl
    apply obn; rfl; rfl; rfl; apply Bin.gtr
    apply oas; rfl; rfl
    apply OL.nx
    (refine W.cnd (fun h4 => ?_) (fun h4 => ?_)) <;> (try (exfalso; first | omega | exact h4 trivial | contradiction))
    · apply W.sr
      apply oas; rfl; rfl
      apply OL.nx
      refine W.rt ?_
      ((with_reducible apply At.fin1); rfl; rfl; intro w' hw')
      exact ⟨by rw [progE_par g1 g2 g3 hg2 (by omega)], by (exact hw'.fr)⟩
    · have g4 : ¬ 0 < g.1.params.length := by omega
      rw [← hqg]
      apply W.skip
      with_reducible apply At.in_normal
      exact At.joinedx () ⟨g1, g2, progE_ok g1 g2 g3 hg2 g4⟩ (by exact Sub.au) (fun w' hw' => hw')
  rintro - ⟨g1, g2, hprog⟩
  have hfl : fs.length ≤ 256 := by omega
  rw [hprog]
  apply W.seq
  apply W.sr
  apply ofa; rfl; rfl; rfl
  apply old; rfl; rfl; exact .head _; rfl; rfl
  apply oop; rfl; apply Pev.len_slice; rfl; exact yes; rfl
  apply omv; rfl; rfl
  apply OL.nx
  apply W.block
  refine W.loop (G := Nat) (fun i => i ≤ fs.length ∧ firstE (funE F) F = firstE (funE F) (F.drop i)) (fun i => fs.length - i)
    (fun i => [(1, true, .pointer (some ⟨bp, 0, none⟩)), (39, true, .slice qf fs.length cf), (40, true, .int .i64 (fs.length : Int)), (41, true, .int .i64 (i : Int))])
    (fun _ => Cls [blk bp 45 [.slice qf fs.length cf, .int .i64 main]] [w]) 0 ⟨by omega, by rw [List.drop_zero]⟩ (by exact Sub.au) (fun w' hw' => hw') ?_
  rintro i ⟨hi, hir⟩
  apply W.sr
  apply obn; rfl; rfl; rfl; apply Bin.lss
  apply OL.nx
  apply W.seq
  (refine W.cnd (fun hltf => ?_) (fun hltf => ?_)) <;> (try (exfalso; first | omega | exact hltf trivial | contradiction))
  · obtain ⟨ai, fy, hqi, habi, hfi, hci, hFy⟩ := hfs.get (show i < fs.length by omega)
    have habi : ai.block < w.heap.size := habi
    obtain ⟨f, y⟩ := fy
    have hci : CellsAt w (ai.add (i * 3)) [.int .i64 f.name, .slice y.p.1 f.params.length y.p.2, .slice y.b.1 f.body.length y.b.2] := hci
    have hF : FunOk w (low w) f y := hFy
    have hfx : F[i]? = some f := by rw [← hFd, List.getElem?_map, hfi]; rfl
    rw [firstE_drop hfx] at hir
    rw [hqi]
    apply W.sk
    apply W.sb
    apply W.sr
    apply oop; rfl; apply Pev.idx; rfl; exact yes; rfl; exact yes; rfl; rfl; intro hcond; omega
    apply oop; rfl; apply Pev.load_keptA; rfl; exact yes; exact .head _; rfl; intro hcond; assumption; rfl; intro hcond; (rw [add_block]; assumption); intro hcond; exact NotOwned.au
    apply OL.alloc; rfl; rfl; exact CellsL.agg; (intro bk hbk; simp only [AllLe, and_true] at hbk)
    apply OL.storeB; rfl; rfl; exact CellsL.agg; rfl; rfl; rfl; exact Swap.au; exact Put.au
    apply OL.nsr
    apply oop; rfl; apply Pev.load_blkA; rfl; exact yes; exact .tail _ (.head _); rfl; exact Take.au
    apply oop; rfl; apply Pev.load_blkA; rfl; exact yes; exact .head _; rfl; exact Take.au
    revert bk
    intro bf hbf
    (((first | (with_reducible apply OL.op) | (with_reducible apply QL.op)); (exact Guard.au); rfl; rfl); (exact Pev.call (v := .int .i64 (funE F f)) rfl (by exact Args.au) (fun _ w2 hw2 => (fnError_calls fs (some ai) cf main f y w2 (hqi ▸ hfs.at hw2 (by exact mau) (fun k hk => by exact NotOwned.au)) hfl (hF.at hw2 (by exact mau) (fun k hk => by exact NotOwned.au)) (Nat.lt_of_lt_of_le hg (hw2.kp w (by exact mau)).size) (hs.at hg hw2 (by exact mau) (fun k hk => by exact NotOwned.au))).mono (fun e w3 h => ⟨by rw [h.1, hFd], hw2.ext h.2⟩))))
    apply oas; rfl; rfl
    apply OL.nsr
    apply omv; rfl; rfl
    apply obn; rfl; rfl; rfl; apply Bin.neq
    apply OL.nx
    (refine W.cnd (fun hz => ?_) (fun hz => ?_)) <;> (try (exfalso; first | omega | exact hz trivial | contradiction))
    · apply W.sr
      apply omv; rfl; rfl
      apply oas; rfl; rfl
      apply OL.nx
      refine W.rt ?_
      ((with_reducible apply At.fin1); rfl; rfl; intro w' hw')
      exact ⟨by rw [hir, if_neg hz], by (exact hw'.fr)⟩
    · have hz0 : funE F f = 0 := by simpa using hz
      rw [if_pos hz0] at hir
      rw [← hqi]
      apply W.skip
      with_reducible apply At.in_normal
      with_reducible apply At.next
      apply W.reg
      apply obn; rfl; rfl; rfl; apply Bin.add_in; omega
      apply omv; rfl; rfl
      apply OL.nil
      exact At.again (i + 1) ⟨by omega, hir⟩ (by omega) (by exact Sub.au) (fun w' hw' => hw'.thin (by exact Thin.au))
  · obtain rfl : i = fs.length := by omega
    rw [← hFl, List.drop_length] at hir
    refine W.xt ?_
    with_reducible apply At.next
    apply W.sr
    apply oas; rfl; rfl
    apply OL.nx
    apply W.ret
    ((with_reducible apply At.fin1); rfl; rfl; intro w' hw')
    exact ⟨by rw [hir]; rfl, by (exact hw'.fr)⟩
theorem flatFault_calls (fs : List (Fun × FunY)) (qf : Option Addr) (cf : Nat) (main : Int) (w : World) (hfs : Arr funR w (low w) fs qf) (hg : 1 < w.heap.size) (hs : arityAt w) :
    Calls Tryd.prog 25 [.agg [.slice qf fs.length cf, .int .i64 main].toArray].toArray w fun e w' => e = .returned (.int .i64 (progE (fs.map Prod.fst) main)) ∧ Ext w w' := by
  obtain ⟨F, hFd⟩ : ∃ F, fs.map Prod.fst = F := ⟨_, rfl⟩
  have hFl : F.length = fs.length := by rw [← hFd, List.length_map]
  rw [hFd]
  refine enter Tryd.func25 rfl Tryd.ntmps25 rfl (Cls.start w) ?_
  (simp only [argEnv, Nat.zero_add, Nat.reduceAdd])
  apply W.sr
  apply OL.box; rfl; rfl; exact CellsL.agg; (intro bk hbk; simp only [AllLe, and_true] at hbk)
  apply oas; rfl; rfl
  apply OL.nx
  apply W.seq
  revert bk
  intro bp hbp
  refine W.joinx (G := Unit) (fun _ => ¬ F.length = 0 ∧ ¬ 256 < F.length ∧ progE F main = firstE (funE F) F) (fun _ => [(1, true, .pointer (some ⟨bp, 0, none⟩))]) (fun _ => Cls [blk bp 45 [.slice qf fs.length cf, .int .i64 main]] [w]) ?_ ?_
  · apply W.block
    apply W.sr
    apply ofa; rfl; rfl; rfl
    apply old; rfl; rfl; exact .head _; rfl; rfl
    apply oop; rfl; apply Pev.len_slice; rfl; exact yes; rfl
    apply obn; rfl; rfl; rfl; apply Bin.eql
    apply oas; rfl; rfl
    apply OL.nx
    (refine W.cnd (fun h1 => ?_) (fun h1 => ?_)) <;> (try (exfalso; first | omega | exact h1 trivial | contradiction))
    · apply W.sr
      apply oas; rfl; rfl
      apply OL.nx
      refine W.rt ?_
      ((with_reducible apply At.fin1); rfl; rfl; intro w' hw')
      exact ⟨by rw [progE_none (by omega)], by (exact hw'.fr)⟩
    have g1 : ¬ F.length = 0 := by omega
    apply W.sr
    apply ofa; rfl; rfl; rfl
    apply old; rfl; rfl; exact .head _; rfl; rfl
    apply oop; rfl; apply Pev.len_slice; rfl; exact yes; rfl
    apply obn; rfl; rfl; rfl; apply Bin.gtr
    apply oas; rfl; rfl
    apply OL.nx
    (refine W.cnd (fun h2 => ?_) (fun h2 => ?_)) <;> (try (exfalso; first | omega | exact h2 trivial | contradiction))
    · apply W.sr
      apply oas; rfl; rfl
      apply OL.nx
      refine W.rt ?_
      ((with_reducible apply At.fin1); rfl; rfl; intro w' hw')
      exact ⟨by rw [progE_many g1 (by omega)], by (exact hw'.fr)⟩
    have g2 : ¬ 256 < F.length := by omega
    apply W.sr
    apply ofa; rfl; rfl; rfl
    apply old; rfl; rfl; exact .head _; rfl; rfl
    apply obn; rfl; rfl; rfl; apply Bin.lss
    apply omv; rfl; rfl
    apply ono; rfl; rfl; rfl; apply Pev.fld; rfl; exact yes; rfl
    apply ono; rfl; rfl; rfl; apply Pev.load_blk; rfl; exact fun h => h; exact .head _; rfl; rfl
    apply ono; rfl; rfl; rfl; apply Pev.fld; rfl; exact yes; rfl
    apply ono; rfl; rfl; rfl; apply Pev.load_blk; rfl; exact fun h => h; exact .head _; rfl; rfl
    apply ono; rfl; rfl; rfl; apply Pev.len_slice; rfl; exact fun h => h; rfl
    apply ono; rfl; rfl; rfl; apply Pev.bin; rfl; exact fun h => h; rfl; exact fun h => h; intro hcond; apply Bin.geq
    apply oop; rfl; apply Pev.pick_or; rfl; exact yes; rfl; exact fun h => h
    apply oas; rfl; rfl
    apply OL.nx
    refine W.cond rfl (fun hb => ?_) (fun hb => ?_)
    · have g3 : main < 0 ∨ (F.length : Int) ≤ main := by rw [hFl]; grind
      apply W.sr
      apply oas; rfl; rfl
      apply OL.nx
      refine W.rt ?_
      ((with_reducible apply At.fin1); rfl; rfl; intro w' hw')
      exact ⟨by rw [progE_main g1 g2 g3], by (exact hw'.fr)⟩
    have g3 : ¬ (main < 0 ∨ (F.length : Int) ≤ main) := by rw [hFl]; grind
    obtain ⟨af, g, hqg, habg, hg1, hcg, hokg⟩ := hfs.get (i := main.toNat) (by omega)
    have habg : af.block < w.heap.size := habg
    have hcg : CellsAt w (af.add (main.toNat * 3)) [.int .i64 g.1.name, .slice g.2.p.1 g.1.params.length g.2.p.2, .slice g.2.b.1 g.1.body.length g.2.b.2] := hcg
    have hg2 : F[main.toNat]? = some g.1 := by rw [← hFd, List.getElem?_map, hg1]; rfl
    rw [hqg]
    apply W.sr
    apply ofa; rfl; rfl; rfl
    apply old; rfl; rfl; exact .head _; rfl; rfl
    apply ofa; rfl; rfl; rfl
    apply old; rfl; rfl; exact .head _; rfl; rfl
    apply oop; rfl; apply Pev.idxI; rfl; exact yes; rfl; exact yes; rfl; intro hcond; omega
    apply oop; rfl; apply Pev.fldA; rfl; exact yes; rfl
    apply oop; rfl; apply Pev.load_kept; rfl; exact yes; exact .head _; rfl; intro hcond; apply CellsAt.at_ (by assumption) rfl; intro hcond; (simp only [add_block]; assumption); intro hcond; exact NotOwned.au
    apply oop; rfl; apply Pev.len_slice; rfl; exact yes; rfl
    apply obn; rfl; rfl; rfl; apply Bin.gtr
    apply oas; rfl; rfl
    apply OL.nx
    (refine W.cnd (fun h4 => ?_) (fun h4 => ?_)) <;> (try (exfalso; first | omega | exact h4 trivial | contradiction))
    · apply W.sr
      apply oas; rfl; rfl
      apply OL.nx
      refine W.rt ?_
      ((with_reducible apply At.fin1); rfl; rfl; intro w' hw')
      exact ⟨by rw [progE_par g1 g2 g3 hg2 (by omega)], by (exact hw'.fr)⟩
    · have g4 : ¬ 0 < g.1.params.length := by omega
      rw [← hqg]
      apply W.skip
      with_reducible apply At.in_normal
      exact At.joinedx () ⟨g1, g2, progE_ok g1 g2 g3 hg2 g4⟩ (by exact Sub.au) (fun w' hw' => hw')
  rintro - ⟨g1, g2, hprog⟩
  have hfl : fs.length ≤ 256 := by omega
  rw [hprog]
  apply W.seq
  apply W.sr
  apply ofa; rfl; rfl; rfl
  apply old; rfl; rfl; exact .head _; rfl; rfl
  apply oop; rfl; apply Pev.len_slice; rfl; exact yes; rfl
  apply omv; rfl; rfl
  apply OL.nx
  apply W.block
  refine W.loop (G := Nat) (fun i => i ≤ fs.length ∧ firstE (funE F) F = firstE (funE F) (F.drop i)) (fun i => fs.length - i)
    (fun i => [(1, true, .pointer (some ⟨bp, 0, none⟩)), (44, true, .slice qf fs.length cf), (45, true, .int .i64 (fs.length : Int)), (46, true, .int .i64 (i : Int))])
    (fun _ => Cls [blk bp 45 [.slice qf fs.length cf, .int .i64 main]] [w]) 0 ⟨by omega, by rw [List.drop_zero]⟩ (by exact Sub.au) (fun w' hw' => hw') ?_
  rintro i ⟨hi, hir⟩
  apply W.sr
  apply obn; rfl; rfl; rfl; apply Bin.lss
  apply OL.nx
  apply W.seq
  (refine W.cnd (fun hltf => ?_) (fun hltf => ?_)) <;> (try (exfalso; first | omega | exact hltf trivial | contradiction))
  · obtain ⟨ai, fy, hqi, habi, hfi, hci, hFy⟩ := hfs.get (show i < fs.length by omega)
    have habi : ai.block < w.heap.size := habi
    obtain ⟨f, y⟩ := fy
    have hci : CellsAt w (ai.add (i * 3)) [.int .i64 f.name, .slice y.p.1 f.params.length y.p.2, .slice y.b.1 f.body.length y.b.2] := hci
    have hF : FunOk w (low w) f y := hFy
    have hfx : F[i]? = some f := by rw [← hFd, List.getElem?_map, hfi]; rfl
    rw [firstE_drop hfx] at hir
    rw [hqi]
    apply W.sk
    apply W.sb
    apply W.sr
    apply oop; rfl; apply Pev.idx; rfl; exact yes; rfl; exact yes; rfl; rfl; intro hcond; omega
    apply oop; rfl; apply Pev.load_keptA; rfl; exact yes; exact .head _; rfl; intro hcond; assumption; rfl; intro hcond; (rw [add_block]; assumption); intro hcond; exact NotOwned.au
    apply OL.alloc; rfl; rfl; exact CellsL.agg; (intro bk hbk; simp only [AllLe, and_true] at hbk)
    apply OL.storeB; rfl; rfl; exact CellsL.agg; rfl; rfl; rfl; exact Swap.au; exact Put.au
    apply OL.nx
    apply W.seq
    apply W.sr
    apply ofa; rfl; rfl; rfl
    apply old; rfl; rfl; exact .head _; rfl; rfl
    apply obn; rfl; rfl; rfl; apply Bin.lss
    apply omv; rfl; rfl
    apply ono; rfl; rfl; rfl; apply Pev.fld; rfl; exact yes; rfl
    apply ono; rfl; rfl; rfl; apply Pev.load_blk; rfl; exact fun h => h; exact .head _; rfl; rfl
    apply ono; rfl; rfl; rfl; apply Pev.bin; rfl; exact fun h => h; rfl; exact yes; intro hcond; apply Bin.geq
    apply oop; rfl; apply Pev.pick_or; rfl; exact yes; rfl; exact fun h => h
    apply OL.nx
    revert bk
    intro bf hbf
    obtain ⟨pb, hbm, harrB⟩ := hF.b
    have hbl := hF.bl
    have hpbl : f.body.length = pb.length := by rw [← hbm, List.length_map]
    refine W.cond rfl (fun hb => ?_) (fun hb => ?_)
    · have hbad : f.name < -1 ∨ 1048576 ≤ f.name := by grind
      have hfe := funE_name (fs := F) hbad
      apply W.sr
      apply oas; rfl; rfl
      apply OL.nx
      refine W.rt ?_
      ((with_reducible apply At.fin1); rfl; rfl; intro w' hw')
      exact ⟨by rw [hir, if_neg (by rw [hfe]; exact (by decide)), hfe], by (exact hw'.fr)⟩
    have hn1 : ¬ (f.name < -1 ∨ 1048576 ≤ f.name) := by grind
    apply W.sk
    apply W.seq
    apply W.sr
    apply ofa; rfl; rfl; rfl
    apply old; rfl; rfl; exact .head _; rfl; rfl
    apply oop; rfl; apply Pev.len_slice; rfl; exact yes; rfl
    apply obn; rfl; rfl; rfl; apply Bin.gtr
    apply OL.nx
    (refine W.cnd (fun hp6 => ?_) (fun hp6 => ?_)) <;> (try (exfalso; first | omega | exact hp6 trivial | contradiction))
    · have hfe := funE_par (fs := F) hn1 (by omega)
      apply W.sr
      apply oas; rfl; rfl
      apply OL.nx
      refine W.rt ?_
      ((with_reducible apply At.fin1); rfl; rfl; intro w' hw')
      exact ⟨by rw [hir, if_neg (by rw [hfe]; exact (by decide)), hfe], by (exact hw'.fr)⟩
    have hp6' : ¬ 6 < f.params.length := by omega
    apply W.sk
    apply W.seq
    apply W.sr
    apply ofa; rfl; rfl; rfl
    apply old; rfl; rfl; exact .head _; rfl; rfl
    apply oop; rfl; apply Pev.len_slice; rfl; exact yes; rfl
    apply omv; rfl; rfl
    apply OL.nx
    apply W.block
    refine W.loop (G := Nat) (fun j => j ≤ f.params.length ∧ firstE idE f.params = firstE idE (f.params.drop j)) (fun j => f.params.length - j)
      (fun j => [(1, true, .pointer (some ⟨bp, 0, none⟩)), (44, true, .slice (some ai) fs.length cf), (45, true, .int .i64 (fs.length : Int)), (46, true, .int .i64 (i : Int)), (4, true, .pointer (some ⟨bf, 0, none⟩)), (63, true, .slice y.p.1 f.params.length y.p.2), (64, true, .int .i64 (f.params.length : Int)), (65, true, .int .i64 (j : Int))])
      (fun _ => Cls [blk bf 87 [.int .i64 f.name, .slice y.p.1 f.params.length y.p.2, .slice y.b.1 f.body.length y.b.2], blk bp 45 [.slice (some ai) fs.length cf, .int .i64 main]] [w]) 0 ⟨by omega, by rw [List.drop_zero]⟩ (by exact Sub.au) (fun w' hw' => hw') ?_
    rintro j ⟨hj, hjr⟩
    apply W.sr
    apply obn; rfl; rfl; rfl; apply Bin.lss
    apply OL.nx
    apply W.seq
    (refine W.cnd (fun hlt => ?_) (fun hlt => ?_)) <;> (try (exfalso; first | omega | exact hlt trivial | contradiction))
    · obtain ⟨av, v, hqv, habv, hv, hcv⟩ := hF.p.get (show j < f.params.length by omega)
      have habv : av.block < w.heap.size := habv
      rw [firstE_drop hv] at hjr
      rw [hqv]
      apply W.sk
      apply W.sb
      apply W.sr
      apply oop; rfl; apply Pev.idx; rfl; exact yes; rfl; exact yes; rfl; rfl; intro hcond; omega
      apply oop; rfl; apply Pev.load_kept; rfl; exact yes; exact .head _; rfl; intro hcond; assumption; intro hcond; (rw [add_block]; assumption); intro hcond; exact NotOwned.au
      apply oas; rfl; rfl
      apply OL.nsr
      apply omv; rfl; rfl
      apply obn; rfl; rfl; rfl; apply Bin.lss
      apply omv; rfl; rfl
      apply ono; rfl; rfl; rfl; apply Pev.move; rfl; exact yes
      apply ono; rfl; rfl; rfl; apply Pev.bin; rfl; exact fun h => h; rfl; exact yes; intro hcond; apply Bin.geq
      apply oop; rfl; apply Pev.pick_or; rfl; exact yes; rfl; exact fun h => h
      apply OL.nx
      refine W.cond rfl (fun hb => ?_) (fun hb => ?_)
      · have hbad : v < 0 ∨ 1048576 ≤ v := by grind
        have h4 := idE_bad hbad
        have hfe := funE_id (fs := F) hn1 hp6' (by rw [hjr, if_neg (by rw [h4]; decide), h4]; decide)
        apply W.sr
        apply oas; rfl; rfl
        apply OL.nx
        refine W.rt ?_
        ((with_reducible apply At.fin1); rfl; rfl; intro w' hw')
        exact ⟨by rw [hir, if_neg (by rw [hfe]; exact (by decide)), hfe], by (exact hw'.fr)⟩
      · have hgood : ¬ (v < 0 ∨ 1048576 ≤ v) := by grind
        rw [if_pos (idE_ok hgood)] at hjr
        rw [← hqv]
        apply W.skip
        with_reducible apply At.in_normal
        with_reducible apply At.next
        apply W.reg
        apply obn; rfl; rfl; rfl; apply Bin.add_in; omega
        apply omv; rfl; rfl
        apply OL.nil
        exact At.again (j + 1) ⟨by omega, hjr⟩ (by omega) (by exact Sub.au) (fun w' hw' => hw')
    obtain rfl : j = f.params.length := by omega
    rw [List.drop_length] at hjr
    have hid : firstE idE f.params = 0 := hjr
    refine W.xt ?_
    with_reducible apply At.next
    apply W.seq
    apply W.sr
    apply ofa; rfl; rfl; rfl
    apply old; rfl; rfl; exact .head _; rfl; rfl
    apply ofa; rfl; rfl; rfl
    apply old; rfl; rfl; exact .head _; rfl; rfl
    (((first | (with_reducible apply OL.op) | (with_reducible apply QL.op)); (exact Guard.au); rfl; rfl); (exact Pev.call (v := .int .i64 (bodyE f.body f.params true)) rfl (by exact Args.au) (fun _ w2 hw2 => by
      have h5 := BodyFault_calls pb y.b.1 y.p.1 y.b.2 y.p.2 f.params true w2 (harrB.at hw2 (by exact mau) (fun k hk => by exact NotOwned.au)) (by omega) (hF.p.at hw2 (by exact mau) (fun k hk => by exact NotOwned.au)) (by omega)
      rw [← hpbl, hbm] at h5
      exact h5.mono (fun e w3 h => ⟨h.1, hw2.ext h.2⟩))))
    apply oas; rfl; rfl
    apply OL.nsr
    apply omv; rfl; rfl
    apply obn; rfl; rfl; rfl; apply Bin.neq
    apply OL.nx
    (refine W.cnd (fun hbz => ?_) (fun hbz => ?_)) <;> (try (exfalso; first | omega | exact hbz trivial | contradiction))
    · have hfe := funE_bd (fs := F) hn1 hp6' hid hbz
      apply W.sr
      apply omv; rfl; rfl
      apply oas; rfl; rfl
      apply OL.nx
      refine W.rt ?_
      ((with_reducible apply At.fin1); rfl; rfl; intro w' hw')
      exact ⟨by rw [hir, if_neg (by rw [hfe]; exact hbz), hfe], by (exact hw'.fr)⟩
    have hb0 : bodyE f.body f.params true = 0 := by simpa using hbz
    have hfe := funE_ok (fs := F) hn1 hp6' hid hb0
    have hbok := BodyOk.of hb0
    apply W.sk
    apply W.sr
    apply ofa; rfl; rfl; rfl
    apply old; rfl; rfl; exact .head _; rfl; rfl
    apply oop; rfl; apply Pev.len_slice; rfl; exact yes; rfl
    apply omv; rfl; rfl
    apply OL.nx
    apply W.block
    refine W.loop (G := Nat) (fun j => j ≤ f.body.length ∧ firstE (callE F) f.body = firstE (callE F) (f.body.drop j)) (fun j => f.body.length - j)
      (fun j => [(1, true, .pointer (some ⟨bp, 0, none⟩)), (44, true, .slice (some ai) fs.length cf), (45, true, .int .i64 (fs.length : Int)), (46, true, .int .i64 (i : Int)), (85, true, .slice y.b.1 f.body.length y.b.2), (86, true, .int .i64 (f.body.length : Int)), (87, true, .int .i64 (j : Int))])
      (fun _ => Cls [blk bf 87 [.int .i64 f.name, .slice y.p.1 f.params.length y.p.2, .slice y.b.1 f.body.length y.b.2], blk bp 45 [.slice (some ai) fs.length cf, .int .i64 main]] [w]) 0 ⟨by omega, by rw [List.drop_zero]⟩ (by exact Sub.au) (fun w' hw' => hw'.thin (by exact Thin.au)) ?_
    rintro j ⟨hj, hjr⟩
    apply W.sr
    apply obn; rfl; rfl; rfl; apply Bin.lss
    apply OL.nx
    apply W.seq
    (refine W.cnd (fun hlt2 => ?_) (fun hlt2 => ?_)) <;> (try (exfalso; first | omega | exact hlt2 trivial | contradiction))
    · obtain ⟨av, u, hqv, habv, hu, hcv, hoku⟩ := harrB.get (show j < pb.length by omega)
      have habv : av.block < w.heap.size := habv
      have hcv : CellsAt w (av.add (j * 5)) [.int .i64 u.1.op, .int .i64 u.1.n, .slice u.2.b.1 u.1.binds.length u.2.b.2, .slice u.2.k.1 u.1.kids.length u.2.k.2, .slice u.2.a.1 u.1.alts.length u.2.a.2] := hcv
      have hx : f.body[j]? = some u.1 := by rw [← hbm, List.getElem?_map, hu]; rfl
      rw [firstE_drop hx] at hjr
      rw [hqv]
      apply W.sk
      apply W.sb
      apply W.sr
      apply oop; rfl; apply Pev.idx; rfl; exact yes; rfl; exact yes; rfl; rfl; intro hcond; omega
      apply oop; rfl; apply Pev.load_keptA; rfl; exact yes; exact .head _; rfl; intro hcond; assumption; rfl; intro hcond; (rw [add_block]; assumption); intro hcond; exact NotOwned.au
      apply OL.alloc; rfl; rfl; exact CellsL.agg; (intro bk hbk; simp only [AllLe, and_true] at hbk)
      apply OL.storeB; rfl; rfl; exact CellsL.agg; rfl; rfl; rfl; exact Swap.au; exact Put.au
      apply OL.nx
      apply W.seq
      apply W.sr
      apply ofa; rfl; rfl; rfl
      apply old; rfl; rfl; exact .head _; rfl; rfl
      apply obn; rfl; rfl; rfl; apply Bin.neq
      apply omv; rfl; rfl
      apply oy; rfl; rfl; rfl; apply Pev.fld; rfl; exact yes; rfl
      apply oy; rfl; rfl; rfl; apply Pev.load_blk; rfl; exact fun h => h; exact .head _; rfl; rfl
      apply oy; rfl; rfl; rfl; apply Pev.bin; rfl; exact fun h => h; rfl; exact yes; intro hcond; apply Bin.neq
      apply oop; rfl; apply Pev.pick_and; rfl; exact yes; rfl; exact fun h => h
      apply OL.nx
      revert bk
      intro bx hbx
      refine W.cond rfl (fun hb => ?_) (fun hb => ?_)
      · have hno : ¬ (u.1.op = 14 ∨ u.1.op = 15) := by grind
        rw [if_pos (callE_no hno)] at hjr
        rw [← hqv]
        refine W.xt ?_
        with_reducible apply At.next
        apply W.reg
        apply obn; rfl; rfl; rfl; apply Bin.add_in; omega
        apply omv; rfl; rfl
        apply OL.nil
        exact At.again (j + 1) ⟨by omega, hjr⟩ (by omega) (by exact Sub.au) (fun w' hw' => hw'.thin (by exact Thin.au))
      have hop : u.1.op = 14 ∨ u.1.op = 15 := by grind
      have hn0 := call_pos hbok (List.mem_of_getElem? hx) hop
      apply W.sk
      apply W.seq
      apply W.sr
      apply ofa; rfl; rfl; rfl
      apply old; rfl; rfl; exact .head _; rfl; rfl
      apply ofa; rfl; rfl; rfl
      apply old; rfl; rfl; exact .tail _ (.tail _ (.head _)); rfl; rfl
      apply oop; rfl; apply Pev.len_slice; rfl; exact yes; rfl
      apply obn; rfl; rfl; rfl; apply Bin.geq
      apply OL.nx
      (refine W.cnd (fun hfar => ?_) (fun hfar => ?_)) <;> (try (exfalso; first | omega | exact hfar trivial | contradiction))
      · have h4 := callE_far (fs := F) hop (by rw [hFl]; omega)
        have hfe2 : funE F f = 4 := by rw [hfe, hjr, if_neg (by rw [h4]; decide), h4]
        apply W.sr
        apply oas; rfl; rfl
        apply OL.nx
        refine W.rt ?_
        ((with_reducible apply At.fin1); rfl; rfl; intro w' hw')
        exact ⟨by rw [hir, if_neg (by rw [hfe2]; exact (by decide)), hfe2], by (exact hw'.fr)⟩
      have hfar' : ¬ (F.length : Int) ≤ u.1.n := by rw [hFl]; omega
      obtain ⟨af, g, hqg, habg, hg1, hcg, hokg⟩ := hfs.get (i := u.1.n.toNat) (by omega)
      have habg : af.block < w.heap.size := habg
      have hcg : CellsAt w (af.add (u.1.n.toNat * 3)) [.int .i64 g.1.name, .slice g.2.p.1 g.1.params.length g.2.p.2, .slice g.2.b.1 g.1.body.length g.2.b.2] := hcg
      have hg2 : F[u.1.n.toNat]? = some g.1 := by rw [← hFd, List.getElem?_map, hg1]; rfl
      have hnear := callE_near (fs := F) hop hfar' hg2
      obtain rfl : ai = af := Option.some.inj (hqi.symm.trans hqg)
      apply W.sk
      apply W.sr
      apply ofa; rfl; rfl; rfl
      apply old; rfl; rfl; exact .tail _ (.tail _ (.head _)); rfl; rfl
      apply ofa; rfl; rfl; rfl
      apply old; rfl; rfl; exact .head _; rfl; rfl
      apply oop; rfl; apply Pev.idxI; rfl; exact yes; rfl; exact yes; rfl; intro hcond; omega
      apply oop; rfl; apply Pev.fldA; rfl; exact yes; rfl
      apply oop; rfl; apply Pev.load_kept; rfl; exact yes; exact .head _; rfl; intro hcond; apply CellsAt.at_ (by assumption) rfl; intro hcond; (simp only [add_block]; assumption); intro hcond; exact NotOwned.au
      apply oop; rfl; apply Pev.len_slice; rfl; exact yes; rfl
      apply oas; rfl; rfl
      apply OL.nsr
      apply ofa; rfl; rfl; rfl
      apply old; rfl; rfl; exact .head _; rfl; rfl
      apply obn; rfl; rfl; rfl; apply Bin.eql
      apply omv; rfl; rfl
      apply oy; rfl; rfl; rfl; apply Pev.move; rfl; exact yes
      apply oy; rfl; rfl; rfl; apply Pev.fld; rfl; exact yes; rfl
      apply oy; rfl; rfl; rfl; apply Pev.load_blk; rfl; exact fun h => h; exact .head _; rfl; rfl
      apply oy; rfl; rfl; rfl; apply Pev.len_slice; rfl; exact fun h => h; rfl
      apply oy; rfl; rfl; rfl; apply Pev.bin; rfl; exact fun h => h; rfl; exact fun h => h; intro hcond; apply Bin.neq
      apply oop; rfl; apply Pev.pick_and; rfl; exact yes; rfl; exact fun h => h
      apply omv; rfl; rfl
      apply ono; rfl; rfl; rfl; apply Pev.fld; rfl; exact yes; rfl
      apply ono; rfl; rfl; rfl; apply Pev.load_blk; rfl; exact fun h => h; exact .head _; rfl; rfl
      apply ono; rfl; rfl; rfl; apply Pev.bin; rfl; exact fun h => h; rfl; exact yes; intro hcond; apply Bin.eql
      apply ono; rfl; rfl; rfl; apply Pev.move; rfl; exact fun h => h
      apply OL.op; exact Guard.cyes rfl rfl; rfl; rfl; apply Pev.move; rfl; exact yes
      apply OL.op; exact Guard.cyes rfl rfl; rfl; rfl; apply Pev.bin; rfl; exact fun h => h; rfl; exact yes; intro hcond; apply Bin.lss
      apply ono; rfl; rfl; rfl; apply Pev.pick_and; rfl; exact fun h => h; rfl; exact fun h => h
      apply oop; rfl; apply Pev.pick_or; rfl; exact yes; rfl; exact fun h => h
      apply OL.nx
      refine W.cond rfl (fun hb2 => ?_) (fun hb2 => ?_)
      · have hc3 : u.1.op = 14 ∧ ¬ u.1.kids.length = g.1.params.length ∨ u.1.op = 15 ∧ g.1.params.length = 0 := by
          rcases hop with ho | ho <;> simp [ho] at hb2 <;> first | (simp [ho, hb2]; done) | omega | grind
        rw [if_pos hc3] at hnear
        have hfe2 : funE F f = 3 := by rw [hfe, hjr, if_neg (by rw [hnear]; decide), hnear]
        apply W.sr
        apply oas; rfl; rfl
        apply OL.nx
        refine W.rt ?_
        ((with_reducible apply At.fin1); rfl; rfl; intro w' hw')
        exact ⟨by rw [hir, if_neg (by rw [hfe2]; exact (by decide)), hfe2], by (exact hw'.fr)⟩
      · have hc3 : ¬ (u.1.op = 14 ∧ ¬ u.1.kids.length = g.1.params.length ∨ u.1.op = 15 ∧ g.1.params.length = 0) := by
          rcases hop with ho | ho <;> simp [ho] at hb2 <;> first | (simp [ho, hb2]; done) | omega | grind
        rw [if_neg hc3] at hnear
        rw [if_pos hnear] at hjr
        rw [← hqv]
        apply W.skip
        with_reducible apply At.in_normal
        with_reducible apply At.next
        apply W.reg
        apply obn; rfl; rfl; rfl; apply Bin.add_in; omega
        apply omv; rfl; rfl
        apply OL.nil
        exact At.again (j + 1) ⟨by omega, hjr⟩ (by omega) (by exact Sub.au) (fun w' hw' => hw'.thin (by exact Thin.au))
    obtain rfl : j = f.body.length := by omega
    rw [List.drop_length] at hjr
    have hf0 : funE F f = 0 := by rw [hfe, hjr]; rfl
    rw [if_pos hf0] at hir
    rw [← hqi]
    refine W.xt ?_
    with_reducible apply At.in_normal
    with_reducible apply At.next
    apply W.reg
    apply obn; rfl; rfl; rfl; apply Bin.add_in; omega
    apply omv; rfl; rfl
    apply OL.nil
    exact At.again (i + 1) ⟨by omega, hir⟩ (by omega) (by exact Sub.au) (fun w' hw' => hw'.thin (by exact Thin.au))
  · obtain rfl : i = fs.length := by omega
    rw [← hFl, List.drop_length] at hir
    refine W.xt ?_
    with_reducible apply At.next
    apply W.sr
    apply oas; rfl; rfl
    apply OL.nx
    apply W.ret
    ((with_reducible apply At.fin1); rfl; rfl; intro w' hw')
    exact ⟨by rw [hir]; rfl, by (exact hw'.fr)⟩
end Go.Proofs.YtlboppiogeaicaaDoor.co

/- Readings with the reach: what a slice's and a struct's parts are, and how much they weigh at most. General. No condition. -/
namespace Go.Eng
open Go.RowKit Go.ChangeShapes Go.WideShapes Go.ChangeAt
set_option linter.unusedVariables false
set_option linter.unusedSimpArgs false
section
variable {H : Type} {enc : TypeId × Value → H} {P : Program} {w : World} {spare : Nat → Bool} {held : Bool}

/-- a datum within reach -/
def Lt (P : Program) (t : TypeId) (d : DataW H) : Prop := ∀ n ∈ d.weights P t, n ≤ reachBytes
theorem weightsAll_mem {e : TypeId} : ∀ {ds : List (DataW H)} {d : DataW H}, d ∈ ds → ∀ n ∈ d.weights P e, n ∈ DataW.weightsAll P e ds
  | x :: ds, d, hd, n, hn => by
    simp only [DataW.weightsAll, List.mem_append]
    rcases List.mem_cons.1 hd with rfl | hd
    · exact .inl hn
    · exact .inr (weightsAll_mem hd n hn)
theorem Lt.arg {ts : List TypeId} {ds : List (DataW H)} (h : (DataW.weightsEach P ts ds).all (· ≤ reachBytes) = true) {j : Nat} {t : TypeId} {d : DataW H} (ht : ts[j]? = some t) (hd : ds[j]? = some d) : Lt P t d := fun n hn => by
  have := List.all_eq_true.1 h _ (DataW.weights_mem_each ht hd n hn)
  simpa using this
theorem Lt.str {t : TypeId} {b : List UInt8} (h : Lt (H := H) P t (.lit (.string b))) : b.length ≤ reachBytes := h b.length (by simp [DataW.weights])

/-- a struct that reads -/
theorem rd_struct {t : TypeId} {fs : Array Field} {fuel : Nat} {cs : List Value} {x : DataW H × List MemPlace} (ht : P.underlying t = some (.struct fs)) (h : DataW.trod enc P w 0 spare held fuel t cs = some x) (hw : Lt P t x.1) :
    cs.length = P.cellsOf t ∧ ∃ n, n < fuel ∧ ∀ (i : Nat) (f : Field), fs[i]? = some f → ∃ y, DataW.trod enc P w 0 spare held n f.type ((cs.drop f.offset).take (P.cellsOf f.type)) = some y ∧ Lt P f.type y.1 := by
  obtain ⟨xs, n, hfu, rfl, hlen, hxl, hf⟩ := DataW.trod_struct ht h
  refine ⟨hlen, n, by omega, fun i f hi => ?_⟩
  have hlt : i < xs.length := by rw [hxl]; exact (Array.getElem?_eq_some_iff.1 hi).1
  refine ⟨xs[i], by rw [hf i f hi, List.getElem?_eq_getElem hlt], fun k hk => hw k ?_⟩
  simp only [DataW.weights, ht]
  exact DataW.weights_mem_each (j := i) (t := f.type) (d := xs[i].1) (by simpa using ⟨f, by simpa using hi, rfl⟩) (by simp [hlt]) k hk
/-- a slice that reads -/
theorem rd_slice0 {t e : TypeId} {sz fuel : Nat} {cs : List Value} {x : DataW H × List MemPlace} (ht : P.underlying t = some (.slice e)) (hs : P.cellsOf e = sz) (h : DataW.trod enc P w 0 spare held fuel t cs = some x) (hw : Lt P t x.1) :
    ∃ (q : Option Addr) (len cap : Nat), cs = [.slice q len cap] ∧ len ≤ cap ∧ cap ≤ maxLen ∧ len * P.bytesOf e ≤ reachBytes ∧ (q = none → len = 0) ∧
      ∃ n, n < fuel ∧ ∀ a, q = some a → ∀ i, i < len → ∃ cs' y, CellsAt w (a.add (i * sz)) cs' ∧ cs'.length = sz ∧ DataW.trod enc P w 0 spare held n e cs' = some y ∧ Lt P e y.1 := by
  rcases DataW.trod_slice ht h with ⟨rfl, _⟩ | ⟨a, len, cap, elems, rest, n, hf, rfl, rfl, _, hl, hm, hlen, hel, _, _⟩
  · refine ⟨none, 0, 0, rfl, Nat.le_refl _, by simp [maxLen], by simp, fun _ => rfl, 0, ?_, fun a ha => by cases ha⟩
    cases fuel with
    | zero => simp [DataW.trod] at h
    | succ n => omega
  · have hwt : len * P.bytesOf e ≤ reachBytes := by
      have h1 := hw ((elems.map (·.1)).length * P.bytesOf e + (rest.map (·.1)).length * P.bytesOf e) (by simp [DataW.weights, ht, Nat.add_mul])
      rw [List.length_map, hlen] at h1
      omega
    refine ⟨some a, len, cap, rfl, hl, hm, hwt, (fun hn => by cases hn), n, by omega, fun a' ha i hi => ?_⟩
    obtain rfl := Option.some.inj ha
    have h1 := hel i hi
    rw [List.getElem?_eq_getElem (by omega)] at h1
    rw [hs] at h1
    obtain ⟨cs', hc, ht'⟩ := Option.bind_eq_some_iff.1 h1
    obtain ⟨h2, h3⟩ := cellsAt_of hc
    refine ⟨cs', _, h2, h3, ht', fun k hk => hw k ?_⟩
    simp only [DataW.weights, ht]
    exact List.mem_cons_of_mem _ (List.mem_append_left _ (weightsAll_mem (d := elems[i].1) (List.mem_map.2 ⟨_, List.getElem_mem (by omega), rfl⟩) k hk))
variable {α : Type} {f : α → List Value} {sz : Nat} {R : α → Prop}
/-- a slice whose elements read, as a list -/
theorem rd_slice {t e : TypeId} {fuel : Nat} {cs : List Value} {x : DataW H × List MemPlace} (ht : P.underlying t = some (.slice e)) (hs : P.cellsOf e = sz) (hsz : 0 < sz) (hf : ∀ x, (f x).length = sz)
    (he : ∀ (n : Nat) (cs' : List Value) (y : DataW H × List MemPlace), n < fuel → DataW.trod enc P w 0 spare held n e cs' = some y → Lt P e y.1 → ∃ u : α, cs' = f u ∧ R u)
    (h : DataW.trod enc P w 0 spare held fuel t cs = some x) (hw : Lt P t x.1) :
    ∃ (q : Option Addr) (l : List α) (cap : Nat), cs = [.slice q l.length cap] ∧ l.length ≤ cap ∧ cap ≤ maxLen ∧ l.length * P.bytesOf e ≤ reachBytes ∧ SlAt w w.heap.size q (cat f l) ∧ ∀ u ∈ l, R u := by
  obtain ⟨q, len, cap, rfl, hle, hcap, hwt, hq0, m, hm, hel⟩ := rd_slice0 ht hs h hw
  cases q with
  | none =>
    obtain rfl := hq0 rfl
    exact ⟨none, [], cap, rfl, hle, hcap, by simp, SlAt.nil, fun u hu => by cases hu⟩
  | some a =>
    obtain ⟨l, hl, hr⟩ := list_of (fun i (u : α) => CellsAt w (a.add (i * sz)) (f u) ∧ R u) len (fun i hi => by
      obtain ⟨cs', y, hc, hl1, ht', hy⟩ := hel a rfl i hi
      obtain ⟨u, rfl, hR⟩ := he m cs' y hm ht' hy
      exact ⟨u, hc, hR⟩)
    subst hl
    refine ⟨some a, l, cap, rfl, hle, hcap, hwt, fun hv => ⟨a, rfl, ?_, fun j v hj => ?_⟩, fun u hu => ?_⟩
    · rw [cat_length hf] at hv
      have hl0 : 0 < l.length := Nat.pos_of_mul_pos_right hv
      have h0 := (hr 0 _ (List.getElem?_eq_getElem hl0)).1
      rw [Nat.zero_mul, add_zero_] at h0
      have hz : 0 < (f l[0]).length := by rw [hf]; exact hsz
      have := h0 0 _ (List.getElem?_eq_getElem hz)
      rw [add_zero_] at this
      exact cell_lt this
    · have hjl := (List.getElem?_eq_some_iff.1 hj).1
      rw [cat_length hf] at hjl
      have hi : j / sz < l.length := Nat.div_lt_of_lt_mul (by rwa [Nat.mul_comm] at hjl)
      have h0 := (hr (j / sz) _ (List.getElem?_eq_getElem hi)).1
      have hm' : j % sz < (f l[j / sz]).length := by rw [hf]; exact Nat.mod_lt _ hsz
      have h1 := cat_get hf (List.getElem?_eq_getElem hi) (j % sz) _ (List.getElem?_eq_getElem hm')
      have ej : j / sz * sz + j % sz = j := by rw [Nat.mul_comm]; exact Nat.div_add_mod j sz
      rw [ej, hj] at h1
      have h2 := h0 (j % sz) _ (List.getElem?_eq_getElem hm')
      rw [add_add, ej] at h2
      rw [h2, h1]
    · obtain ⟨i, hi, rfl⟩ := List.getElem_of_mem hu
      exact (hr i _ (List.getElem?_eq_getElem hi)).2
end
end Go.Eng

/- Readings with the reach, as relations. General. No condition. Readings of core expressions. No condition. -/
namespace Go.Eng
open Go.RowKit Go.ChangeShapes Go.WideShapes Go.ChangeAt
set_option linter.unusedVariables false
set_option linter.unusedSimpArgs false
section
variable {H : Type} {enc : TypeId × Value → H} {P : Program} {w : World} {spare : Nat → Bool} {held : Bool} {α μ : Type} {R : Rel α μ}
theorem rd_arrL {t e : TypeId} {fuel : Nat} {cs : List Value} {x : DataW H × List MemPlace} (ht : P.underlying t = some (.slice e)) (hs : P.cellsOf e = R.sz)
    (he : ∀ (n : Nat) (cs' : List Value) (y : DataW H × List MemPlace), n < fuel → DataW.trod enc P w 0 spare held n e cs' = some y → Lt P e y.1 → ∃ u : α × μ, cs' = R.c u ∧ R.ok w (low w) u.1 u.2)
    (h : DataW.trod enc P w 0 spare held fuel t cs = some x) (hw : Lt P t x.1) :
    ∃ (q : Option Addr) (l : List (α × μ)) (cap : Nat), cs = [.slice q l.length cap] ∧ l.length ≤ cap ∧ cap ≤ maxLen ∧ l.length * P.bytesOf e ≤ reachBytes ∧ Arr R w (low w) l q := by
  obtain ⟨q, l, cap, e1, h1, h2, h3, h4, h5⟩ := rd_slice (α := α × μ) (f := R.c) (R := fun u => R.ok w (low w) u.1 u.2) ht hs R.pos R.clen he h hw
  exact ⟨q, l, cap, e1, h1, h2, h3, fun hl => h4 (by rw [cat_length (f := R.c) R.clen]; exact Nat.mul_pos hl R.pos), h5⟩
end
end Go.Eng
namespace Go.Proofs.YtlboppiogeaicaaDoor.co
open Go.RowKit Go.Eng Go.Co Go.ChangeShapes Go.WideShapes Go.ChangeAt
set_option linter.unusedVariables false
set_option linter.unusedSimpArgs false
set_option maxRecDepth 100000
section
variable {H : Type} {enc : TypeId × Value → H} {w : World} {spare : Nat → Bool} {held : Bool}
theorem list2 {α : Type} {l : List α} (h : l.length = 2) : ∃ a b, l = [a, b] := by
  match l, h with
  | [a, b], _ => exact ⟨a, b, rfl⟩
theorem list5 {α : Type} {l : List α} (h : l.length = 5) : ∃ a b c d e, l = [a, b, c, d, e] := by
  match l, h with
  | [a, b, c, d, e], _ => exact ⟨a, b, c, d, e, rfl⟩
theorem reach47 : reachBytes ≤ 140737488355328 := by decide
theorem cat_ints (l : List Int) : cat (fun x : Int => [Value.int .i64 x]) l = ints l := by
  induction l with
  | nil => rfl
  | cons x r ih =>
    show [Value.int .i64 x] ++ cat (fun x : Int => [Value.int .i64 x]) r = _
    rw [ih]
    rfl
theorem ints_rd {fuel : Nat} {cs : List Value} {x : DataW H × List MemPlace} (h : DataW.trod enc Tryd.prog w 0 spare held fuel 25 cs = some x) (hw : Lt Tryd.prog 25 x.1) :
    ∃ (q : Option Addr) (l : List Int) (cap : Nat), cs = [.slice q l.length cap] ∧ l.length ≤ cap ∧ l.length ≤ 140737488355328 ∧ IntsO w (low w) l q ∧ ∀ n ∈ l, I64 n := by
  obtain ⟨q, l, cap, e1, h1, h2, h3, h4, h5⟩ := rd_slice (α := Int) (f := fun x => [Value.int .i64 x]) (R := fun n => I64 n) Tryd.underlying25 (by kernel_rfl) (by decide) (fun _ => rfl) (fun n cs' y _ hy _ => by
    obtain ⟨k, e1, hk⟩ := DataW.trod_int Tryd.underlying3 hy
    exact ⟨k, e1, wf_i64 hk.2⟩) h hw
  rw [cat_ints] at h4
  have hb : Tryd.prog.bytesOf 3 = 8 := by kernel_rfl
  rw [hb] at h3
  have := reach47
  exact ⟨q, l, cap, e1, h1, by omega, fun hl => h4 (by rw [ints_length]; exact hl), h5⟩
theorem alt_rd {fuel : Nat} {cs : List Value} {x : DataW H × List MemPlace} (h : DataW.trod enc Tryd.prog w 0 spare held fuel 132 cs = some x) (hw : Lt Tryd.prog 132 x.1) : ∃ u : Al × Sc, cs = altR_.c u ∧ altR_.ok w (low w) u.1 u.2 := by
  obtain ⟨hlen, n, hn, hf⟩ := rd_struct Tryd.underlying132 h hw
  rw [show Tryd.prog.cellsOf 132 = 2 by kernel_rfl] at hlen
  obtain ⟨a0, a1, rfl⟩ := list2 hlen
  obtain ⟨y0, g0, w0⟩ := hf 0 _ rfl
  obtain ⟨y1, g1, w1⟩ := hf 1 _ rfl
  change DataW.trod enc Tryd.prog w 0 spare held n 3 ((List.drop 0 [a0, a1]).take (Tryd.prog.cellsOf 3)) = some y0 at g0
  change DataW.trod enc Tryd.prog w 0 spare held n 25 ((List.drop 1 [a0, a1]).take (Tryd.prog.cellsOf 25)) = some y1 at g1
  rw [show Tryd.prog.cellsOf 3 = 1 by kernel_rfl] at g0
  rw [show Tryd.prog.cellsOf 25 = 1 by kernel_rfl] at g1
  obtain ⟨k, e0, hk⟩ := DataW.trod_int Tryd.underlying3 g0
  obtain ⟨q, l, cap, e1, h1, h2, h3, h4⟩ := ints_rd g1 w1
  simp at e0 e1
  exact ⟨(⟨k, l⟩, (q, cap)), by rw [e0, e1]; rfl, wf_i64 hk.2, ⟨h2, h1⟩, h3⟩
theorem expr_rd {fuel : Nat} {cs : List Value} {x : DataW H × List MemPlace} (h : DataW.trod enc Tryd.prog w 0 spare held fuel 28 cs = some x) (hw : Lt Tryd.prog 28 x.1) : ∃ u : Ex × ExY, cs = exR.c u ∧ exR.ok w (low w) u.1 u.2 := by
  obtain ⟨hlen, n, hn, hf⟩ := rd_struct Tryd.underlying28 h hw
  rw [show Tryd.prog.cellsOf 28 = 5 by kernel_rfl] at hlen
  obtain ⟨a0, a1, a2, a3, a4, rfl⟩ := list5 hlen
  obtain ⟨y0, g0, w0⟩ := hf 0 _ rfl
  obtain ⟨y1, g1, w1⟩ := hf 1 _ rfl
  obtain ⟨y2, g2, w2⟩ := hf 2 _ rfl
  obtain ⟨y3, g3, w3⟩ := hf 3 _ rfl
  obtain ⟨y4, g4, w4⟩ := hf 4 _ rfl
  change DataW.trod enc Tryd.prog w 0 spare held n 3 ((List.drop 0 [a0, a1, a2, a3, a4]).take (Tryd.prog.cellsOf 3)) = some y0 at g0
  change DataW.trod enc Tryd.prog w 0 spare held n 3 ((List.drop 1 [a0, a1, a2, a3, a4]).take (Tryd.prog.cellsOf 3)) = some y1 at g1
  change DataW.trod enc Tryd.prog w 0 spare held n 25 ((List.drop 2 [a0, a1, a2, a3, a4]).take (Tryd.prog.cellsOf 25)) = some y2 at g2
  change DataW.trod enc Tryd.prog w 0 spare held n 25 ((List.drop 3 [a0, a1, a2, a3, a4]).take (Tryd.prog.cellsOf 25)) = some y3 at g3
  change DataW.trod enc Tryd.prog w 0 spare held n 26 ((List.drop 4 [a0, a1, a2, a3, a4]).take (Tryd.prog.cellsOf 26)) = some y4 at g4
  rw [show Tryd.prog.cellsOf 3 = 1 by kernel_rfl] at g0 g1
  rw [show Tryd.prog.cellsOf 25 = 1 by kernel_rfl] at g2 g3
  rw [show Tryd.prog.cellsOf 26 = 1 by kernel_rfl] at g4
  obtain ⟨op, e0, hop⟩ := DataW.trod_int Tryd.underlying3 g0
  obtain ⟨nn, e1, hnn⟩ := DataW.trod_int Tryd.underlying3 g1
  obtain ⟨qb, lb, cb, e2, b1, b2, b3, b4⟩ := ints_rd g2 w2
  obtain ⟨qk, lk, ck, e3, k1, k2, k3, k4⟩ := ints_rd g3 w3
  obtain ⟨qa, la, ca, e4, a1, a2, a3, a4⟩ := rd_arrL (R := altR_) Tryd.underlying26 (by kernel_rfl) (fun n cs' y _ hy hwy => alt_rd hy hwy) g4 w4
  have hb : Tryd.prog.bytesOf 132 = 32 := by kernel_rfl
  rw [hb] at a3
  have := reach47
  simp at e0 e1 e2 e3 e4
  refine ⟨(⟨op, nn, lb, lk, la.map Prod.fst⟩, ⟨(qb, cb), (qk, ck), (qa, ca)⟩), by rw [e0, e1, e2, e3, e4]; simp [Rel.c, exR, exC], ?_⟩
  exact ⟨wf_i64 hop.2, wf_i64 hnn.2, b2, k2, by simp only [List.length_map]; omega, b1, k1, by simp only [List.length_map]; exact a1, b3, k3, ⟨la, rfl, a4⟩⟩
theorem exprs_rd {fuel : Nat} {cs : List Value} {x : DataW H × List MemPlace} (h : DataW.trod enc Tryd.prog w 0 spare held fuel 22 cs = some x) (hw : Lt Tryd.prog 22 x.1) :
    ∃ (q : Option Addr) (l : List (Ex × ExY)) (cap : Nat), cs = [.slice q l.length cap] ∧ l.length ≤ 9223372036854775807 ∧ Arr exR w (low w) l q := by
  obtain ⟨q, l, cap, e1, h1, h2, h3, h4⟩ := rd_arrL (R := exR) Tryd.underlying22 (by kernel_rfl) (fun n cs' y _ hy hwy => expr_rd hy hwy) h hw
  unfold maxLen at h2
  exact ⟨q, l, cap, e1, by omega, h4⟩
theorem exprs_rd2 {fuel : Nat} {cs : List Value} {x : DataW H × List MemPlace} (h : DataW.trod enc Tryd.prog w 0 spare held fuel 22 cs = some x) (hw : Lt Tryd.prog 22 x.1) :
    ∃ (q : Option Addr) (l : List (Ex × ExY)) (cap : Nat), cs = [.slice q l.length cap] ∧ l.length ≤ 9223372036854775807 ∧ l.length ≤ cap ∧ Arr exR w (low w) l q := by
  obtain ⟨q, l, cap, e1, h1, h2, h3, h4⟩ := rd_arrL (R := exR) Tryd.underlying22 (by kernel_rfl) (fun n cs' y _ hy hwy => expr_rd hy hwy) h hw
  unfold maxLen at h2
  exact ⟨q, l, cap, e1, by omega, h1, h4⟩
end
end Go.Proofs.YtlboppiogeaicaaDoor.co

/- The walk of the law FlatChecks, and readings of programs. Conditions: none. -/
namespace Go.Proofs.YtlboppiogeaicaaDoor.co
open Go.RowKit Go.Eng Go.Co Go.ChangeShapes Go.WideShapes Go.ChangeAt
set_option linter.unusedVariables false
set_option linter.unusedSimpArgs false
set_option maxRecDepth 100000
section
variable {H : Type} {enc : TypeId × Value → H} {w : World} {spare : Nat → Bool} {held : Bool}
theorem list3 {α : Type} {l : List α} (h : l.length = 3) : ∃ a b c, l = [a, b, c] := by
  match l, h with
  | [a, b, c], _ => exact ⟨a, b, c, rfl⟩
theorem fn_rd {fuel : Nat} {cs : List Value} {x : DataW H × List MemPlace} (h : DataW.trod enc Tryd.prog w 0 spare held fuel 87 cs = some x) (hw : Lt Tryd.prog 87 x.1) : ∃ u : Fun × FunY, cs = funR.c u ∧ funR.ok w (low w) u.1 u.2 := by
  obtain ⟨hlen, n, hn, hf⟩ := rd_struct Tryd.underlying87 h hw
  rw [show Tryd.prog.cellsOf 87 = 3 by kernel_rfl] at hlen
  obtain ⟨a0, a1, a2, rfl⟩ := list3 hlen
  obtain ⟨y0, g0, w0⟩ := hf 0 _ rfl
  obtain ⟨y1, g1, w1⟩ := hf 1 _ rfl
  obtain ⟨y2, g2, w2⟩ := hf 2 _ rfl
  change DataW.trod enc Tryd.prog w 0 spare held n 3 ((List.drop 0 [a0, a1, a2]).take (Tryd.prog.cellsOf 3)) = some y0 at g0
  change DataW.trod enc Tryd.prog w 0 spare held n 25 ((List.drop 1 [a0, a1, a2]).take (Tryd.prog.cellsOf 25)) = some y1 at g1
  change DataW.trod enc Tryd.prog w 0 spare held n 22 ((List.drop 2 [a0, a1, a2]).take (Tryd.prog.cellsOf 22)) = some y2 at g2
  rw [show Tryd.prog.cellsOf 3 = 1 by kernel_rfl] at g0
  rw [show Tryd.prog.cellsOf 25 = 1 by kernel_rfl] at g1
  rw [show Tryd.prog.cellsOf 22 = 1 by kernel_rfl] at g2
  obtain ⟨k, e0, hk⟩ := DataW.trod_int Tryd.underlying3 g0
  obtain ⟨q1, l1, c1, e1, h1, h2, h3, h4⟩ := ints_rd g1 w1
  obtain ⟨q2, l2, c2, e2, k1, k2, k3⟩ := exprs_rd2 g2 w2
  simp at e0 e1 e2
  refine ⟨(⟨k, l1, l2.map Prod.fst⟩, ⟨(q1, c1), (q2, c2)⟩), by rw [e0, e1, e2]; simp [Rel.c, funR], ?_⟩
  exact ⟨wf_i64 hk.2, h2, by simp only [List.length_map]; exact k1, h3, ⟨l2, rfl, k3⟩⟩
theorem prog_rd {fuel : Nat} {cs : List Value} {x : DataW H × List MemPlace} (h : DataW.trod enc Tryd.prog w 0 spare held fuel 45 cs = some x) (hw : Lt Tryd.prog 45 x.1) :
    ∃ (q : Option Addr) (l : List (Fun × FunY)) (cap : Nat) (m : Int), cs = [.slice q l.length cap, .int .i64 m] ∧ Arr funR w (low w) l q := by
  obtain ⟨hlen, n, hn, hf⟩ := rd_struct Tryd.underlying45 h hw
  rw [show Tryd.prog.cellsOf 45 = 2 by kernel_rfl] at hlen
  obtain ⟨a0, a1, rfl⟩ := list2 hlen
  obtain ⟨y0, g0, w0⟩ := hf 0 _ rfl
  obtain ⟨y1, g1, w1⟩ := hf 1 _ rfl
  change DataW.trod enc Tryd.prog w 0 spare held n 43 ((List.drop 0 [a0, a1]).take (Tryd.prog.cellsOf 43)) = some y0 at g0
  change DataW.trod enc Tryd.prog w 0 spare held n 3 ((List.drop 1 [a0, a1]).take (Tryd.prog.cellsOf 3)) = some y1 at g1
  rw [show Tryd.prog.cellsOf 3 = 1 by kernel_rfl] at g1
  rw [show Tryd.prog.cellsOf 43 = 1 by kernel_rfl] at g0
  obtain ⟨q, l, c, e0, h1, h2, h3, h4⟩ := rd_arrL (R := funR) Tryd.underlying43 (by kernel_rfl) (fun n cs' y _ hy hwy => fn_rd hy hwy) g0 w0
  obtain ⟨k, e1, hk⟩ := DataW.trod_int Tryd.underlying3 g1
  simp at e0 e1
  exact ⟨q, l, c, k, by rw [e0, e1], h4⟩
end
theorem flats_law (qf : Option Addr) (cf : Nat) (fs : List (Fun × FunY)) (main : Int) (w : World) (hfs : Arr funR w (low w) fs qf) (hg : 1 < w.heap.size) (hs : arityAt w) :
    Calls Tryd.prog 7 #[.agg [.slice qf fs.length cf, .int .i64 main].toArray] w fun e w' => e = .returned (.bool true) ∧ Ext w w' := by
  refine enter Tryd.func7 rfl Tryd.ntmps7 rfl (Cls.start w) ?_
  (simp only [argEnv, Nat.zero_add, Nat.reduceAdd])
  have h3 : progE (([] : List (Fun × FunY)).map Prod.fst) 0 = 3 := progE_none rfl
  apply W.sr
  apply OL.box; rfl; rfl; exact CellsL.agg; (intro bk hbk; simp only [AllLe, and_true] at hbk)
  apply oas; rfl; rfl
  apply OL.nx
  apply W.seq
  apply W.regd0; decide +kernel; kernel_rfl; decide +kernel; exact fun w hw => hw.drew
  apply qop; rfl; apply Pev.build; rfl; exact CellsL.agg; rfl; exact Fill.au; rfl
  (((first | (with_reducible apply OL.op) | (with_reducible apply QL.op)); (exact Guard.au); rfl; rfl); (exact Pev.call (v := .int .i64 3) rfl (by exact Args.au) (fun _ w2 hw2 => (FlatCheck_calls [] none 0 0 w2 Arr.nil (Nat.lt_of_lt_of_le hg (hw2.kp w (by exact mau)).size) (hs.at hg hw2 (by exact mau) (fun k hk => by exact NotOwned.au))).mono (fun e w3 h => ⟨by rw [h.1, h3], hw2.ext h.2⟩))))
  apply qbn; rfl; rfl; rfl; apply Bin.eql
  apply qmv; rfl; rfl
  apply qy; rfl; rfl; rfl; apply Pev.load_blkA; rfl; exact yes; exact .head _; rfl; exact Take.au
  (((first | (with_reducible apply OL.op) | (with_reducible apply QL.op)); (exact Guard.au); rfl; rfl); (exact Pev.call (v := .int .i64 (progE (fs.map Prod.fst) main)) rfl (by exact Args.au) (fun _ w2 hw2 => (FlatCheck_calls fs qf cf main w2 (hfs.at hw2 (by exact mau) (fun k hk => by exact NotOwned.au)) (Nat.lt_of_lt_of_le hg (hw2.kp w (by exact mau)).size) (hs.at hg hw2 (by exact mau) (fun k hk => by exact NotOwned.au))).mono (fun e w3 h => ⟨h.1, hw2.ext h.2⟩))))
  apply qy; rfl; rfl; rfl; apply Pev.load_blkA; rfl; exact yes; exact .head _; rfl; exact Take.au
  (((first | (with_reducible apply OL.op) | (with_reducible apply QL.op)); (exact Guard.au); rfl; rfl); (exact Pev.call (v := .int .i64 (progE (fs.map Prod.fst) main)) rfl (by exact Args.au) (fun _ w2 hw2 => (flatFault_calls fs qf cf main w2 (hfs.at hw2 (by exact mau) (fun k hk => by exact NotOwned.au)) (Nat.lt_of_lt_of_le hg (hw2.kp w (by exact mau)).size) (hs.at hg hw2 (by exact mau) (fun k hk => by exact NotOwned.au))).mono (fun e w3 h => ⟨h.1, hw2.ext h.2⟩))))
  apply qy; rfl; rfl; rfl; apply Pev.bin; rfl; exact yes; rfl; exact yes; intro hcond; apply Bin.eql
  apply qop; rfl; apply Pev.pick_and; rfl; exact yes; rfl; exact yes
  apply qas; rfl; rfl
  apply QL.nil
  with_reducible apply At.next
  apply W.ret
  ((with_reducible apply At.fin1); rfl; rfl; intro w' hw')
  exact ⟨by simp, by (exact hw'.fr)⟩
end Go.Proofs.YtlboppiogeaicaaDoor.co
