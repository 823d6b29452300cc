/- The walks of the printer's grouped and fits. Conditions: none. -/
import Derived.Test.YtlcclcakdfmgkaaPkB
import Derived.Test.YtlcclcakdfmgkaaGat
namespace Go.Eng
open Go.RowKit
set_option linter.unusedVariables false
set_option linter.unusedSimpArgs false
theorem SlAt.any {w : World} {B : Nat} {q : Option Addr} {vs : List Value} (h : SlAt w B q vs) : ∃ a : Addr, 0 < vs.length → q = some a ∧ a.block < B ∧ CellsAt w a vs := by
  by_cases hv : 0 < vs.length
  · obtain ⟨a, h1, h2, h3⟩ := h hv
    exact ⟨a, fun _ => ⟨h1, h2, h3⟩⟩
  · exact ⟨⟨0, 0, none⟩, fun h => absurd h hv⟩
section
variable {P : Program} {n : Nat} {l : Env} {C : World → Prop} {x y : Operand} {d : Option Nat} {ty t : TypeId} {pos : String} {af : Array Edge} {g : Option (Nat × Bool)} {c cx cy : Bool}
theorem Pev.idxO {e : TypeId} {sz len cp : Nat} {ki : IntKind} {i : Int} {q : Option Addr} (a : Addr) (hx : evl l x = some (cx, .slice q len cp)) (hcx : c = true → cx = true) (hy : evl l y = some (cy, .int ki i)) (hcy : c = true → cy = true)
    (hu : slElem P t = some (e, sz)) (hi : c = true → 0 ≤ i ∧ i < len ∧ q = some a) : Pev P n l C ⟨d, .indexAddr t x y, ty, pos, af, g⟩ c (.pointer (some (a.add (i.toNat * sz)))) :=
  .of_run fun h a w hs hw => by
    obtain ⟨h1, h2, rfl⟩ := hi h
    obtain ⟨m, rfl⟩ := Int.eq_ofNat_of_zero_le h1
    simp only [execOp, hs.eval hx (hcx h), hs.eval hy (hcy h), Sem.run_bind, run_indexAt_slice hu (show m < len by omega), Result.andThen_ok]; rfl
end
theorem tw_drop {α : Type} {p : α → Bool} : ∀ (s : List α) (i : Nat), i ≤ (s.takeWhile p).length → (s.takeWhile p).drop i = (s.drop i).takeWhile p
  | s, 0, _ => rfl
  | [], i + 1, h => by simp at h
  | c :: s, i + 1, h => by
    rw [List.takeWhile_cons] at h ⊢
    cases hc : p c with
    | false => rw [hc] at h; simp at h
    | true =>
      rw [hc] at h
      simp only [if_true, List.length_cons, List.drop_succ_cons] at h ⊢
      exact tw_drop s i (by omega)
theorem tw_yes {α : Type} {p : α → Bool} {s : List α} {i : Nat} {c : α} (hi : i ≤ (s.takeWhile p).length) (hd : s[i]? = some c) (hc : p c = true) : i < (s.takeWhile p).length := by
  have h := tw_drop s i hi
  have hl := (List.getElem?_eq_some_iff.1 hd).1
  rw [List.getElem?_eq_getElem hl] at hd
  rw [List.drop_eq_getElem_cons hl, Option.some.inj hd, List.takeWhile_cons_of_pos hc] at h
  have h2 := congrArg List.length h
  simp only [List.length_cons, List.length_drop] at h2
  omega
theorem tw_no {α : Type} {p : α → Bool} {s : List α} {i : Nat} (hi : i ≤ (s.takeWhile p).length) (h0 : ∀ c, s[i]? = some c → p c = false) : i = (s.takeWhile p).length := by
  have h := tw_drop s i hi
  rcases Nat.lt_or_ge i s.length with hl | hl
  · have h1 := h0 s[i] (List.getElem?_eq_getElem hl)
    rw [List.drop_eq_getElem_cons hl, List.takeWhile_cons_of_neg (by rw [h1]; simp)] at h
    have h2 := congrArg List.length h
    simp only [List.length_nil, List.length_drop] at h2
    omega
  · have h2 := congrArg List.length h
    rw [List.drop_eq_nil_of_le hl] at h2
    simp only [List.takeWhile_nil, List.length_nil, List.length_drop] at h2
    omega
theorem drop_tw {α : Type} (p : α → Bool) : ∀ s : List α, s.drop (s.takeWhile p).length = s.dropWhile p
  | [] => rfl
  | c :: s => by
    rw [List.takeWhile_cons, List.dropWhile_cons]
    cases p c with
    | false => rfl
    | true => simpa using drop_tw p s
end Go.Eng
namespace Go.Proofs.Ytlcclcakdfmgkaa.pk
open Go.RowKit Go.Eng Go.Pk
set_option linter.unusedVariables false
set_option linter.unusedSimpArgs false
set_option maxRecDepth 100000

theorem groups_len (k : Int) : (groupsP k).1.length = (groupsP k).2.length ∧ (groupsP k).1.length ≤ 3 := by
  unfold groupsP
  repeat' split
  all_goals exact ⟨rfl, by decide⟩
theorem getD_get {l : List Int} {i : Nat} (h : i < l.length) : l[i]? = some (l.getD i 0) := by
  rw [List.getD_eq_getElem?_getD, List.getElem?_eq_getElem h]; rfl
theorem grouped_calls (k : Int) (q : Option Addr) (cap : Nat) (l : List Int) (w : World) (hlen : l.length ≤ 9223372036854775806) (h : SlAt w w.heap.size q (ins l)) :
    Calls Try.prog 56 #[.int .i64 k, .slice q l.length cap] w fun e w' => e = .returned (.bool (groupedP k l)) ∧ Ext w w' := by
  refine enter Try.func56 rfl Try.ntmps56 rfl (Cls.start w) ?_
  (simp only [argEnv, Nat.zero_add, Nat.reduceAdd])
  apply W.seq
  apply W.reg
  apply oas; rfl; rfl
  apply OL.nil
  with_reducible apply At.next
  apply W.seq
  apply W.reg
  apply omv; rfl; rfl
  refine OL.callE (α := (Option Addr × Nat × Option Addr × Nat) × World) (fun x => .tuple #[.slice x.1.1 (groupsP k).1.length x.1.2.1, .slice x.1.2.2.1 (groupsP k).2.length x.1.2.2.2]) (fun x => FnsAt x.2 x.1.1 (groupsP k).1 ∧ SlAt x.2 x.2.heap.size x.1.2.2.1 (ins (groupsP k).2) ∧ Ext w x.2) (fun x => Cls [] [x.2, w]) rfl rfl (by (repeat (first | exact Args.nil | (apply Args.cons rfl; ((first | exact fun _ => rfl | exact fun h => h | (intro h; simp_all; done)))))))
    (fun w2 hw2 => (groups_calls k w2).mono fun e w3 ⟨q1, c1, q2, c2, he, hf, hs, _, hx⟩ => ⟨((q1, c1, q2, c2), w3), he, ⟨hf, hs, (hw2.toExt (s := w) (by (repeat (first | exact List.Mem.head _ | apply List.Mem.tail))) (fun k hk => by (focus ((try simp only [add_block]); (repeat (first | exact NotOwned.nil | exact hno _ (by omega) | refine NotOwned.nothing ?_ | refine NotOwned.nds (hlow _ (by omega)) ?_ | refine NotOwned.mapS (by omega) ?_ | apply NotOwned.bif | refine NotOwned.blk (by omega) ?_ | refine NotOwned.row (by omega) ?_ | refine NotOwned.grid (by assumption) (by omega) ?_)); done)))).trans hx⟩, (hw2.ext hx).note⟩) ?_
  rintro ⟨⟨q1, c1, q2, c2⟩, w1⟩ ⟨hf, hms, hx1⟩
  simp only at hf hms hx1 ⊢
  have hsz := hx1.size
  obtain ⟨vs, hvs, hfs⟩ := hf
  have hG : groupedP k l = groupedF k (groupsP k).1 (groupsP k).2 0 l := rfl
  rw [hG]
  have hgl := groups_len k
  generalize (groupsP k).1 = fs at *
  generalize (groupsP k).2 = ms at *
  clear hG
  obtain ⟨a, ha⟩ := h.any
  rw [ins_length] at ha
  apply omv; rfl; rfl
  apply oex; rfl; rfl; rfl
  apply oex; rfl; rfl; rfl
  apply oas; rfl; rfl
  apply oas; rfl; rfl
  apply OL.nil
  with_reducible apply At.next
  apply W.seq
  apply W.reg
  apply oas; rfl; rfl
  apply OL.nil
  with_reducible apply At.next
  apply W.seq
  apply W.seq
  apply W.reg
  apply omv; rfl; rfl
  apply OL.op; exact Guard.none; rfl; rfl; apply Pev.len_slice; rfl; exact yes; rfl
  apply omv; rfl; rfl
  apply OL.nil
  with_reducible apply At.next
  apply W.block
  refine W.loop (G := Nat × Nat) (fun g => g.1 ≤ fs.length ∧ g.2 ≤ l.length ∧ groupedF k (fs.drop g.1) (ms.drop g.1) g.1 (l.drop g.2) = groupedF k fs ms 0 l) (fun g => fs.length - g.1)
    (fun g => [(0, true, .int .i64 k), (1, true, .slice q l.length cap), (5, true, .slice q1 fs.length c1), (6, true, .slice q2 ms.length c2), (7, true, .int .i64 (g.2 : Int)), (16, true, .int .i64 (fs.length : Int)), (17, true, .int .i64 (g.1 : Int))])
    (fun g => Cls [] [w1, w]) (0, 0) ⟨by omega, by omega, rfl⟩ (by (repeat (first | exact Sub.nil | apply Sub.cons rfl | (refine Sub.cons_eq rfl (congrArg (Value.int .i64) (by first | omega | (simp only; omega))) ?_)))) (fun w' hw' => hw') ?_
  rintro ⟨i, at0⟩ ⟨hi, hat, hrest⟩
  simp only at hi hat hrest ⊢
  apply W.seq
  apply W.reg
  apply obn; rfl; rfl; rfl; apply Bin.lss
  apply OL.nil
  with_reducible apply At.next
  apply W.seq
  (refine W.cond rfl (fun hlt => ?_) (fun hlt => ?_)) <;> (try (simp only [Bool.and_eq_true, Bool.or_eq_true, Bool.not_eq_true', Bool.and_eq_false_iff, Bool.or_eq_false_iff, Bool.not_eq_false', decide_eq_true_eq, decide_eq_false_iff_not, Int.not_lt, Int.not_le] at hlt)) <;> (try (exfalso; first | omega | exact hlt trivial | contradiction))
  · have hil : i < fs.length := by omega
    obtain ⟨f, hfi⟩ : ∃ f, fs[i]? = some f := ⟨_, List.getElem?_eq_getElem hil⟩
    obtain ⟨v, hv, hfn⟩ := hvs.get hfi
    obtain ⟨af, rfl, haf, hcf⟩ := hfs (by rw [hvs.len]; omega)
    obtain ⟨am, m, rfl, ham, hm, hcm⟩ := SlAt.int hms (i := i) (by omega)
    have hcv : w1.cell? (af.add (i * 1)) = some v := by rw [Nat.mul_one]; exact hcf i v hv
    obtain ⟨f', caps, rfl, hcall, hgo⟩ := hfn.go
    have hun : groupedF k (fs.drop i) (ms.drop i) i (l.drop at0) = if badG k i ((l.drop at0).takeWhile (inL f)).length m then false else groupedF k (fs.drop (i + 1)) (ms.drop (i + 1)) (i + 1) ((l.drop at0).dropWhile (inL f)) := by
      rw [List.drop_eq_getElem_cons hil, List.drop_eq_getElem_cons (show i < ms.length by omega), groupedF]
      rw [List.getElem?_eq_getElem hil] at hfi
      rw [List.getElem?_eq_getElem (by omega)] at hm
      rw [Option.some.inj hfi, Option.some.inj hm]
    rw [hun] at hrest
    clear hun
    have htl : ((l.drop at0).takeWhile (inL f)).length ≤ l.length - at0 := by
      rw [← List.length_drop]; exact (List.takeWhile_sublist _).length_le
    rw [← drop_tw, List.drop_drop] at hrest
    generalize htw : ((l.drop at0).takeWhile (inL f)).length = tw at *
    apply W.skip
    with_reducible apply At.next
    apply W.seq
    apply W.block
    apply W.seq
    apply W.reg
    apply omv; rfl; rfl
    apply oas; rfl; rfl
    apply OL.nil
    with_reducible apply At.next
    apply W.seq
    apply W.reg
    apply oas; rfl; rfl
    apply OL.nil
    with_reducible apply At.next
    apply W.seq
    apply W.block
    refine W.loop (G := Nat) (fun j => j ≤ tw) (fun j => tw - j)
      (fun j => [(0, true, .int .i64 k), (1, true, .slice q l.length cap), (5, true, .slice (some af) fs.length c1), (6, true, .slice (some am) ms.length c2), (7, true, .int .i64 ((at0 : Int) + j)), (8, true, .int .i64 (i : Int)), (9, true, .int .i64 (j : Int)), (16, true, .int .i64 (fs.length : Int)), (17, true, .int .i64 (i : Int))])
      (fun j => Cls [] [w1, w]) 0 (by omega) (by (repeat (first | exact Sub.nil | apply Sub.cons rfl | (refine Sub.cons_eq rfl (congrArg (Value.int .i64) (by first | omega | (simp only; omega))) ?_)))) (fun w' hw' => hw') ?_
    intro j hj
    have hblkI : ((at0 : Int) + j) < l.length → a.block < w.heap.size := fun h => (ha (by omega)).2.1
    have hcellI : ((at0 : Int) + j) < l.length → w.cell? (a.add (((at0 : Int) + j).toNat * 1)) = some (.int .i64 (l.getD (at0 + j) 0)) := fun h => by
      rw [show ((at0 : Int) + j).toNat * 1 = at0 + j by omega]
      exact (ha (by omega)).2.2 _ _ (ins_get (getD_get (by omega)))
    have hget : at0 + j < l.length → (l.drop at0)[j]? = some (l.getD (at0 + j) 0) := fun h => by rw [List.getElem?_drop]; exact getD_get h
    generalize l.getD (at0 + j) 0 = x at *
    apply W.seq
    apply W.seq
    apply W.regd0; decide +kernel; kernel_rfl; decide +kernel; exact fun w hw => hw.drew
    apply qmv; rfl; rfl
    apply qmv; rfl; rfl
    apply QL.op; exact Guard.none; rfl; rfl; apply Pev.len_slice; rfl; exact yes; rfl
    apply qbn; rfl; rfl; rfl; apply Bin.lss
    apply qmv; rfl; rfl
    apply QL.op; exact Guard.yes rfl rfl; rfl; rfl; apply Pev.move; rfl; exact yes
    apply QL.op; exact Guard.yes rfl rfl; rfl; rfl; apply Pev.move; rfl; exact yes
    apply QL.op; exact Guard.yes rfl rfl; rfl; rfl; apply Pev.idx; rfl; exact fun h => h; rfl; exact fun h => h; rfl; rfl; intro hcond; omega
    apply QL.op; exact Guard.yes rfl rfl; rfl; rfl; apply Pev.load_kept; rfl; exact fun h => h; exact .head _; rfl; intro hcond; assumption; intro hcond; (rw [add_block]; assumption); intro hcond; exact NotOwned.nil
    apply QL.op; exact Guard.yes rfl rfl; rfl; rfl; apply Pev.move; rfl; exact yes
    apply QL.op; exact Guard.yes rfl rfl; rfl; rfl; apply Pev.move; rfl; exact yes
    (((first | (with_reducible apply OL.op) | (with_reducible apply QL.op)); ((first | exact Guard.none | exact Guard.yes rfl rfl | exact Guard.no rfl rfl | exact Guard.cyes rfl rfl | exact Guard.cno rfl rfl)); rfl; rfl); (apply Pev.idxO (a := a)); rfl; ((first | exact fun _ => rfl | exact fun h => h | (intro h; simp_all; done))); rfl; ((first | exact fun _ => rfl | exact fun h => h | (intro h; simp_all; done))); rfl; (intro hcond; simp at hcond; exact ⟨by omega, by omega, (ha (by omega)).1⟩))
    (((first | (with_reducible apply OL.op) | (with_reducible apply QL.op)); ((first | exact Guard.none | exact Guard.yes rfl rfl | exact Guard.no rfl rfl | exact Guard.cyes rfl rfl | exact Guard.cno rfl rfl)); rfl; rfl); (apply Pev.load_kept); rfl; ((first | exact fun _ => rfl | exact fun h => h | (intro h; simp_all; done))); (exact .tail _ (.head _)); rfl; (intro hcond; refine hcellI ?_; simpa using hcond); (intro hcond; rw [add_block]; refine hblkI ?_; simpa using hcond); (intro hcond; (focus ((try simp only [add_block]); (repeat (first | exact NotOwned.nil | exact hno _ (by omega) | refine NotOwned.nothing ?_ | refine NotOwned.nds (hlow _ (by omega)) ?_ | refine NotOwned.mapS (by omega) ?_ | apply NotOwned.bif | refine NotOwned.blk (by omega) ?_ | refine NotOwned.row (by omega) ?_ | refine NotOwned.grid (by assumption) (by omega) ?_)); done))))
    skip
    (((first | (with_reducible apply OL.op) | (with_reducible apply QL.op)); ((first | exact Guard.none | exact Guard.yes rfl rfl | exact Guard.no rfl rfl | exact Guard.cyes rfl rfl | exact Guard.cno rfl rfl)); rfl; rfl); (apply Pev.callv (first := []) (cap := caps)); rfl; ((first | exact fun _ => rfl | exact fun h => h | (intro h; simp_all; done))); (exact hcall); ((repeat (first | exact Args.nil | (apply Args.cons rfl; ((first | exact fun _ => rfl | exact fun h => h | (intro h; simp_all; done))))))); (exact (fun _ w2 hw2 => (hgo x w2 ((hw2.toExt (by (repeat (first | exact List.Mem.head _ | apply List.Mem.tail))) (fun k hk => by (focus ((try simp only [add_block]); (repeat (first | exact NotOwned.nil | exact hno _ (by omega) | refine NotOwned.nothing ?_ | refine NotOwned.nds (hlow _ (by omega)) ?_ | refine NotOwned.mapS (by omega) ?_ | apply NotOwned.bif | refine NotOwned.blk (by omega) ?_ | refine NotOwned.row (by omega) ?_ | refine NotOwned.grid (by assumption) (by omega) ?_)); done)))).mono fun _ _ h => h.elim)).mono (fun e w3 h => ⟨h.1, hw2.ext h.2⟩))))
    apply QL.op; exact Guard.none; rfl; rfl; apply Pev.pick_and; rfl; exact yes; rfl; exact fun h => h
    apply QL.nil
    with_reducible apply At.next
    refine W.cond rfl (fun hb => ?_) (fun hb => ?_)
    · simp only [Bool.and_eq_true, decide_eq_true_eq] at hb
      have hlt2 := tw_yes (by rw [htw]; exact hj) (hget (by omega)) hb.2
      rw [htw] at hlt2
      apply W.skip
      with_reducible apply At.next
      apply W.block
      apply W.reg
      apply omv; rfl; rfl
      apply obn; rfl; rfl; rfl; apply Bin.add_in; omega
      apply omv; rfl; rfl
      apply obn; rfl; rfl; rfl; apply Bin.add_in; omega
      apply oas; rfl; rfl
      apply oas; rfl; rfl
      apply OL.nil
      with_reducible apply At.in_normal
      exact At.again (j + 1) (by omega) (by omega) (by (repeat (first | exact Sub.nil | apply Sub.cons rfl | (refine Sub.cons_eq rfl (congrArg (Value.int .i64) (by first | omega | (simp only; omega))) ?_)))) (fun w' hw' => hw')
    · have hje : j = tw := by
        rw [← htw] at hj ⊢
        refine tw_no hj fun c hc => ?_
        have hl := (List.getElem?_eq_some_iff.1 hc).1
        rw [List.length_drop] at hl
        rw [hget (by omega)] at hc
        cases hc
        simp only [Bool.and_eq_false_iff, decide_eq_false_iff_not] at hb
        rcases hb with hb | hb
        · omega
        · exact hb
      subst hje
      clear hcellI hget hblkI
      apply W.exit
      with_reducible apply At.then_exit
      with_reducible apply At.then_exit
      with_reducible apply At.in_exit
      with_reducible apply At.next
      apply W.seq
      apply W.reg
      apply omv; rfl; rfl
      apply omv; rfl; rfl
      apply omv; rfl; rfl
      apply OL.op; exact Guard.none; rfl; rfl; apply Pev.idx; rfl; exact yes; rfl; exact yes; rfl; rfl; intro hcond; omega
      apply OL.op; exact Guard.none; rfl; rfl; apply Pev.load_kept; rfl; exact yes; exact .head _; rfl; intro hcond; assumption; intro hcond; (rw [add_block]; assumption); intro hcond; exact NotOwned.nil
      apply obn; rfl; rfl; rfl; apply Bin.lss
      apply omv; rfl; rfl
      apply OL.op; exact Guard.no rfl rfl; rfl; rfl; apply Pev.move; rfl; exact yes
      apply OL.op; exact Guard.no rfl rfl; rfl; rfl; apply Pev.bin; rfl; exact fun h => h; rfl; exact yes; intro hcond; apply Bin.gtr
      apply OL.op; exact Guard.no rfl rfl; rfl; rfl; apply Pev.move; rfl; exact fun h => h
      apply OL.op; exact Guard.cyes rfl rfl; rfl; rfl; apply Pev.move; rfl; exact yes
      apply OL.op; exact Guard.cyes rfl rfl; rfl; rfl; apply Pev.bin; rfl; exact fun h => h; rfl; exact yes; intro hcond; apply Bin.eql
      apply OL.op; exact Guard.cyes rfl rfl; rfl; rfl; apply Pev.move; rfl; exact fun h => h
      apply OL.op; exact Guard.cyes rfl rfl; rfl; rfl; apply Pev.move; rfl; exact yes
      apply OL.op; exact Guard.cyes rfl rfl; rfl; rfl; apply Pev.bin; rfl; exact fun h => h; rfl; exact yes; intro hcond; apply Bin.eql
      apply OL.op; exact Guard.cyes rfl rfl; rfl; rfl; apply Pev.pick_and; rfl; exact fun h => h; rfl; exact fun h => h
      apply OL.op; exact Guard.cyes rfl rfl; rfl; rfl; apply Pev.move; rfl; exact fun h => h
      apply OL.op; exact Guard.cno rfl rfl; rfl; rfl; apply Pev.move; rfl; exact yes
      apply OL.op; exact Guard.cno rfl rfl; rfl; rfl; apply Pev.bin; rfl; exact fun h => h; rfl; exact yes; intro hcond; apply Bin.eql
      apply OL.op; exact Guard.cno rfl rfl; rfl; rfl; apply Pev.move; rfl; exact fun h => h
      apply OL.op; exact Guard.cyes rfl rfl; rfl; rfl; apply Pev.move; rfl; exact yes
      apply OL.op; exact Guard.cyes rfl rfl; rfl; rfl; apply Pev.bin; rfl; exact fun h => h; rfl; exact yes; intro hcond; apply Bin.eql
      apply OL.op; exact Guard.cno rfl rfl; rfl; rfl; apply Pev.pick_and; rfl; exact fun h => h; rfl; exact fun h => h
      apply OL.op; exact Guard.cyes rfl rfl; rfl; rfl; apply Pev.pick_or; rfl; exact fun h => h; rfl; exact fun h => h
      apply OL.op; exact Guard.cyes rfl rfl; rfl; rfl; apply Pev.move; rfl; exact fun h => h
      apply OL.op; exact Guard.cno rfl rfl; rfl; rfl; apply Pev.move; rfl; exact yes
      apply OL.op; exact Guard.cno rfl rfl; rfl; rfl; apply Pev.bin; rfl; exact fun h => h; rfl; exact yes; intro hcond; apply Bin.geq
      apply OL.op; exact Guard.cno rfl rfl; rfl; rfl; apply Pev.move; rfl; exact fun h => h
      apply OL.op; exact Guard.cyes rfl rfl; rfl; rfl; apply Pev.move; rfl; exact yes
      apply OL.op; exact Guard.cyes rfl rfl; rfl; rfl; apply Pev.bin; rfl; exact fun h => h; rfl; exact yes; intro hcond; apply Bin.eql
      apply OL.op; exact Guard.cno rfl rfl; rfl; rfl; apply Pev.pick_and; rfl; exact fun h => h; rfl; exact fun h => h
      apply OL.op; exact Guard.cyes rfl rfl; rfl; rfl; apply Pev.pick_or; rfl; exact fun h => h; rfl; exact fun h => h
      apply OL.op; exact Guard.no rfl rfl; rfl; rfl; apply Pev.pick_and; rfl; exact fun h => h; rfl; exact fun h => h
      apply OL.op; exact Guard.none; rfl; rfl; apply Pev.pick_or; rfl; exact yes; rfl; exact fun h => h
      apply OL.nil
      with_reducible apply At.next
      refine W.cond rfl (fun hb2 => ?_) (fun hb2 => ?_)
      · have hbad : badG k i j m = true := by
          unfold badG; simp only [Bool.and_eq_true, Bool.or_eq_true, decide_eq_true_eq] at hb2 ⊢; omega
        rw [hbad, if_pos rfl] at hrest
        apply W.seq
        apply W.reg
        apply oas; rfl; rfl
        apply OL.nil
        with_reducible apply At.next
        apply W.ret
        with_reducible apply At.in_ret
        with_reducible apply At.then_ret
        with_reducible apply At.then_ret
        with_reducible apply At.in_ret
        with_reducible apply At.then_ret
        ((with_reducible apply At.fin1); rfl; rfl; intro w' hw')
        exact ⟨by rw [← hrest], by (exact hw'.toExt (by (repeat (first | exact List.Mem.head _ | apply List.Mem.tail))) (fun k hk => by (focus ((try simp only [add_block]); (repeat (first | exact NotOwned.nil | exact hno _ (by omega) | refine NotOwned.nothing ?_ | refine NotOwned.nds (hlow _ (by omega)) ?_ | refine NotOwned.mapS (by omega) ?_ | apply NotOwned.bif | refine NotOwned.blk (by omega) ?_ | refine NotOwned.row (by omega) ?_ | refine NotOwned.grid (by assumption) (by omega) ?_)); done))))⟩
      · have hbad : badG k i j m = false := by
          refine Bool.eq_false_iff.2 fun hh => ?_
          unfold badG at hh; rw [← Bool.not_eq_true] at hb2; simp only [Bool.and_eq_true, Bool.or_eq_true, decide_eq_true_eq] at hb2 hh; omega
        rw [hbad] at hrest
        apply W.skip
        with_reducible apply At.in_normal
        with_reducible apply At.next
        apply W.reg
        apply obn; rfl; rfl; rfl; apply Bin.add_in; omega
        apply omv; rfl; rfl
        apply OL.nil
        exact At.again (i + 1, at0 + j) ⟨by dsimp only; omega, by dsimp only; omega, by simpa using hrest⟩ (by dsimp only; omega) (by (repeat (first | exact Sub.nil | apply Sub.cons rfl | (refine Sub.cons_eq rfl (congrArg (Value.int .i64) (by first | omega | (simp only; omega))) ?_)))) (fun w' hw' => hw')
  · have hie : i = fs.length := by omega
    have he0 : groupedF k (fs.drop i) (ms.drop i) i (l.drop at0) = (l.drop at0).isEmpty := by
      rw [hie, List.drop_length]; rfl
    apply W.exit
    with_reducible apply At.then_exit
    with_reducible apply At.then_exit
    with_reducible apply At.in_exit
    with_reducible apply At.next
    apply W.seq
    apply W.reg
    apply omv; rfl; rfl
    apply omv; rfl; rfl
    apply OL.op; exact Guard.none; rfl; rfl; apply Pev.len_slice; rfl; exact yes; rfl
    apply obn; rfl; rfl; rfl; apply Bin.eql
    apply oas; rfl; rfl
    apply OL.nil
    with_reducible apply At.next
    apply W.ret
    ((with_reducible apply At.fin1); rfl; rfl; intro w' hw')
    refine ⟨?_, by (exact hw'.toExt (by (repeat (first | exact List.Mem.head _ | apply List.Mem.tail))) (fun k hk => by (focus ((try simp only [add_block]); (repeat (first | exact NotOwned.nil | exact hno _ (by omega) | refine NotOwned.nothing ?_ | refine NotOwned.nds (hlow _ (by omega)) ?_ | refine NotOwned.mapS (by omega) ?_ | apply NotOwned.bif | refine NotOwned.blk (by omega) ?_ | refine NotOwned.row (by omega) ?_ | refine NotOwned.grid (by assumption) (by omega) ?_)); done))))⟩
    rw [← hrest, he0]
    refine congrArg (fun b => Ending.returned (Value.bool b)) ?_
    rw [Bool.eq_iff_iff, List.isEmpty_iff, List.drop_eq_nil_iff, decide_eq_true_eq]
    omega

def shB (s : Shp) : Bool := decide (s.first.length ≤ 3) && decide (s.last.length ≤ 3) && decide (0 ≤ s.least) && decide (s.least ≤ 1)
theorem shB_ite {c : Prop} [Decidable c] {a b : Shp} (ha : shB a = true) (hb : shB b = true) : shB (if c then a else b) = true := by split <;> assumption
theorem shape_len (k : Int) : (shapeP k).first.length ≤ 3 ∧ (shapeP k).last.length ≤ 3 ∧ 0 ≤ (shapeP k).least ∧ (shapeP k).least ≤ 1 := by
  have h : shB (shapeP k) = true := by
    unfold shapeP
    repeat (refine shB_ite (by decide) ?_)
    decide
  unfold shB at h
  simp only [Bool.and_eq_true, decide_eq_true_eq] at h
  omega
theorem fits_calls (k : Int) (q : Option Addr) (cap : Nat) (l : List Int) (w : World) (hlen : l.length ≤ 9223372036854775000) (h : SlAt w w.heap.size q (ins l)) :
    Calls Try.prog 44 #[.int .i64 k, .slice q l.length cap] w fun e w' => e = .returned (.bool (fitP k l)) ∧ Ext w w' := by
  refine enter Try.func44 rfl Try.ntmps44 rfl (Cls.start w) ?_
  (simp only [argEnv, Nat.zero_add, Nat.reduceAdd])
  apply W.seq
  apply W.reg
  apply oas; rfl; rfl
  apply OL.nil
  with_reducible apply At.next
  apply W.seq
  apply W.seq
  apply W.reg
  apply omv; rfl; rfl
  apply obn; rfl; rfl; rfl; apply Bin.eql
  apply OL.nil
  with_reducible apply At.next
  (refine W.cond rfl (fun h24 => ?_) (fun h24 => ?_)) <;> (try (simp only [Bool.and_eq_true, Bool.or_eq_true, Bool.not_eq_true', Bool.and_eq_false_iff, Bool.or_eq_false_iff, Bool.not_eq_false', decide_eq_true_eq, decide_eq_false_iff_not, Int.not_lt, Int.not_le] at h24)) <;> (try (exfalso; first | omega | exact h24 trivial | contradiction))
  · have e : fitP k l = (allI (fun i x => !opBad i x) l 0 && (decide (3 ≤ l.length) && decide (l.length % 2 = 1))) := by unfold fitP; rw [if_pos h24]
    rw [e]
    apply W.seq
    apply W.seq
    apply W.reg
    apply omv; rfl; rfl
    apply OL.op; exact Guard.none; rfl; rfl; apply Pev.len_slice; rfl; exact yes; rfl
    apply omv; rfl; rfl
    apply OL.nil
    with_reducible apply At.next
    apply W.block
    refine W.loop (G := Nat) (fun i => i ≤ l.length ∧ allI (fun i x => !opBad i x) (l.drop i) i = allI (fun i x => !opBad i x) l 0) (fun i => l.length - i)
      (fun i => [(18, true, .int .i64 (i : Int)), (17, true, .int .i64 (l.length : Int)), (16, true, .slice q l.length cap), (1, true, .slice q l.length cap)])
      (fun i => Cls [] [w]) 0 ⟨by omega, rfl⟩ (by (repeat (first | exact Sub.nil | apply Sub.cons rfl | (refine Sub.cons_eq rfl (congrArg (Value.int .i64) (by first | omega | (simp only; omega))) ?_)))) (fun w' hw' => hw') ?_
    rintro i ⟨hi, hrest⟩
    apply W.seq
    apply W.reg
    apply obn; rfl; rfl; rfl; apply Bin.lss
    apply OL.nil
    with_reducible apply At.next
    apply W.seq
    (refine W.cond rfl (fun hlt => ?_) (fun hlt => ?_)) <;> (try (simp only [Bool.and_eq_true, Bool.or_eq_true, Bool.not_eq_true', Bool.and_eq_false_iff, Bool.or_eq_false_iff, Bool.not_eq_false', decide_eq_true_eq, decide_eq_false_iff_not, Int.not_lt, Int.not_le] at hlt)) <;> (try (exfalso; first | omega | exact hlt trivial | contradiction))
    · obtain ⟨a, x, rfl, hab, hx, hcell⟩ := SlAt.int h (show i < l.length by omega)
      rw [allI_get hx] at hrest
      apply W.skip
      with_reducible apply At.next
      apply W.seq
      apply W.block
      apply W.seq
      apply W.reg
      apply omv; rfl; rfl
      apply OL.op; exact Guard.none; rfl; rfl; apply Pev.idx; rfl; exact yes; rfl; exact yes; rfl; rfl; intro hcond; omega
      apply OL.op; exact Guard.none; rfl; rfl; apply Pev.load_kept; rfl; exact yes; exact .head _; rfl; intro hcond; assumption; intro hcond; (rw [add_block]; assumption); intro hcond; exact NotOwned.nil
      apply oas; rfl; rfl
      apply oas; rfl; rfl
      apply OL.nil
      with_reducible apply At.next
      apply W.seq
      apply W.reg
      apply omv; rfl; rfl
      apply obn; rfl; rfl; rfl; apply Bin.rem_in; omega
      apply obn; rfl; rfl; rfl; apply Bin.eql
      apply omv; rfl; rfl
      apply OL.op; exact Guard.yes rfl rfl; rfl; rfl; apply Pev.move; rfl; exact yes
      (((first | (with_reducible apply OL.op) | (with_reducible apply QL.op)); ((first | exact Guard.none | exact Guard.yes rfl rfl | exact Guard.no rfl rfl | exact Guard.cyes rfl rfl | exact Guard.cno rfl rfl)); rfl; rfl); (exact Pev.call rfl (by (repeat (first | exact Args.nil | (apply Args.cons rfl; ((first | exact fun _ => rfl | exact fun h => h | (intro h; simp_all; done))))))) (fun _ w2 hw2 => (isExpr_calls x w2).mono (fun e w3 h => ⟨h.1, hw2.ext h.2⟩))))
      apply OL.op; exact Guard.yes rfl rfl; rfl; rfl; apply Pev.not; rfl; exact fun h => h
      apply OL.op; exact Guard.none; rfl; rfl; apply Pev.pick_and; rfl; exact yes; rfl; exact fun h => h
      apply omv; rfl; rfl
      apply OL.op; exact Guard.no rfl rfl; rfl; rfl; apply Pev.move; rfl; exact yes
      apply OL.op; exact Guard.no rfl rfl; rfl; rfl; apply Pev.bin; rfl; exact fun h => h; rfl; exact yes; intro hcond; apply Bin.rem_in; omega
      apply OL.op; exact Guard.no rfl rfl; rfl; rfl; apply Pev.bin; rfl; exact fun h => h; rfl; exact yes; intro hcond; apply Bin.eql
      apply OL.op; exact Guard.no rfl rfl; rfl; rfl; apply Pev.move; rfl; exact fun h => h
      apply OL.op; exact Guard.cyes rfl rfl; rfl; rfl; apply Pev.move; rfl; exact yes
      apply OL.op; exact Guard.cyes rfl rfl; rfl; rfl; apply Pev.bin; rfl; exact fun h => h; rfl; exact yes; intro hcond; apply Bin.neq
      apply OL.op; exact Guard.no rfl rfl; rfl; rfl; apply Pev.pick_and; rfl; exact fun h => h; rfl; exact fun h => h
      apply OL.op; exact Guard.none; rfl; rfl; apply Pev.pick_or; rfl; exact yes; rfl; exact fun h => h
      apply OL.nil
      with_reducible apply At.next
      refine W.cond rfl (fun hb => ?_) (fun hb => ?_)
      · have hb' : opBad i x = true := by
          unfold opBad
          generalize inL exprL x = b at hb ⊢
          cases b <;> simp at hb ⊢ <;> omega
        apply W.seq
        apply W.reg
        apply oas; rfl; rfl
        apply OL.nil
        with_reducible apply At.next
        apply W.ret
        with_reducible apply At.in_ret
        with_reducible apply At.then_ret
        with_reducible apply At.then_ret
        with_reducible apply At.in_ret
        with_reducible apply At.then_ret
        with_reducible apply At.then_ret
        ((with_reducible apply At.fin1); rfl; rfl; intro w' hw')
        rw [hb'] at hrest
        exact ⟨by rw [← hrest]; rfl, by (exact hw'.toExt (by (repeat (first | exact List.Mem.head _ | apply List.Mem.tail))) (fun k hk => by (focus ((try simp only [add_block]); (repeat (first | exact NotOwned.nil | exact hno _ (by omega) | refine NotOwned.nothing ?_ | refine NotOwned.nds (hlow _ (by omega)) ?_ | refine NotOwned.mapS (by omega) ?_ | apply NotOwned.bif | refine NotOwned.blk (by omega) ?_ | refine NotOwned.row (by omega) ?_ | refine NotOwned.grid (by assumption) (by omega) ?_)); done))))⟩
      · have hb' : opBad i x = false := by
          refine Bool.eq_false_iff.2 fun hh => ?_
          unfold opBad at hh; rw [← Bool.not_eq_true] at hb
          generalize inL exprL x = b at hb hh
          cases b <;> simp at hb hh <;> omega
        rw [hb'] at hrest
        apply W.skip
        with_reducible apply At.in_normal
        with_reducible apply At.next
        apply W.reg
        apply obn; rfl; rfl; rfl; apply Bin.add_in; omega
        apply omv; rfl; rfl
        apply OL.nil
        exact At.again (i + 1) ⟨by omega, by simpa using hrest⟩ (by omega) (by (repeat (first | exact Sub.nil | apply Sub.cons rfl | (refine Sub.cons_eq rfl (congrArg (Value.int .i64) (by first | omega | (simp only; omega))) ?_)))) (fun w' hw' => hw')
    · rw [allI_end (by omega)] at hrest
      apply W.exit
      with_reducible apply At.then_exit
      with_reducible apply At.then_exit
      with_reducible apply At.in_exit
      with_reducible apply At.next
      apply W.seq
      apply W.reg
      apply omv; rfl; rfl
      apply OL.op; exact Guard.none; rfl; rfl; apply Pev.len_slice; rfl; exact yes; rfl
      apply obn; rfl; rfl; rfl; apply Bin.geq
      apply omv; rfl; rfl
      apply OL.op; exact Guard.yes rfl rfl; rfl; rfl; apply Pev.move; rfl; exact yes
      apply OL.op; exact Guard.yes rfl rfl; rfl; rfl; apply Pev.len_slice; rfl; exact fun h => h; rfl
      apply OL.op; exact Guard.yes rfl rfl; rfl; rfl; apply Pev.bin; rfl; exact fun h => h; rfl; exact yes; intro hcond; apply Bin.rem_in; omega
      apply OL.op; exact Guard.yes rfl rfl; rfl; rfl; apply Pev.bin; rfl; exact fun h => h; rfl; exact yes; intro hcond; apply Bin.eql
      apply OL.op; exact Guard.none; rfl; rfl; apply Pev.pick_and; rfl; exact yes; rfl; exact fun h => h
      apply oas; rfl; rfl
      apply OL.nil
      with_reducible apply At.next
      apply W.ret
      with_reducible apply At.then_ret
      ((with_reducible apply At.fin1); rfl; rfl; intro w' hw')
      refine ⟨?_, by (exact hw'.toExt (by (repeat (first | exact List.Mem.head _ | apply List.Mem.tail))) (fun k hk => by (focus ((try simp only [add_block]); (repeat (first | exact NotOwned.nil | exact hno _ (by omega) | refine NotOwned.nothing ?_ | refine NotOwned.nds (hlow _ (by omega)) ?_ | refine NotOwned.mapS (by omega) ?_ | apply NotOwned.bif | refine NotOwned.blk (by omega) ?_ | refine NotOwned.row (by omega) ?_ | refine NotOwned.grid (by assumption) (by omega) ?_)); done))))⟩
      rw [← hrest, Bool.true_and]
      refine congrArg (fun b => Ending.returned (Value.bool b)) ?_
      rw [Bool.eq_iff_iff]
      simp only [Bool.and_eq_true, decide_eq_true_eq]
      omega
  apply W.skip
  with_reducible apply At.next
  apply W.seq
  apply W.seq
  apply W.reg
  apply omv; rfl; rfl
  refine OL.callE (α := (Option Addr × Nat × Option Addr × Nat) × World) (fun x => .tuple #[.slice x.1.1 (groupsP k).1.length x.1.2.1, .slice x.1.2.2.1 (groupsP k).2.length x.1.2.2.2]) (fun x => (x.1.1 = .none ↔ (groupsP k).1 = []) ∧ Ext w x.2) (fun x => Cls [] [x.2, w]) rfl rfl (by (repeat (first | exact Args.nil | (apply Args.cons rfl; ((first | exact fun _ => rfl | exact fun h => h | (intro h; simp_all; done)))))))
    (fun w2 hw2 => (groups_calls k w2).mono fun e w3 ⟨q1, c1, q2, c2, he, hf, hs, hn, hx⟩ => ⟨((q1, c1, q2, c2), w3), he, ⟨hn, (hw2.toExt (s := w) (by (repeat (first | exact List.Mem.head _ | apply List.Mem.tail))) (fun k hk => by (focus ((try simp only [add_block]); (repeat (first | exact NotOwned.nil | exact hno _ (by omega) | refine NotOwned.nothing ?_ | refine NotOwned.nds (hlow _ (by omega)) ?_ | refine NotOwned.mapS (by omega) ?_ | apply NotOwned.bif | refine NotOwned.blk (by omega) ?_ | refine NotOwned.row (by omega) ?_ | refine NotOwned.grid (by assumption) (by omega) ?_)); done)))).trans hx⟩, (hw2.ext hx).note⟩) ?_
  rintro ⟨⟨q1, c1, q2, c2⟩, w1⟩ ⟨hn, hx1⟩
  simp only at hn hx1 ⊢
  have hsz := hx1.size
  by_cases hg : (groupsP k).1 = []
  · obtain rfl := hn.2 hg
    have e : fitP k l = shP (shapeP k) l := by unfold fitP; rw [if_neg h24, if_pos hg]
    rw [e]
    apply omv; rfl; rfl
    apply oex; rfl; rfl; rfl
    apply oex; rfl; rfl; rfl
    apply oas; rfl; rfl
    apply oas; rfl; rfl
    apply OL.nil
    with_reducible apply At.next
    apply W.seq
    apply W.reg
    apply omv; rfl; rfl
    apply obn; rfl; rfl; rfl; apply Bin.slice_nnil; rfl
    apply OL.nil
    with_reducible apply At.next
    (refine W.cond rfl (fun hc => ?_) (fun hc => ?_)) <;> (try (simp only [Bool.and_eq_true, Bool.or_eq_true, Bool.not_eq_true', Bool.and_eq_false_iff, Bool.or_eq_false_iff, Bool.not_eq_false', decide_eq_true_eq, decide_eq_false_iff_not, Int.not_lt, Int.not_le] at hc)) <;> (try (exfalso; first | omega | exact hc trivial | contradiction))
    apply W.skip
    with_reducible apply At.next
    apply W.seq
    apply W.reg
    apply omv; rfl; rfl
    refine OL.callE (α := List Value × World) (fun x => .agg x.1.toArray) (fun x => ShAt x.2 x.1 (shapeP k) ∧ w.heap.size ≤ x.2.heap.size) (fun x => Cls [] [x.2, w]) rfl rfl (by (repeat (first | exact Args.nil | (apply Args.cons rfl; ((first | exact fun _ => rfl | exact fun h => h | (intro h; simp_all; done)))))))
      (fun w2 hw2 => (shapeOf_calls k w2).mono fun e w3 ⟨vs, he, hs, hx⟩ => ⟨(vs, w3), he, ⟨hs, ((hw2.ext hx).kp w (by (repeat (first | exact List.Mem.head _ | apply List.Mem.tail)))).size⟩, ((hw2.ext hx).forget (S' := [w]) (by simp)).note⟩) ?_
    rintro ⟨vs, w2⟩ ⟨hs, hsz2⟩
    simp only at hs hsz2 ⊢
    obtain ⟨p1, d1, p2, d2, vb, rfl, ⟨v1, hv1, hs1⟩, ⟨v2, hv2, hs2⟩, hvb⟩ := hs
    obtain ⟨fb, capb, rfl, hcb, hgb⟩ := hvb.go
    have hsl := shape_len k
    generalize shapeP k = s at *
    apply OL.alloc; rfl; rfl; exact CellsL.agg; (intro bk hbk; simp only [AllLe, and_true] at hbk)
    apply OL.storeB; rfl; rfl; exact CellsL.agg; rfl; rfl; rfl; apply Swap.z; apply Put.here; apply Over.cons; apply Over.cons; apply Over.cons; apply Over.cons; apply Over.nil
    apply OL.nil
    with_reducible apply At.next
    apply W.seq
    apply W.reg
    apply omv; rfl; rfl
    apply OL.op; exact Guard.none; rfl; rfl; apply Pev.len_slice; rfl; exact yes; rfl
    apply ofa; rfl; rfl; rfl
    apply old; rfl; rfl; exact .head _; rfl; rfl
    apply OL.op; exact Guard.none; rfl; rfl; apply Pev.len_slice; rfl; exact yes; rfl
    apply obn; rfl; rfl; rfl; apply Bin.sub_in; omega
    apply ofa; rfl; rfl; rfl
    apply old; rfl; rfl; exact .head _; rfl; rfl
    apply OL.op; exact Guard.none; rfl; rfl; apply Pev.len_slice; rfl; exact yes; rfl
    apply obn; rfl; rfl; rfl; apply Bin.sub_in; omega
    apply oas; rfl; rfl
    apply OL.nil
    with_reducible apply At.next
    apply W.seq
    apply W.seq
    apply W.reg
    apply omv; rfl; rfl
    apply ofa; rfl; rfl; rfl
    apply old; rfl; rfl; exact .head _; rfl; rfl
    apply obn; rfl; rfl; rfl; apply Bin.lss
    apply OL.nil
    with_reducible apply At.next
    revert bk
    intro b9 hb9
    have hin : (l.length : Int) - s.first.length - s.last.length = innerS s l := rfl
    (refine W.cond rfl (fun hle => ?_) (fun hle => ?_)) <;> (try (simp only [Bool.and_eq_true, Bool.or_eq_true, Bool.not_eq_true', Bool.and_eq_false_iff, Bool.or_eq_false_iff, Bool.not_eq_false', decide_eq_true_eq, decide_eq_false_iff_not, Int.not_lt, Int.not_le] at hle)) <;> (try (exfalso; first | omega | exact hle trivial | contradiction))
    · rw [hin] at hle
      apply W.seq
      apply W.reg
      apply oas; rfl; rfl
      apply OL.nil
      with_reducible apply At.next
      apply W.ret
      with_reducible apply At.then_ret
      ((with_reducible apply At.fin1); rfl; rfl; intro w' hw')
      exact ⟨by rw [shP_short hle], by (exact hw'.toExt (by (repeat (first | exact List.Mem.head _ | apply List.Mem.tail))) (fun k hk => by (focus ((try simp only [add_block]); (repeat (first | exact NotOwned.nil | exact hno _ (by omega) | refine NotOwned.nothing ?_ | refine NotOwned.nds (hlow _ (by omega)) ?_ | refine NotOwned.mapS (by omega) ?_ | apply NotOwned.bif | refine NotOwned.blk (by omega) ?_ | refine NotOwned.row (by omega) ?_ | refine NotOwned.grid (by assumption) (by omega) ?_)); done))))⟩
    have e2 : shP s l = allI (fun i x => inL (pickS s (innerS s l) i) x) l 0 := by unfold shP; rw [if_neg (by rw [← hin]; omega)]
    rw [e2]
    apply W.skip
    with_reducible apply At.next
    apply W.seq
    apply W.seq
    apply W.reg
    apply omv; rfl; rfl
    apply OL.op; exact Guard.none; rfl; rfl; apply Pev.len_slice; rfl; exact yes; rfl
    apply omv; rfl; rfl
    apply OL.nil
    with_reducible apply At.next
    apply W.block
    refine W.loop (G := Nat) (fun i => i ≤ l.length ∧ allI (fun i x => inL (pickS s (innerS s l) i) x) (l.drop i) i = allI (fun i x => inL (pickS s (innerS s l) i) x) l 0) (fun i => l.length - i)
      (fun i => [(78, true, .int .i64 (i : Int)), (77, true, .int .i64 (l.length : Int)), (76, true, .slice q l.length cap), (10, true, .int .i64 ((l.length : Int) - s.first.length - s.last.length)), (9, true, .pointer (some ⟨b9, 0, .none⟩))])
      (fun i => Cls [blk b9 105 [.slice p1 s.first.length d1, .slice p2 s.last.length d2, .func (.func fb) (([] : List Value)).toArray capb.toArray, .int .i64 s.least]] [w2, w]) 0 ⟨by omega, rfl⟩ (by (repeat (first | exact Sub.nil | apply Sub.cons rfl | (refine Sub.cons_eq rfl (congrArg (Value.int .i64) (by first | omega | (simp only; omega))) ?_)))) (fun w' hw' => hw') ?_
    rintro i ⟨hi, hrest⟩
    apply W.seq
    apply W.reg
    apply obn; rfl; rfl; rfl; apply Bin.lss
    apply OL.nil
    with_reducible apply At.next
    apply W.seq
    (refine W.cond rfl (fun hlt => ?_) (fun hlt => ?_)) <;> (try (simp only [Bool.and_eq_true, Bool.or_eq_true, Bool.not_eq_true', Bool.and_eq_false_iff, Bool.or_eq_false_iff, Bool.not_eq_false', decide_eq_true_eq, decide_eq_false_iff_not, Int.not_lt, Int.not_le] at hlt)) <;> (try (exfalso; first | omega | exact hlt trivial | contradiction))
    · obtain ⟨a, x, rfl, hab, hx, hcell⟩ := SlAt.int h (show i < l.length by omega)
      rw [allI_get hx] at hrest
      apply W.skip
      with_reducible apply At.next
      apply W.seq
      apply W.block
      apply W.seq
      apply W.reg
      apply omv; rfl; rfl
      apply OL.op; exact Guard.none; rfl; rfl; apply Pev.idx; rfl; exact yes; rfl; exact yes; rfl; rfl; intro hcond; omega
      (((first | (with_reducible apply OL.op) | (with_reducible apply QL.op)); ((first | exact Guard.none | exact Guard.yes rfl rfl | exact Guard.no rfl rfl | exact Guard.cyes rfl rfl | exact Guard.cno rfl rfl)); rfl; rfl); (apply Pev.load_kept (s := w)); rfl; ((first | exact fun _ => rfl | exact fun h => h | (intro h; simp_all; done))); ((repeat (first | exact List.Mem.head _ | apply List.Mem.tail))); rfl; (intro hcond; exact hcell); (intro hcond; rw [add_block]; exact hab); (intro hcond; (focus ((try simp only [add_block]); (repeat (first | exact NotOwned.nil | exact hno _ (by omega) | refine NotOwned.nothing ?_ | refine NotOwned.nds (hlow _ (by omega)) ?_ | refine NotOwned.mapS (by omega) ?_ | apply NotOwned.bif | refine NotOwned.blk (by omega) ?_ | refine NotOwned.row (by omega) ?_ | refine NotOwned.grid (by assumption) (by omega) ?_)); done))))
      apply oas; rfl; rfl
      apply oas; rfl; rfl
      apply OL.nil
      with_reducible apply At.next
      apply W.seq
      apply W.reg
      apply ofa; rfl; rfl; rfl
      apply old; rfl; rfl; exact .head _; rfl; rfl
      apply oas; rfl; rfl
      apply OL.nil
      with_reducible apply At.next
      apply W.seq
      apply W.block
      apply W.seq
      apply W.reg
      apply omv; rfl; rfl
      apply ofa; rfl; rfl; rfl
      apply old; rfl; rfl; exact .head _; rfl; rfl
      apply OL.op; exact Guard.none; rfl; rfl; apply Pev.len_slice; rfl; exact yes; rfl
      apply obn; rfl; rfl; rfl; apply Bin.lss
      apply oas; rfl; rfl
      apply OL.nil
      with_reducible apply At.next
      (refine W.cond rfl (fun hfirst => ?_) (fun hfirst => ?_)) <;> (try (simp only [Bool.and_eq_true, Bool.or_eq_true, Bool.not_eq_true', Bool.and_eq_false_iff, Bool.or_eq_false_iff, Bool.not_eq_false', decide_eq_true_eq, decide_eq_false_iff_not, Int.not_lt, Int.not_le] at hfirst)) <;> (try (exfalso; first | omega | exact hfirst trivial | contradiction))
      · obtain ⟨L, hL⟩ : ∃ L, s.first[i]? = some L := ⟨_, List.getElem?_eq_getElem (by omega)⟩
        have hpk : pickS s (innerS s l) i = L := by unfold pickS; rw [if_pos (by omega), List.getD_eq_getElem?_getD, hL]; rfl
        rw [hpk] at hrest
        obtain ⟨v, hv, hfn⟩ := hv1.get hL
        obtain ⟨a1, rfl, ha1, hc1⟩ := hs1 (by rw [hv1.len]; omega)
        have hcv : w2.cell? (a1.add (i * 1)) = some v := by rw [Nat.mul_one]; exact hc1 i v hv
        obtain ⟨f', caps, rfl, hcall, hgo⟩ := hfn.go
        apply W.reg
        apply ofa; rfl; rfl; rfl
        apply old; rfl; rfl; exact .head _; rfl; rfl
        apply omv; rfl; rfl
        apply OL.op; exact Guard.none; rfl; rfl; apply Pev.idx; rfl; exact yes; rfl; exact yes; rfl; rfl; intro hcond; omega
        apply OL.op; exact Guard.none; rfl; rfl; apply Pev.load_kept; rfl; exact yes; exact .head _; rfl; intro hcond; assumption; intro hcond; (rw [add_block]; assumption); intro hcond; simp only [add_block]; refine NotOwned.blk (by omega) ?_; exact NotOwned.nil
        apply oas; rfl; rfl
        apply OL.nil
        with_reducible apply At.in_normal
        with_reducible apply At.next
        apply W.seq
        apply W.reg
        apply omv; rfl; rfl
        apply omv; rfl; rfl
        (((first | (with_reducible apply OL.op) | (with_reducible apply QL.op)); ((first | exact Guard.none | exact Guard.yes rfl rfl | exact Guard.no rfl rfl | exact Guard.cyes rfl rfl | exact Guard.cno rfl rfl)); rfl; rfl); (apply Pev.callv (first := []) (cap := caps)); rfl; ((first | exact fun _ => rfl | exact fun h => h | (intro h; simp_all; done))); (exact hcall); ((repeat (first | exact Args.nil | (apply Args.cons rfl; ((first | exact fun _ => rfl | exact fun h => h | (intro h; simp_all; done))))))); (exact (fun _ w3 hw3 => (hgo x w3 ((hw3.toExt (by (repeat (first | exact List.Mem.head _ | apply List.Mem.tail))) (fun k hk => by (focus ((try simp only [add_block]); (repeat (first | exact NotOwned.nil | exact hno _ (by omega) | refine NotOwned.nothing ?_ | refine NotOwned.nds (hlow _ (by omega)) ?_ | refine NotOwned.mapS (by omega) ?_ | apply NotOwned.bif | refine NotOwned.blk (by omega) ?_ | refine NotOwned.row (by omega) ?_ | refine NotOwned.grid (by assumption) (by omega) ?_)); done)))).mono fun _ _ h => h.elim)).mono (fun e w4 h => ⟨h.1, hw3.ext h.2⟩))))
        apply OL.op; exact Guard.none; rfl; rfl; apply Pev.not; rfl; exact yes
        apply OL.nil
        with_reducible apply At.next
        refine W.cond rfl (fun hb => ?_) (fun hb => ?_)
        · apply W.seq
          apply W.reg
          apply oas; rfl; rfl
          apply OL.nil
          with_reducible apply At.next
          apply W.ret
          with_reducible apply At.in_ret
          with_reducible apply At.then_ret
          with_reducible apply At.then_ret
          with_reducible apply At.in_ret
          with_reducible apply At.then_ret
          ((with_reducible apply At.fin1); rfl; rfl; intro w' hw')
          simp only [Bool.not_eq_true'] at hb
          rw [hb] at hrest
          exact ⟨by rw [← hrest]; rfl, by (exact hw'.toExt (by (repeat (first | exact List.Mem.head _ | apply List.Mem.tail))) (fun k hk => by (focus ((try simp only [add_block]); (repeat (first | exact NotOwned.nil | exact hno _ (by omega) | refine NotOwned.nothing ?_ | refine NotOwned.nds (hlow _ (by omega)) ?_ | refine NotOwned.mapS (by omega) ?_ | apply NotOwned.bif | refine NotOwned.blk (by omega) ?_ | refine NotOwned.row (by omega) ?_ | refine NotOwned.grid (by assumption) (by omega) ?_)); done))))⟩
        · simp only [Bool.not_eq_false'] at hb
          rw [hb] at hrest
          apply W.skip
          with_reducible apply At.in_normal
          with_reducible apply At.next
          apply W.reg
          apply obn; rfl; rfl; rfl; apply Bin.add_in; omega
          apply omv; rfl; rfl
          apply OL.nil
          exact At.again (i + 1) ⟨by omega, by simpa using hrest⟩ (by omega) (by (repeat (first | exact Sub.nil | apply Sub.cons rfl | (refine Sub.cons_eq rfl (congrArg (Value.int .i64) (by first | omega | (simp only; omega))) ?_)))) (fun w' hw' => hw')
      · apply W.seq
        apply W.reg
        apply omv; rfl; rfl
        apply ofa; rfl; rfl; rfl
        apply old; rfl; rfl; exact .head _; rfl; rfl
        apply OL.op; exact Guard.none; rfl; rfl; apply Pev.len_slice; rfl; exact yes; rfl
        apply omv; rfl; rfl
        apply obn; rfl; rfl; rfl; apply Bin.add_in; omega
        apply obn; rfl; rfl; rfl; apply Bin.geq
        apply oas; rfl; rfl
        apply OL.nil
        with_reducible apply At.next
        (refine W.cond rfl (fun hlast => ?_) (fun hlast => ?_)) <;> (try (simp only [Bool.and_eq_true, Bool.or_eq_true, Bool.not_eq_true', Bool.and_eq_false_iff, Bool.or_eq_false_iff, Bool.not_eq_false', decide_eq_true_eq, decide_eq_false_iff_not, Int.not_lt, Int.not_le] at hlast)) <;> (try (exfalso; first | omega | exact hlast trivial | contradiction))
        · have hj : i - s.first.length - (innerS s l).toNat < s.last.length := by omega
          obtain ⟨L, hL⟩ : ∃ L, s.last[i - s.first.length - (innerS s l).toNat]? = some L := ⟨_, List.getElem?_eq_getElem hj⟩
          have hpk : pickS s (innerS s l) i = L := by unfold pickS; rw [if_neg (by omega), if_pos (by omega), List.getD_eq_getElem?_getD, hL]; rfl
          rw [hpk] at hrest
          obtain ⟨v, hv, hfn⟩ := hv2.get hL
          obtain ⟨a1, rfl, ha1, hc1⟩ := hs2 (by rw [hv2.len]; omega)
          have hcv : w2.cell? (a1.add (((i : Int) - s.first.length - ((l.length : Int) - s.first.length - s.last.length)).toNat * 1)) = some v := by
            rw [show ((i : Int) - s.first.length - ((l.length : Int) - s.first.length - s.last.length)).toNat * 1 = i - s.first.length - (innerS s l).toNat by omega]; exact hc1 _ v hv
          obtain ⟨f', caps, rfl, hcall, hgo⟩ := hfn.go
          apply W.reg
          apply ofa; rfl; rfl; rfl
          apply old; rfl; rfl; exact .head _; rfl; rfl
          apply omv; rfl; rfl
          apply ofa; rfl; rfl; rfl
          apply old; rfl; rfl; exact .head _; rfl; rfl
          apply OL.op; exact Guard.none; rfl; rfl; apply Pev.len_slice; rfl; exact yes; rfl
          apply obn; rfl; rfl; rfl; apply Bin.sub_in; omega
          apply omv; rfl; rfl
          apply obn; rfl; rfl; rfl; apply Bin.sub_in; omega
          apply OL.op; exact Guard.none; rfl; rfl; apply Pev.idxI; rfl; exact yes; rfl; exact yes; rfl; intro hcond; omega
          apply OL.op; exact Guard.none; rfl; rfl; apply Pev.load_kept; rfl; exact yes; exact .head _; rfl; intro hcond; assumption; intro hcond; (rw [add_block]; assumption); intro hcond; simp only [add_block]; refine NotOwned.blk (by omega) ?_; exact NotOwned.nil
          apply oas; rfl; rfl
          apply OL.nil
          with_reducible apply At.in_normal
          with_reducible apply At.next
          apply W.seq
          apply W.reg
          apply omv; rfl; rfl
          apply omv; rfl; rfl
          (((first | (with_reducible apply OL.op) | (with_reducible apply QL.op)); ((first | exact Guard.none | exact Guard.yes rfl rfl | exact Guard.no rfl rfl | exact Guard.cyes rfl rfl | exact Guard.cno rfl rfl)); rfl; rfl); (apply Pev.callv (first := []) (cap := caps)); rfl; ((first | exact fun _ => rfl | exact fun h => h | (intro h; simp_all; done))); (exact hcall); ((repeat (first | exact Args.nil | (apply Args.cons rfl; ((first | exact fun _ => rfl | exact fun h => h | (intro h; simp_all; done))))))); (exact (fun _ w3 hw3 => (hgo x w3 ((hw3.toExt (by (repeat (first | exact List.Mem.head _ | apply List.Mem.tail))) (fun k hk => by (focus ((try simp only [add_block]); (repeat (first | exact NotOwned.nil | exact hno _ (by omega) | refine NotOwned.nothing ?_ | refine NotOwned.nds (hlow _ (by omega)) ?_ | refine NotOwned.mapS (by omega) ?_ | apply NotOwned.bif | refine NotOwned.blk (by omega) ?_ | refine NotOwned.row (by omega) ?_ | refine NotOwned.grid (by assumption) (by omega) ?_)); done)))).mono fun _ _ h => h.elim)).mono (fun e w4 h => ⟨h.1, hw3.ext h.2⟩))))
          apply OL.op; exact Guard.none; rfl; rfl; apply Pev.not; rfl; exact yes
          apply OL.nil
          with_reducible apply At.next
          refine W.cond rfl (fun hb => ?_) (fun hb => ?_)
          · apply W.seq
            apply W.reg
            apply oas; rfl; rfl
            apply OL.nil
            with_reducible apply At.next
            apply W.ret
            with_reducible apply At.in_ret
            with_reducible apply At.then_ret
            with_reducible apply At.then_ret
            with_reducible apply At.in_ret
            with_reducible apply At.then_ret
            ((with_reducible apply At.fin1); rfl; rfl; intro w' hw')
            simp only [Bool.not_eq_true'] at hb
            rw [hb] at hrest
            exact ⟨by rw [← hrest]; rfl, by (exact hw'.toExt (by (repeat (first | exact List.Mem.head _ | apply List.Mem.tail))) (fun k hk => by (focus ((try simp only [add_block]); (repeat (first | exact NotOwned.nil | exact hno _ (by omega) | refine NotOwned.nothing ?_ | refine NotOwned.nds (hlow _ (by omega)) ?_ | refine NotOwned.mapS (by omega) ?_ | apply NotOwned.bif | refine NotOwned.blk (by omega) ?_ | refine NotOwned.row (by omega) ?_ | refine NotOwned.grid (by assumption) (by omega) ?_)); done))))⟩
          · simp only [Bool.not_eq_false'] at hb
            rw [hb] at hrest
            apply W.skip
            with_reducible apply At.in_normal
            with_reducible apply At.next
            apply W.reg
            apply obn; rfl; rfl; rfl; apply Bin.add_in; omega
            apply omv; rfl; rfl
            apply OL.nil
            exact At.again (i + 1) ⟨by omega, by simpa using hrest⟩ (by omega) (by (repeat (first | exact Sub.nil | apply Sub.cons rfl | (refine Sub.cons_eq rfl (congrArg (Value.int .i64) (by first | omega | (simp only; omega))) ?_)))) (fun w' hw' => hw')
        · have hpk : pickS s (innerS s l) i = s.between := by unfold pickS; rw [if_neg (by omega), if_neg (by omega)]
          rw [hpk] at hrest
          apply W.skip
          with_reducible apply At.in_normal
          with_reducible apply At.next
          apply W.seq
          apply W.reg
          apply omv; rfl; rfl
          apply omv; rfl; rfl
          (((first | (with_reducible apply OL.op) | (with_reducible apply QL.op)); ((first | exact Guard.none | exact Guard.yes rfl rfl | exact Guard.no rfl rfl | exact Guard.cyes rfl rfl | exact Guard.cno rfl rfl)); rfl; rfl); (apply Pev.callv (first := []) (cap := capb)); rfl; ((first | exact fun _ => rfl | exact fun h => h | (intro h; simp_all; done))); (exact hcb); ((repeat (first | exact Args.nil | (apply Args.cons rfl; ((first | exact fun _ => rfl | exact fun h => h | (intro h; simp_all; done))))))); (exact (fun _ w3 hw3 => (hgb x w3 ((hw3.toExt (by (repeat (first | exact List.Mem.head _ | apply List.Mem.tail))) (fun k hk => by (focus ((try simp only [add_block]); (repeat (first | exact NotOwned.nil | exact hno _ (by omega) | refine NotOwned.nothing ?_ | refine NotOwned.nds (hlow _ (by omega)) ?_ | refine NotOwned.mapS (by omega) ?_ | apply NotOwned.bif | refine NotOwned.blk (by omega) ?_ | refine NotOwned.row (by omega) ?_ | refine NotOwned.grid (by assumption) (by omega) ?_)); done)))).mono fun _ _ h => h.elim)).mono (fun e w4 h => ⟨h.1, hw3.ext h.2⟩))))
          apply OL.op; exact Guard.none; rfl; rfl; apply Pev.not; rfl; exact yes
          apply OL.nil
          with_reducible apply At.next
          refine W.cond rfl (fun hb => ?_) (fun hb => ?_)
          · apply W.seq
            apply W.reg
            apply oas; rfl; rfl
            apply OL.nil
            with_reducible apply At.next
            apply W.ret
            with_reducible apply At.in_ret
            with_reducible apply At.then_ret
            with_reducible apply At.then_ret
            with_reducible apply At.in_ret
            with_reducible apply At.then_ret
            ((with_reducible apply At.fin1); rfl; rfl; intro w' hw')
            simp only [Bool.not_eq_true'] at hb
            rw [hb] at hrest
            exact ⟨by rw [← hrest]; rfl, by (exact hw'.toExt (by (repeat (first | exact List.Mem.head _ | apply List.Mem.tail))) (fun k hk => by (focus ((try simp only [add_block]); (repeat (first | exact NotOwned.nil | exact hno _ (by omega) | refine NotOwned.nothing ?_ | refine NotOwned.nds (hlow _ (by omega)) ?_ | refine NotOwned.mapS (by omega) ?_ | apply NotOwned.bif | refine NotOwned.blk (by omega) ?_ | refine NotOwned.row (by omega) ?_ | refine NotOwned.grid (by assumption) (by omega) ?_)); done))))⟩
          · simp only [Bool.not_eq_false'] at hb
            rw [hb] at hrest
            apply W.skip
            with_reducible apply At.in_normal
            with_reducible apply At.next
            apply W.reg
            apply obn; rfl; rfl; rfl; apply Bin.add_in; omega
            apply omv; rfl; rfl
            apply OL.nil
            exact At.again (i + 1) ⟨by omega, by simpa using hrest⟩ (by omega) (by (repeat (first | exact Sub.nil | apply Sub.cons rfl | (refine Sub.cons_eq rfl (congrArg (Value.int .i64) (by first | omega | (simp only; omega))) ?_)))) (fun w' hw' => hw')
    · rw [allI_end (by omega)] at hrest
      apply W.exit
      with_reducible apply At.then_exit
      with_reducible apply At.then_exit
      with_reducible apply At.in_exit
      with_reducible apply At.next
      apply W.seq
      apply W.reg
      apply oas; rfl; rfl
      apply OL.nil
      with_reducible apply At.next
      apply W.ret
      ((with_reducible apply At.fin1); rfl; rfl; intro w' hw')
      exact ⟨by rw [← hrest], by (exact hw'.toExt (by (repeat (first | exact List.Mem.head _ | apply List.Mem.tail))) (fun k hk => by (focus ((try simp only [add_block]); (repeat (first | exact NotOwned.nil | exact hno _ (by omega) | refine NotOwned.nothing ?_ | refine NotOwned.nds (hlow _ (by omega)) ?_ | refine NotOwned.mapS (by omega) ?_ | apply NotOwned.bif | refine NotOwned.blk (by omega) ?_ | refine NotOwned.row (by omega) ?_ | refine NotOwned.grid (by assumption) (by omega) ?_)); done))))⟩
  · obtain ⟨a1, rfl⟩ : ∃ a1, q1 = some a1 := by
      cases q1 with
      | none => exact absurd (hn.1 rfl) hg
      | some a1 => exact ⟨a1, rfl⟩
    have e : fitP k l = groupedP k l := by unfold fitP; rw [if_neg h24, if_neg hg]
    rw [e]
    apply omv; rfl; rfl
    apply oex; rfl; rfl; rfl
    apply oex; rfl; rfl; rfl
    apply oas; rfl; rfl
    apply oas; rfl; rfl
    apply OL.nil
    with_reducible apply At.next
    apply W.seq
    apply W.reg
    apply omv; rfl; rfl
    apply obn; rfl; rfl; rfl; apply Bin.slice_nnil; rfl
    apply OL.nil
    with_reducible apply At.next
    (refine W.cond rfl (fun hc => ?_) (fun hc => ?_)) <;> (try (simp only [Bool.and_eq_true, Bool.or_eq_true, Bool.not_eq_true', Bool.and_eq_false_iff, Bool.or_eq_false_iff, Bool.not_eq_false', decide_eq_true_eq, decide_eq_false_iff_not, Int.not_lt, Int.not_le] at hc)) <;> (try (exfalso; first | omega | exact hc trivial | contradiction))
    apply W.seq
    apply W.reg
    apply omv; rfl; rfl
    apply omv; rfl; rfl
    (((first | (with_reducible apply OL.op) | (with_reducible apply QL.op)); ((first | exact Guard.none | exact Guard.yes rfl rfl | exact Guard.no rfl rfl | exact Guard.cyes rfl rfl | exact Guard.cno rfl rfl)); rfl; rfl); (exact Pev.call rfl (by (repeat (first | exact Args.nil | (apply Args.cons rfl; ((first | exact fun _ => rfl | exact fun h => h | (intro h; simp_all; done))))))) (fun _ w2 hw2 => (grouped_calls k q cap l w2 (by omega) (h.keep (hw2.below (s := w) (by (repeat (first | exact List.Mem.head _ | apply List.Mem.tail))) (Nat.le_refl _) (fun k hk => by (focus ((try simp only [add_block]); (repeat (first | exact NotOwned.nil | exact hno _ (by omega) | refine NotOwned.nothing ?_ | refine NotOwned.nds (hlow _ (by omega)) ?_ | refine NotOwned.mapS (by omega) ?_ | apply NotOwned.bif | refine NotOwned.blk (by omega) ?_ | refine NotOwned.row (by omega) ?_ | refine NotOwned.grid (by assumption) (by omega) ?_)); done)))) (hw2.kp w (by (repeat (first | exact List.Mem.head _ | apply List.Mem.tail)))).size)).mono (fun e w3 h => ⟨h.1, hw2.ext h.2⟩))))
    apply oas; rfl; rfl
    apply OL.nil
    with_reducible apply At.next
    apply W.ret
    with_reducible apply At.then_ret
    ((with_reducible apply At.fin1); rfl; rfl; intro w' hw')
    exact ⟨rfl, by (exact hw'.toExt (by (repeat (first | exact List.Mem.head _ | apply List.Mem.tail))) (fun k hk => by (focus ((try simp only [add_block]); (repeat (first | exact NotOwned.nil | exact hno _ (by omega) | refine NotOwned.nothing ?_ | refine NotOwned.nds (hlow _ (by omega)) ?_ | refine NotOwned.mapS (by omega) ?_ | apply NotOwned.bif | refine NotOwned.blk (by omega) ?_ | refine NotOwned.row (by omega) ?_ | refine NotOwned.grid (by assumption) (by omega) ?_)); done))))⟩
end Go.Proofs.Ytlcclcakdfmgkaa.pk
