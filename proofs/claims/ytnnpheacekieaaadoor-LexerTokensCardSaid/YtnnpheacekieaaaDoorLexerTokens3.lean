/- Texts of the proof of LexerTokens, part 3: rules of a calculus for walking, plain laws, and walks of the functions that the law reaches. No condition. -/
import Derived.Shelf.Strings.SlTrimAscii
import Derived.Shelf.Strings.Trim
import Derived.Shelf.Strings.Count
import Derived.Laws.StructEq
import Derived.SizedLaws
import Derived.Test.YtnnpheacekieaaaDoorLexerTokens2
set_option linter.unusedVariables false
set_option linter.unusedSimpArgs false
set_option linter.unusedSectionVars false
/- The walk of the lexer's step. Condition: the variable bytealg.MaxLen holds some int. -/
namespace Go.Proofs.YtnnpheacekieaaaDoor.lt
open Go.RowKit Go.Eng Go.Lt Go.Sp
set_option maxRecDepth 100000
theorem nonl_calls (c : UInt8) (w : World) : Calls Tryd.prog 26 #[.int .u8 (c.toNat : Int)] w fun e w' => e = .returned (.bool (notNl c)) ∧ Ext w w' := by
  refine enter Tryd.func26 rfl Tryd.ntmps26 rfl (Cls.start w) ?_
  (simp only [argEnv, Nat.zero_add, Nat.reduceAdd])
  apply W.sr
  apply oas; rfl; rfl
  apply OL.nsr
  apply omv; rfl; rfl
  apply obn; rfl; rfl; rfl; apply Bin.neq
  apply oas; rfl; rfl
  apply OL.nx
  apply W.ret
  ((with_reducible apply At.fin1); rfl; rfl; intro w' hw')
  refine ⟨congrArg (fun b => Ending.returned (Value.bool b)) ?_, by (exact hw'.fr)⟩
  unfold notNl
  have : c.toNat = 10 ↔ c = 10 := ⟨fun h => UInt8.toNat_inj.1 (by rw [h]; rfl), fun h => by rw [h]; rfl⟩
  by_cases h : c = 10
  · subst h
    rfl
  · have h2 : ¬ (c.toNat : Int) = 10 := by
      have := mt this.1 h
      omega
    simp [h, h2]
theorem runS_calls (bx : Nat) (s : ByteArray) (g : SS) (s0 w : World) (hs : s.size ≤ 8192) (hat : g.at_ ≤ s.size) (hw : Cls (ssI s0.heap.size bx s g) [s0] w) (fid : FuncId) (p : UInt8 → Bool) (hf : callable Tryd.prog fid = true) (hp : ∀ (c : UInt8) w', Calls Tryd.prog fid #[Value.int .u8 (c.toNat : Int)] w' fun e w'' => e = .returned (.bool (p c)) ∧ Ext w' w'') (l : Bs) (hr : s.data.toList.drop g.at_ = l) :
    Calls Tryd.prog 18 #[.pointer (some ⟨bx, 0, none⟩), .func (.func fid) #[] #[]] w fun e w' => e = .returned (.string ⟨(l.takeWhile p).toArray⟩) ∧ Ext w w' := by
  have hte : s.extract g.at_ (g.at_ + twL p s g.at_) = ⟨(l.takeWhile p).toArray⟩ := by
    apply ByteArray.ext
    apply Array.toList_inj.1
    rw [ext_tw, hr]
  have i0 := hw.item (i := blk bx 39 [.string s, .int .i64 (g.at_ : Int), .int .i64 g.line, .int .i64 g.col, .slice g.q1 g.toks.length g.c1, .slice g.q2 g.bads.length g.c2]) (.head _)
  exact (run_calls bx s g.at_ fid p w hs hat (blk_lt i0) (blk_cell i0) (blk_cell i0) hf (fun c w' _ => by simp only [List.nil_append, List.append_nil]; exact hp c w')).mono (fun e w3 h => ⟨by rw [h.1, hte], h.2⟩)
theorem dw_nil {p : UInt8 → Bool} : ∀ {l : List UInt8}, l.dropWhile p = [] ↔ ∀ b ∈ l, p b = true
  | [] => by simp
  | a :: l => by
    rw [List.dropWhile_cons]
    by_cases h : p a = true
    · rw [if_pos h, dw_nil]
      simp [h]
    · rw [if_neg h]
      simp [h]
theorem trim_nil (l : List UInt8) : Lib.trimB l 45 = [] ↔ ∀ b ∈ l, b = 45 := by
  unfold Lib.trimB Lib.trimLeftB Lib.trimRightB
  rw [dw_nil]
  constructor
  · intro h
    have h1 : l.reverse.dropWhile (fun b => b == (45 : UInt8)) = [] := by
      cases hd : l.reverse.dropWhile (fun b => b == (45 : UInt8)) with
      | nil => rfl
      | cons a r =>
        have h2 := List.head?_dropWhile_not (fun b => b == (45 : UInt8)) l.reverse
        rw [hd] at h2 h
        have h3 := h a (by simp)
        simp at h2 h3
        exact absurd h3 h2
    rw [dw_nil] at h1
    intro b hb
    simpa using h1 b (by simpa using hb)
  · intro h b hb
    rw [List.mem_reverse] at hb
    have := (List.dropWhile_suffix (fun b => b == (45 : UInt8))).mem hb
    rw [List.mem_reverse] at this
    simp [h b this]
theorem trim_all (l : List UInt8) : decide ((⟨(Lib.trimB l 45).toArray⟩ : ByteArray) = ⟨#[]⟩) = l.all fun b => decide (b = 45) := by
  rw [Bool.eq_iff_iff, decide_eq_true_eq, List.all_eq_true]
  constructor
  · intro h b hb
    have h1 : Lib.trimB l 45 = [] := by simpa using congrArg (fun x : ByteArray => x.data.toList) h
    exact decide_eq_true ((trim_nil l).1 h1 b hb)
  · intro h
    have h1 : Lib.trimB l 45 = [] := (trim_nil l).2 fun b hb => of_decide_eq_true (h b hb)
    rw [h1]
theorem trim_calls (t : ByteArray) (w : World) (ht : t.size ≤ 9223372036854775807) : Calls Tryd.prog 25 #[.string t, .string ⟨#[45]⟩] w fun e w' => e = .returned (.string ⟨(Lib.trimB t.data.toList 45).toArray⟩) ∧ Ext w w' :=
  (Any.strings_Trim_one Tryd.lays160 t 45 (by decide) w ht).mono fun e w' h => ⟨h.1, by
    rcases h.2 with h | h
    · rw [h]; exact Ext.of_below ⟨rfl, rfl, rfl, Nat.le_refl _, fun k hk => rfl⟩
    · rw [h]; exact Ext.of_below ⟨rfl, rfl, rfl, Nat.le_refl _, fun k hk => rfl⟩⟩
theorem bs_size (l : Bs) : (⟨l.toArray⟩ : ByteArray).size = l.length := rfl
theorem bs_list (l : Bs) : (⟨l.toArray⟩ : ByteArray).data.toList = l := rfl
theorem tw_len {s : ByteArray} {k : Nat} {l : Bs} (hk : k ≤ s.size) (hr : s.data.toList.drop k = l) (p : UInt8 → Bool) : k + (l.takeWhile p).length ≤ s.size := by
  have := tw_bound p s k hk
  unfold twL at this
  rwa [hr] at this
theorem stepNl_calls (bx : Nat) (s : ByteArray) (g : SS) (s0 w : World) (hm : lk.maxAt s0) (hbx : s0.heap.size ≤ bx) (hs : s.size ≤ 8192) (hat : g.at_ < s.size) (hl : g.toks.length ≤ 10000) (hl2 : g.bads.length ≤ 10000) (h2 : 0 ≤ g.col ∧ g.col ≤ 1000000) (h3 : 0 ≤ g.line ∧ g.line ≤ 1000000) (hw : Cls (ssI s0.heap.size bx s g) [s0] w) (c : UInt8) (r : Bs) (hr : s.data.toList.drop g.at_ = c :: r) (hb : c = 10) :
    Calls Tryd.prog 10 #[.pointer (some ⟨bx, 0, none⟩)] w fun e w' => e = .returned (.tuple #[]) ∧ Cls (ssI s0.heap.size bx s { g with at_ := g.at_ + 1, line := g.line + 1, col := 1 }) [s0] w' := by
  refine enter Tryd.func10 rfl Tryd.ntmps10 rfl hw ?_
  have hbt : bt s g.at_ = (c.toNat : Int) := by
    obtain ⟨c', h1, h2⟩ := bt_get hat
    have h4 : s.data.toList[g.at_]? = some c := by
      have := congrArg (fun l : Bs => l[0]?) hr
      simpa [List.getElem?_drop] using this
    rw [h4] at h1
    rw [h2, Option.some.inj h1]
  have hc10 : c = 10 ↔ (c.toNat : Int) = 10 := ⟨fun h => by rw [h]; rfl, fun h => UInt8.toNat_inj.1 (show c.toNat = 10 by omega)⟩
  have hc32 : c = 32 ↔ (c.toNat : Int) = 32 := ⟨fun h => by rw [h]; rfl, fun h => UInt8.toNat_inj.1 (show c.toNat = 32 by omega)⟩
  unfold ssI
  (simp only [argEnv, Nat.zero_add, Nat.reduceAdd])
  apply W.seq
  apply W.regd0; decide +kernel; kernel_rfl; decide +kernel; exact fun w hw => hw.drew
  apply qmv; rfl; rfl
  apply qop; rfl; apply Pev.nil_ptr; rfl; exact yes
  apply qfa; rfl; rfl; rfl
  apply qld; rfl; rfl; exact .head _; rfl; rfl
  apply qmv; rfl; rfl
  apply qop; rfl; apply Pev.nil_ptr; rfl; exact yes
  apply qfa; rfl; rfl; rfl
  apply qld; rfl; rfl; exact .head _; rfl; rfl
  apply qop; rfl; apply Pev.index_str; rfl; exact yes; rfl; exact yes; rfl; (intro hcond; refine ⟨rfl, ?_⟩); omega
  apply qas; rfl; rfl
  apply QL.nil
  with_reducible apply At.next
  apply W.block
  apply W.sr
  apply omv; rfl; rfl
  apply obn; rfl; rfl; rfl; apply Bin.eql
  apply oas; rfl; rfl
  apply OL.nx
  rw [hbt]
  refine W.cond rfl (fun _ => ?_) (fun hn => by simp [hc10.1 hb] at hn)
  apply W.regz; apply ZSplit.pure rfl; apply ZSplit.pure rfl; apply ZSplit.pure rfl; apply ZSplit.pure rfl; apply ZSplit.pure rfl; apply ZSplit.pure rfl; apply ZSplit.pure rfl; apply ZSplit.pure rfl; apply ZSplit.pure rfl; apply ZSplit.pure rfl; apply ZSplit.pure rfl; apply ZSplit.pure rfl; apply ZSplit.pure rfl; apply ZSplit.pure rfl; apply ZSplit.pure rfl; apply ZSplit.tail; apply ZSplit.tail; apply ZSplit.tail; apply ZSplit.tail; apply ZSplit.tail; apply ZSplit.tail; apply ZSplit.tail; exact ZSplit.nil; kernel_rfl; decide +kernel; exact fun w hw => hw.drew
  apply ZL.op rfl; exact Guard.none; rfl; rfl; apply Pev.move; rfl; exact yes
  apply ZL.op rfl; exact Guard.none; rfl; rfl; apply Pev.move; rfl; exact yes
  apply ZL.op rfl; exact Guard.none; rfl; rfl; apply Pev.move; rfl; exact yes
  apply ZL.op rfl; exact Guard.none; rfl; rfl; apply Pev.move; rfl; exact yes
  apply ZL.op rfl; exact Guard.none; rfl; rfl; apply Pev.nil_ptr; rfl; exact yes
  apply ZL.op rfl; exact Guard.none; rfl; rfl; apply Pev.fld; rfl; exact yes; rfl
  apply ZL.ld rfl; exact Guard.none; rfl; rfl; apply Pev.load_blk; rfl; exact yes; exact .head _; rfl; rfl
  apply ZL.op rfl; exact Guard.none; rfl; rfl; apply Pev.bin; rfl; exact yes; rfl; exact yes; intro hcond; apply Bin.add_in; omega
  apply ZL.op rfl; exact Guard.none; rfl; rfl; apply Pev.move; rfl; exact yes
  apply ZL.op rfl; exact Guard.none; rfl; rfl; apply Pev.nil_ptr; rfl; exact yes
  apply ZL.op rfl; exact Guard.none; rfl; rfl; apply Pev.fld; rfl; exact yes; rfl
  apply ZL.ld rfl; exact Guard.none; rfl; rfl; apply Pev.load_blk; rfl; exact yes; exact .head _; rfl; rfl
  apply ZL.op rfl; exact Guard.none; rfl; rfl; apply Pev.bin; rfl; exact yes; rfl; exact yes; intro hcond; apply Bin.add_in; omega
  apply ZL.op rfl; exact Guard.none; rfl; rfl; apply Pev.nil_ptr; rfl; exact yes
  apply ZL.op rfl; exact Guard.none; rfl; rfl; apply Pev.fld; rfl; exact yes; rfl
  apply ZL.nil
  apply TL.one rfl
  apply OL.storeB; rfl; rfl; exact CellsL.one rfl; rfl; rfl; rfl; exact Swap.au; exact Put.au
  apply OL.nil
  with_reducible apply At.tn; decide +kernel
  apply TL.one rfl
  apply oop; rfl; apply Pev.nil_ptr; rfl; exact yes
  apply OL.nil
  with_reducible apply At.tn; decide +kernel
  apply TL.one rfl
  apply ofa; rfl; rfl; rfl
  apply OL.nil
  with_reducible apply At.tn; decide +kernel
  apply TL.one rfl
  apply OL.storeB; rfl; rfl; exact CellsL.one rfl; rfl; rfl; rfl; exact Swap.au; exact Put.au
  apply OL.nil
  with_reducible apply At.tn; decide +kernel
  apply TL.one rfl
  apply oop; rfl; apply Pev.nil_ptr; rfl; exact yes
  apply OL.nil
  with_reducible apply At.tn; decide +kernel
  apply TL.one rfl
  apply ofa; rfl; rfl; rfl
  apply OL.nil
  with_reducible apply At.tn; decide +kernel
  apply TL.one rfl
  apply OL.storeB; rfl; rfl; exact CellsL.one rfl; rfl; rfl; rfl; exact Swap.au; exact Put.au
  apply OL.nil
  with_reducible apply At.tn; decide +kernel
  apply TL.nil
  with_reducible apply At.np
  with_reducible apply At.in_normal
  refine At.end_ (At.fin0 rfl (fun w' hw' => ⟨rfl, ?_⟩))
  rw [Int.natCast_add]
  exact hw'
theorem step_calls (bx : Nat) (s : ByteArray) (g : SS) (s0 w : World) (hm : lk.maxAt s0) (hbx : s0.heap.size ≤ bx) (hs : s.size ≤ 8192) (hat : g.at_ < s.size) (hl : g.toks.length ≤ 10000) (hl2 : g.bads.length ≤ 10000) (h2 : 0 ≤ g.col ∧ g.col ≤ 1000000) (h3 : 0 ≤ g.line ∧ g.line ≤ 1000000) (hw : Cls (ssI s0.heap.size bx s g) [s0] w) (c : UInt8) (r : Bs) (hr : s.data.toList.drop g.at_ = c :: r) (hn10 : ¬ c = 10) (st : Nat × List Tok × List Bad) (hst : Lt.stepT Kw.kw true c r g.line g.col = st) :
    Calls Tryd.prog 10 #[.pointer (some ⟨bx, 0, none⟩)] w fun e w' => e = .returned (.tuple #[]) ∧ ∃ O1 q1 c1 O2 q2 c2, Cls (ssI s0.heap.size bx s { g with at_ := g.at_ + st.1, col := g.col + (st.1 : Int), toks := g.toks ++ st.2.1, bads := g.bads ++ st.2.2, O1 := O1, q1 := q1, c1 := c1, O2 := O2, q2 := q2, c2 := c2 }) [s0] w' := by
  refine enter Tryd.func10 rfl Tryd.ntmps10 rfl hw ?_
  have hbt : bt s g.at_ = (c.toNat : Int) := by
    obtain ⟨c', h1, h2⟩ := bt_get hat
    have h4 : s.data.toList[g.at_]? = some c := by
      have := congrArg (fun l : Bs => l[0]?) hr
      simpa [List.getElem?_drop] using this
    rw [h4] at h1
    rw [h2, Option.some.inj h1]
  have hc10 : c = 10 ↔ (c.toNat : Int) = 10 := ⟨fun h => by rw [h]; rfl, fun h => UInt8.toNat_inj.1 (show c.toNat = 10 by omega)⟩
  have hc32 : c = 32 ↔ (c.toNat : Int) = 32 := ⟨fun h => by rw [h]; rfl, fun h => UInt8.toNat_inj.1 (show c.toNat = 32 by omega)⟩
  unfold Lt.stepT at hst
  unfold ssI
  (simp only [argEnv, Nat.zero_add, Nat.reduceAdd])
  apply W.seq
  apply W.regd0; decide +kernel; kernel_rfl; decide +kernel; exact fun w hw => hw.drew
  apply qmv; rfl; rfl
  apply qop; rfl; apply Pev.nil_ptr; rfl; exact yes
  apply qfa; rfl; rfl; rfl
  apply qld; rfl; rfl; exact .head _; rfl; rfl
  apply qmv; rfl; rfl
  apply qop; rfl; apply Pev.nil_ptr; rfl; exact yes
  apply qfa; rfl; rfl; rfl
  apply qld; rfl; rfl; exact .head _; rfl; rfl
  apply qop; rfl; apply Pev.index_str; rfl; exact yes; rfl; exact yes; rfl; (intro hcond; refine ⟨rfl, ?_⟩); omega
  apply qas; rfl; rfl
  apply QL.nil
  with_reducible apply At.next
  apply W.block
  apply W.sr
  apply omv; rfl; rfl
  apply obn; rfl; rfl; rfl; apply Bin.eql
  apply oas; rfl; rfl
  apply OL.nx
  rw [hbt]
  refine W.cls (C' := Cls (ssI s0.heap.size bx s g) [s0]) (fun w' hw' => hw') ?_
  refine W.cond rfl (fun hb => absurd (hc10.2 (by simpa using hb)) hn10) (fun hb => ?_)
  apply W.sr
  apply omv; rfl; rfl
  apply obn; rfl; rfl; rfl; apply Bin.eql
  apply oas; rfl; rfl
  apply OL.nx
  refine W.cond rfl (fun hb => ?_) (fun hb => ?_)
  · rw [if_pos (hc32.2 (by simpa using hb))] at hst
    subst hst
    apply W.reg
    apply omv; rfl; rfl
    refine OL.callE (α := Unit) (fun _ => .tuple #[]) (fun _ => True) (fun _ => Cls (ssI s0.heap.size bx s { g with at_ := g.at_ + 1, col := g.col + ((1 : Nat) : Int) }) [s0]) rfl rfl (by exact Args.au) (fun w2 hw2 => (skip_calls bx s g 1 s0 w2 hbx (by omega) h2 hw2).mono fun e w3 h => ⟨(), h.1, trivial, h.2⟩) ?_
    intro _ _
    apply OL.nil
    with_reducible apply At.in_normal
    refine At.end_ (At.fin0 rfl (fun w' hw' => ⟨rfl, g.O1, g.q1, g.c1, g.O2, g.q2, g.c2, ?_⟩))
    simp only [List.append_nil]
    exact hw'
  have hn32 : ¬ c = 32 := fun h => by simp [hc32.1 h] at hb
  rw [if_neg hn32] at hst
  have hbi := tw_len (Nat.le_of_lt hat) hr inner
  apply W.sr
  apply omv; rfl; rfl
  (((first | (with_reducible apply OL.op) | (with_reducible apply QL.op)); (exact Guard.au); rfl; rfl); (exact Pev.call (v := .bool (Lt.small c)) rfl (by exact Args.au) (fun _ w2 hw2 => (small_calls c w2).mono (fun e w3 h => ⟨h.1, hw2.ext h.2⟩))))
  apply oas; rfl; rfl
  apply OL.nx
  refine W.cond rfl (fun hb => ?_) (fun hb => ?_)
  · rw [if_pos hb] at hst
    subst hst
    apply W.reg
    apply omv; rfl; rfl
    apply omv; rfl; rfl
    (((first | (with_reducible apply OL.op) | (with_reducible apply QL.op)); (exact Guard.au); rfl; rfl); (exact Pev.call (v := .string ⟨((c :: r).takeWhile inner).toArray⟩) rfl (by exact Args.au) (fun _ w2 hw2 => (runS_calls bx s g s0 w2 hs (Nat.le_of_lt hat) hw2 19 inner (by kernel_rfl) (fun c w' => inner_calls c w') (c :: r) hr).mono (fun e w3 h => ⟨h.1, hw2.ext h.2⟩))))
    skip
    refine OL.callE (α := (Nat → Prop) × Option Addr × Nat) (fun _ => .tuple #[]) (fun _ => True) (fun z => Cls (ssI s0.heap.size bx s { g with at_ := g.at_ + ((c :: r).takeWhile inner).length, col := g.col + (((c :: r).takeWhile inner).length : Int), toks := g.toks ++ [⟨if Kw.kw ((c :: r).takeWhile inner) then 4 else 0, (c :: r).takeWhile inner, 0, g.line, g.col⟩], O1 := z.1, q1 := z.2.1, c1 := z.2.2 }) [s0]) rfl rfl (by exact Args.au) (fun w2 hw2 => (word_calls bx s g 0 ⟨((c :: r).takeWhile inner).toArray⟩ s0 w2 hm hbx hl (by rw [bs_size]; omega) (by rw [bs_size]; omega) h2 hw2).mono fun e w3 ⟨h, O1, q1, c1, h3⟩ => ⟨(O1, q1, c1), h, trivial, h3⟩) ?_
    rintro ⟨O1, q1, c1⟩ _
    apply OL.nil
    with_reducible apply At.in_normal
    refine At.end_ (At.fin0 rfl (fun w' hw' => ⟨rfl, O1, q1, c1, g.O2, g.q2, g.c2, ?_⟩))
    simp only [List.append_nil]
    exact hw'
  rw [hb, if_neg (by decide)] at hst
  apply W.sr
  apply omv; rfl; rfl
  (((first | (with_reducible apply OL.op) | (with_reducible apply QL.op)); (exact Guard.au); rfl; rfl); (exact Pev.call (v := .bool (Lt.large c)) rfl (by exact Args.au) (fun _ w2 hw2 => (large_calls c w2).mono (fun e w3 h => ⟨h.1, hw2.ext h.2⟩))))
  apply oas; rfl; rfl
  apply OL.nx
  refine W.cond rfl (fun hb => ?_) (fun hb => ?_)
  · rw [if_pos hb] at hst
    subst hst
    apply W.reg
    apply omv; rfl; rfl
    apply omv; rfl; rfl
    (((first | (with_reducible apply OL.op) | (with_reducible apply QL.op)); (exact Guard.au); rfl; rfl); (exact Pev.call (v := .string ⟨((c :: r).takeWhile inner).toArray⟩) rfl (by exact Args.au) (fun _ w2 hw2 => (runS_calls bx s g s0 w2 hs (Nat.le_of_lt hat) hw2 19 inner (by kernel_rfl) (fun c w' => inner_calls c w') (c :: r) hr).mono (fun e w3 h => ⟨h.1, hw2.ext h.2⟩))))
    skip
    refine OL.callE (α := (Nat → Prop) × Option Addr × Nat) (fun _ => .tuple #[]) (fun _ => True) (fun z => Cls (ssI s0.heap.size bx s { g with at_ := g.at_ + ((c :: r).takeWhile inner).length, col := g.col + (((c :: r).takeWhile inner).length : Int), toks := g.toks ++ [⟨1, (c :: r).takeWhile inner, 0, g.line, g.col⟩], O1 := z.1, q1 := z.2.1, c1 := z.2.2 }) [s0]) rfl rfl (by exact Args.au) (fun w2 hw2 => (put_calls bx s g 1 0 ⟨((c :: r).takeWhile inner).toArray⟩ s0 w2 hbx hl (by rw [bs_size]; omega) (by rw [bs_size]; omega) h2 hw2).mono fun e w3 ⟨h, O1, q1, c1, h3⟩ => ⟨(O1, q1, c1), h, trivial, h3⟩) ?_
    rintro ⟨O1, q1, c1⟩ _
    apply OL.nil
    with_reducible apply At.in_normal
    refine At.end_ (At.fin0 rfl (fun w' hw' => ⟨rfl, O1, q1, c1, g.O2, g.q2, g.c2, ?_⟩))
    simp only [List.append_nil]
    exact hw'
  rw [hb, if_neg (by decide)] at hst
  apply W.sr
  apply omv; rfl; rfl
  (((first | (with_reducible apply OL.op) | (with_reducible apply QL.op)); (exact Guard.au); rfl; rfl); (exact Pev.call (v := .bool (Lt.digit c)) rfl (by exact Args.au) (fun _ w2 hw2 => (digit_calls c w2).mono (fun e w3 h => ⟨h.1, hw2.ext h.2⟩))))
  apply oas; rfl; rfl
  apply OL.nx
  have hbd := tw_len (Nat.le_of_lt hat) hr Lt.digit
  refine W.cond rfl (fun hb => ?_) (fun hb => ?_)
  · rw [if_pos hb] at hst
    simp only [Bool.and_true] at hst
    subst hst
    apply W.reg
    apply omv; rfl; rfl
    refine OL.callE (α := ((Nat → Prop) × Option Addr × Nat) × ((Nat → Prop) × Option Addr × Nat)) (fun _ => .tuple #[]) (fun _ => True) (fun z => Cls (ssI s0.heap.size bx s { g with at_ := g.at_ + ((c :: r).takeWhile Lt.digit).length, col := g.col + (((c :: r).takeWhile Lt.digit).length : Int), toks := g.toks ++ [⟨2, (c :: r).takeWhile Lt.digit, if big ((c :: r).takeWhile Lt.digit) then 0 else (numV ((c :: r).takeWhile Lt.digit) : Int), g.line, g.col⟩], bads := g.bads ++ (if big ((c :: r).takeWhile Lt.digit) then [⟨4, g.line, g.col⟩] else []), O1 := z.1.1, q1 := z.1.2.1, c1 := z.1.2.2, O2 := z.2.1, q2 := z.2.2.1, c2 := z.2.2.2 }) [s0]) rfl rfl (by exact Args.au) (fun w2 hw2 => (number_calls bx s g s0 w2 hbx hs (Nat.le_of_lt hat) hl hl2 h2 hw2 ((c :: r).takeWhile Lt.digit) (by rw [hr])).mono fun e w3 ⟨h, O1, q1, c1, O2, q2, c2, h3⟩ => ⟨((O1, q1, c1), (O2, q2, c2)), h, trivial, h3⟩) ?_
    rintro ⟨⟨O1, q1, c1⟩, O2, q2, c2⟩ _
    apply OL.nil
    with_reducible apply At.in_normal
    exact At.end_ (At.fin0 rfl (fun w' hw' => ⟨rfl, O1, q1, c1, O2, q2, c2, hw'⟩))
  rw [hb, if_neg (by decide)] at hst
  apply W.sr
  apply omv; rfl; rfl
  (((first | (with_reducible apply OL.op) | (with_reducible apply QL.op)); (exact Guard.au); rfl; rfl); (exact Pev.call (v := .int .i64 (Lib.indexByte punctL ((c.toNat : Int)).toNat.toUInt8)) rfl (by exact Args.au) (fun _ w2 hw2 => (lk.indexByte_calls ⟨punctL.toArray⟩ (c.toNat : Int) w2).mono (fun e w3 h => ⟨h.1, by rw [h.2]; exact hw2⟩))))
  apply obn; rfl; rfl; rfl; apply Bin.geq
  apply oas; rfl; rfl
  apply OL.nx
  rw [idx_mem punctL c]
  refine W.cond rfl (fun hb => ?_) (fun hb => ?_)
  · rw [if_pos (show Lt.punct c = true from hb)] at hst
    subst hst
    have hex : s.extract g.at_ (g.at_ + 1) = ⟨[c].toArray⟩ := by
      apply ByteArray.ext
      apply Array.toList_inj.1
      rw [ByteArray.data_extract, Array.toList_extract]
      simp only [List.extract_eq_take_drop]
      rw [Nat.add_sub_cancel_left, hr]
      rfl
    skip
    refine W.regn 15 (by (repeat (first | exact SplitN.z | apply SplitN.s))) (by kernel_rfl) (by decide +kernel) (fun w hw => hw.drew) ?_
    apply qmv; rfl; rfl
    apply qmv; rfl; rfl
    apply qop; rfl; apply Pev.nil_ptr; rfl; exact yes
    apply qfa; rfl; rfl; rfl
    apply qld; rfl; rfl; exact .head _; rfl; rfl
    apply qmv; rfl; rfl
    apply qop; rfl; apply Pev.nil_ptr; rfl; exact yes
    apply qfa; rfl; rfl; rfl
    apply qld; rfl; rfl; exact .head _; rfl; rfl
    apply qmv; rfl; rfl
    apply qop; rfl; apply Pev.nil_ptr; rfl; exact yes
    apply qfa; rfl; rfl; rfl
    apply qld; rfl; rfl; exact .head _; rfl; rfl
    apply qbn; rfl; rfl; rfl; apply Bin.add_in; omega
    (((first | (with_reducible apply OL.op) | (with_reducible apply QL.op)); (exact Guard.au); rfl; rfl); (refine Pev.slice_str g.at_ (g.at_ + 1) rfl (by (first | exact fun _ => rfl | exact fun h => h | (intro h; simp_all; done))) rfl (by (first | exact fun _ => rfl | exact fun h => h | (intro h; simp_all; done))) rfl (by (first | exact fun _ => rfl | exact fun h => h | (intro h; simp_all; done))) rfl (fun _ => ⟨rfl, rfl, by omega, by omega⟩)))
    rw [hex]
    with_reducible apply QL.tail
    refine OL.callE (α := (Nat → Prop) × Option Addr × Nat) (fun _ => .tuple #[]) (fun _ => True) (fun z => Cls (ssI s0.heap.size bx s { g with at_ := g.at_ + 1, col := g.col + ((1 : Nat) : Int), toks := g.toks ++ [⟨5, [c], 0, g.line, g.col⟩], O1 := z.1, q1 := z.2.1, c1 := z.2.2 }) [s0]) rfl rfl (by exact Args.au) (fun w2 hw2 => (put_calls bx s g 5 0 ⟨[c].toArray⟩ s0 w2 hbx hl (by rw [bs_size]; simp) (by rw [bs_size]; simp; omega) h2 hw2).mono fun e w3 ⟨h, O1, q1, c1, h3⟩ => ⟨(O1, q1, c1), h, trivial, h3⟩) ?_
    rintro ⟨O1, q1, c1⟩ _
    apply OL.nil
    with_reducible apply At.in_normal
    refine At.end_ (At.fin0 rfl (fun w' hw' => ⟨rfl, O1, q1, c1, g.O2, g.q2, g.c2, ?_⟩))
    simp only [List.append_nil]
    exact hw'
  rw [show Lt.punct c = false from hb, if_neg (by decide)] at hst
  apply W.sr
  apply omv; rfl; rfl
  (((first | (with_reducible apply OL.op) | (with_reducible apply QL.op)); (exact Guard.au); rfl; rfl); (exact Pev.call (v := .bool (Lt.mark c)) rfl (by exact Args.au) (fun _ w2 hw2 => (mark_calls c w2).mono (fun e w3 h => ⟨h.1, hw2.ext h.2⟩))))
  apply oas; rfl; rfl
  apply OL.nx
  refine W.cond rfl (fun hb => ?_) (fun hb => ?_)
  · rw [if_pos hb] at hst
    have hbm := tw_len (Nat.le_of_lt hat) hr Lt.mark
    have hbn := tw_len (Nat.le_of_lt hat) hr notNl
    apply W.sr
    apply omv; rfl; rfl
    (((first | (with_reducible apply OL.op) | (with_reducible apply QL.op)); (exact Guard.au); rfl; rfl); (exact Pev.call (v := .string ⟨((c :: r).takeWhile Lt.mark).toArray⟩) rfl (by exact Args.au) (fun _ w2 hw2 => (runS_calls bx s g s0 w2 hs (Nat.le_of_lt hat) hw2 24 Lt.mark (by kernel_rfl) (fun c w' => mark_calls c w') (c :: r) hr).mono (fun e w3 h => ⟨h.1, hw2.ext h.2⟩))))
    apply oas; rfl; rfl
    apply OL.nx
    apply W.seq
    apply W.sr
    apply omv; rfl; rfl
    apply oop; rfl; apply Pev.len_str; rfl; exact yes; rfl
    apply obn; rfl; rfl; rfl; apply Bin.gtr
    apply omv; rfl; rfl
    apply oy; rfl; rfl; rfl; apply Pev.move; rfl; exact yes
    (((first | (with_reducible apply OL.op) | (with_reducible apply QL.op)); (exact Guard.au); rfl; rfl); (exact Pev.call (v := .string ⟨(Lib.trimB ((c :: r).takeWhile Lt.mark) 45).toArray⟩) rfl (by exact Args.au) (fun _ w2 hw2 => (trim_calls ⟨((c :: r).takeWhile Lt.mark).toArray⟩ w2 (by rw [bs_size]; omega)).mono (fun e w3 h => ⟨h.1, hw2.ext h.2⟩))))
    apply oy; rfl; rfl; rfl; apply Pev.bin; rfl; exact fun h => h; rfl; exact yes; intro hcond; apply Bin.str_eql
    apply oop; rfl; apply Pev.pick_and; rfl; exact yes; rfl; exact fun h => h
    apply OL.nx
    have hcd : (decide ((1 : Int) < ((⟨((c :: r).takeWhile Lt.mark).toArray⟩ : ByteArray).size : Int)) && decide ((⟨(Lib.trimB ((c :: r).takeWhile Lt.mark) 45).toArray⟩ : ByteArray) = ⟨#[]⟩)) = decide (1 < ((c :: r).takeWhile Lt.mark).length ∧ ((c :: r).takeWhile Lt.mark).all (fun b => decide (b = 45)) = true) := by
      rw [trim_all, bs_size, Bool.decide_and, Bool.decide_eq_true]
      congr 1
      exact decide_eq_decide.2 (by omega)
    rw [hcd]
    refine W.cond rfl (fun hb2 => ?_) (fun hb2 => ?_)
    · rw [if_pos (of_decide_eq_true hb2)] at hst
      subst hst
      apply W.sr
      apply omv; rfl; rfl
      apply omv; rfl; rfl
      (((first | (with_reducible apply OL.op) | (with_reducible apply QL.op)); (exact Guard.au); rfl; rfl); (exact Pev.call (v := .string ⟨((c :: r).takeWhile notNl).toArray⟩) rfl (by exact Args.au) (fun _ w2 hw2 => (runS_calls bx s g s0 w2 hs (Nat.le_of_lt hat) hw2 26 notNl (by kernel_rfl) (fun c w' => nonl_calls c w') (c :: r) hr).mono (fun e w3 h => ⟨h.1, hw2.ext h.2⟩))))
      apply oop; rfl; apply Pev.len_str; rfl; exact yes; rfl
      refine OL.callE (α := Unit) (fun _ => .tuple #[]) (fun _ => True) (fun _ => Cls (ssI s0.heap.size bx s { g with at_ := g.at_ + ((c :: r).takeWhile notNl).length, col := g.col + (((c :: r).takeWhile notNl).length : Int) }) [s0]) rfl rfl (by exact Args.au) (fun w2 hw2 => (skip_calls bx s g ((c :: r).takeWhile notNl).length s0 w2 hbx (by omega) h2 hw2).mono fun e w3 h => ⟨(), h.1, trivial, h.2⟩) ?_
      intro _ _
      apply OL.nx
      refine W.rt ?_
      refine At.fin0 rfl (fun w' hw' => ⟨rfl, g.O1, g.q1, g.c1, g.O2, g.q2, g.c2, ?_⟩)
      simp only [List.append_nil]
      exact hw'
    · rw [if_neg (of_decide_eq_false hb2)] at hst
      subst hst
      apply W.sk
      apply W.reg
      apply omv; rfl; rfl
      apply omv; rfl; rfl
      refine OL.callE (α := (Nat → Prop) × Option Addr × Nat) (fun _ => .tuple #[]) (fun _ => True) (fun z => Cls (ssI s0.heap.size bx s { g with at_ := g.at_ + ((c :: r).takeWhile Lt.mark).length, col := g.col + (((c :: r).takeWhile Lt.mark).length : Int), toks := g.toks ++ [⟨if Kw.kw ((c :: r).takeWhile Lt.mark) then 4 else 3, (c :: r).takeWhile Lt.mark, 0, g.line, g.col⟩], O1 := z.1, q1 := z.2.1, c1 := z.2.2 }) [s0]) rfl rfl (by exact Args.au) (fun w2 hw2 => (word_calls bx s g 3 ⟨((c :: r).takeWhile Lt.mark).toArray⟩ s0 w2 hm hbx hl (by rw [bs_size]; omega) (by rw [bs_size]; omega) h2 hw2).mono fun e w3 ⟨h, O1, q1, c1, h3⟩ => ⟨(O1, q1, c1), h, trivial, h3⟩) ?_
      rintro ⟨O1, q1, c1⟩ _
      apply OL.nil
      with_reducible apply At.in_normal
      refine At.end_ (At.fin0 rfl (fun w' hw' => ⟨rfl, O1, q1, c1, g.O2, g.q2, g.c2, ?_⟩))
      simp only [List.append_nil]
      exact hw'
  rw [hb, if_neg (by decide)] at hst
  subst hst
  apply W.sr
  apply omv; rfl; rfl
  refine OL.callE (α := (Nat → Prop) × Option Addr × Nat) (fun _ => .tuple #[]) (fun _ => True) (fun z => Cls (ssI s0.heap.size bx s { g with bads := g.bads ++ [⟨5, g.line, g.col⟩], O2 := z.1, q2 := z.2.1, c2 := z.2.2 }) [s0]) rfl rfl (by exact Args.au) (fun w2 hw2 => (fail_calls bx s g 5 s0 w2 hbx hl2 hw2).mono fun e w3 ⟨h, O1, q1, c1, h3⟩ => ⟨(O1, q1, c1), h, trivial, h3⟩) ?_
  rintro ⟨O2, q2, c2⟩ _
  obtain ⟨g2, hg2⟩ : ∃ g2 : SS, g2 = { g with bads := g.bads ++ [⟨5, g.line, g.col⟩], O2 := O2, q2 := q2, c2 := c2 } := ⟨_, rfl⟩
  simp only
  rw [← hg2]
  apply OL.nx
  apply W.reg
  apply omv; rfl; rfl
  refine OL.callE (α := Unit) (fun _ => .tuple #[]) (fun _ => True) (fun _ => Cls (ssI s0.heap.size bx s { g2 with at_ := g2.at_ + 1, col := g2.col + ((1 : Nat) : Int) }) [s0]) rfl rfl (by exact Args.au) (fun w2 hw2 => (skip_calls bx s g2 1 s0 w2 hbx (by rw [hg2]; show g.at_ + 1 ≤ 10000; omega) (by rw [hg2]; exact h2) hw2).mono fun e w3 h => ⟨(), h.1, trivial, h.2⟩) ?_
  intro _ _
  apply OL.nil
  with_reducible apply At.in_normal
  refine At.end_ (At.fin0 rfl (fun w' hw' => ⟨rfl, g.O1, g.q1, g.c1, O2, q2, c2, ?_⟩))
  rw [hg2] at hw'
  simp only [List.append_nil]
  exact hw'
end Go.Proofs.YtnnpheacekieaaaDoor.lt

/- The walk of lexer.Scan. Condition: the variable bytealg.MaxLen holds some int. -/
namespace Go.Proofs.YtnnpheacekieaaaDoor.lt
open Go.RowKit Go.Eng Go.Lt Go.Sp
set_option maxRecDepth 100000
theorem step_one (key : Bs → Bool) (z : Bool) (c : UInt8) (r : Bs) (line col : Int) : (Lt.stepT key z c r line col).2.1.length ≤ 1 ∧ (Lt.stepT key z c r line col).2.2.length ≤ 1 := by
  unfold Lt.stepT
  repeat' split
  all_goals simp
/-- what Scan gives -/
def scanR (s : ByteArray) : List Tok × List Bad × Int :=
  if chk s ≠ 0 then ([], [], chk s) else
    match (scan Kw.kw true s.data.toList 1 1).bads with
    | [] => ((scan Kw.kw true s.data.toList 1 1).toks ++ [⟨9, [], 0, (scan Kw.kw true s.data.toList 1 1).line, (scan Kw.kw true s.data.toList 1 1).col⟩], [], 0)
    | b :: r => ([], b :: r, b.code)
theorem ClipD_calls (q : Option Addr) (len cap : Nat) (H : List Eng.Item) (S : List World) (w : World) (hl : len ≤ cap) (hc : Cls H S w) :
    Calls Tryd.prog 12 #[.slice q len cap] w fun e w' => e = .returned (.slice q len len) ∧ Cls H S w' := by
  refine enter Tryd.func12 rfl Tryd.ntmps12 rfl hc ?_
  (simp only [argEnv, Nat.zero_add, Nat.reduceAdd])
  apply W.sr
  apply oas; rfl; rfl
  apply OL.nsr
  apply omv; rfl; rfl
  apply omv; rfl; rfl
  apply oop; rfl; apply Pev.len_slice; rfl; exact yes; rfl
  apply omv; rfl; rfl
  apply oop; rfl; apply Pev.len_slice; rfl; exact yes; rfl
  apply oop; rfl; apply Pev.slice_hm; rfl; exact yes; rfl; exact yes; rfl; exact yes; rfl; rfl; rfl; intro hcond; omega
  apply oas; rfl; rfl
  apply OL.nx
  apply W.ret
  ((with_reducible apply At.fin1); rfl; rfl; intro w' hw')
  exact ⟨rfl, hw'⟩
theorem Scan_calls (s : ByteArray) (hs : s.size ≤ 9223372036854775807) (w : World) (hm : lk.maxAt w) :
    Calls Tryd.prog 4 #[.string s] w fun e w' => ∃ q1 c1 q2 c2, e = .returned (.tuple #[.slice q1 (scanR s).1.length c1, .slice q2 (scanR s).2.1.length c2, .int .i64 (scanR s).2.2]) ∧ SlAt w' w'.heap.size q1 (cat tokC (scanR s).1) ∧ SlAt w' w'.heap.size q2 (cat badC (scanR s).2.1) ∧ Ext w w' := by
  refine enter Tryd.func4 rfl Tryd.ntmps4 rfl (Cls.start w) ?_
  (simp only [argEnv, Nat.zero_add, Nat.reduceAdd])
  apply W.sr
  apply oas; rfl; rfl
  apply oas; rfl; rfl
  apply oas; rfl; rfl
  apply OL.nx
  apply W.seq
  apply W.sr
  apply omv; rfl; rfl
  (((first | (with_reducible apply OL.op) | (with_reducible apply QL.op)); (exact Guard.au); rfl; rfl); (exact Pev.call (v := .int .i64 (chk s)) rfl (by exact Args.au) (fun _ w2 hw2 => (sp.Check_calls s hs w2).mono (fun e w3 h => ⟨h.1, hw2.ext h.2⟩))))
  apply oas; rfl; rfl
  apply OL.nsr
  apply omv; rfl; rfl
  apply obn; rfl; rfl; rfl; apply Bin.neq
  apply OL.nx
  (refine W.cnd (fun hchk => ?_) (fun hchk => ?_)) <;> (try (exfalso; first | omega | exact hchk trivial | contradiction))
  · have hchk : chk s ≠ 0 := by simpa using hchk
    have he : scanR s = ([], [], chk s) := by unfold scanR; rw [if_pos hchk]
    rw [he]
    apply W.sr
    apply omv; rfl; rfl
    apply oas; rfl; rfl
    apply oas; rfl; rfl
    apply oas; rfl; rfl
    apply OL.nx
    refine W.rt ?_
    ((with_reducible apply At.fin3); rfl; rfl; rfl; rfl; intro w' hw')
    exact ⟨none, 0, none, 0, rfl, SlAt.nil, SlAt.nil, by (exact hw'.fr)⟩
  have hchk : chk s = 0 := by simpa using hchk
  have hsz : s.size ≤ 8192 := by
    unfold chk at hchk
    by_cases h : 8192 < s.size
    · rw [if_pos h] at hchk
      cases hchk
    · omega
  obtain ⟨R, hR⟩ : ∃ R, scan Kw.kw true s.data.toList 1 1 = R := ⟨_, rfl⟩
  have hsl : s.data.toList.length = s.size := by rw [Array.length_toList]; rfl
  apply W.sk
  apply W.sr
  apply omv; rfl; rfl
  apply oop; rfl; apply Pev.build; rfl; exact CellsL.agg; rfl; exact Fill.au; rfl
  apply OL.box; rfl; rfl; exact CellsL.agg; (intro bk hbk; simp only [AllLe, and_true] at hbk)
  apply oas; rfl; rfl
  apply OL.nx
  apply W.sb
  refine W.loop (G := SS) (fun g => g.at_ ≤ s.size ∧ Res.pre g.toks g.bads (scan Kw.kw true (s.data.toList.drop g.at_) g.line g.col) = R ∧ g.toks.length ≤ g.at_ ∧ g.bads.length ≤ g.at_ ∧ (0 ≤ g.line ∧ g.line ≤ g.at_ + 1) ∧ (0 ≤ g.col ∧ g.col ≤ g.at_ + 1)) (fun g => s.size - g.at_)
    (fun g => [(6, true, .pointer (some ⟨bk, 0, none⟩)), (0, true, .string s)])
    (fun g => Cls (ssI w.heap.size bk s g) [w]) ⟨0, 1, 1, [], [], fun _ => False, none, 0, fun _ => False, none, 0⟩ ⟨Nat.zero_le _, hR, Nat.le_refl _, Nat.le_refl _, by simp, by simp⟩ (by exact Sub.au) (fun w' hw' => ?_) ?_
  · exact (((hw'.row_nil w.heap.size 32 4).flip).row_nil w.heap.size 35 5).flip
  rintro g ⟨g1, g2, g3, g4, g5, g6⟩
  unfold ssI
  apply W.seq
  apply W.sr
  apply omv; rfl; rfl
  apply oop; rfl; apply Pev.nil_ptr; rfl; exact yes
  apply ofa; rfl; rfl; rfl
  apply old; rfl; rfl; exact .head _; rfl; rfl
  apply omv; rfl; rfl
  apply oop; rfl; apply Pev.len_str; rfl; exact yes; rfl
  apply obn; rfl; rfl; rfl; apply Bin.lss
  apply OL.nx
  refine W.cls (C' := Cls (ssI w.heap.size bk s g) [w]) (fun w' hw' => hw') ?_
  (refine W.cnd (fun hlt => ?_) (fun hlt => ?_)) <;> (try (exfalso; first | omega | exact hlt trivial | contradiction))
  · obtain ⟨c, r, hr⟩ : ∃ c r, s.data.toList.drop g.at_ = c :: r := by
      cases h : s.data.toList.drop g.at_ with
      | nil =>
        have := congrArg List.length h
        rw [List.length_drop, hsl] at this
        simp at this
        omega
      | cons c r => exact ⟨c, r, rfl⟩
    have hr1 : ∀ k, s.data.toList.drop (g.at_ + k) = (c :: r).drop k := fun k => by rw [← List.drop_drop, hr]
    rw [hr] at g2
    by_cases hn : c = 10
    · apply W.sk
      apply W.block
      apply W.reg
      apply omv; rfl; rfl
      refine OL.callE (α := Unit) (fun _ => .tuple #[]) (fun _ => True) (fun _ => Cls (ssI w.heap.size bk s { g with at_ := g.at_ + 1, line := g.line + 1, col := 1 }) [w]) rfl rfl (by exact Args.au) (fun w2 hw2 => (stepNl_calls bk s g w w2 hm hbk hsz (by omega) (by omega) (by omega) (by omega) (by omega) hw2 c r hr hn).mono fun e w3 h => ⟨(), h.1, trivial, h.2⟩) ?_
      intro _ _
      apply OL.nil
      with_reducible apply At.in_normal
      refine At.again { g with at_ := g.at_ + 1, line := g.line + 1, col := 1 } ⟨(show g.at_ + 1 ≤ s.size by omega), ?_, (show g.toks.length ≤ g.at_ + 1 by omega), (show g.bads.length ≤ g.at_ + 1 by omega), ?_, ?_⟩ (show s.size - (g.at_ + 1) < s.size - g.at_ by omega) (by exact Sub.au) (fun w' hw' => hw')
      · show Res.pre g.toks g.bads (scan Kw.kw true (s.data.toList.drop (g.at_ + 1)) (g.line + 1) 1) = R
        rw [hr1, ← g2, hn, scan_nl]
        rfl
      · show 0 ≤ g.line + 1 ∧ g.line + 1 ≤ ((g.at_ + 1 : Nat) : Int) + 1
        omega
      · show (0 : Int) ≤ 1 ∧ (1 : Int) ≤ ((g.at_ + 1 : Nat) : Int) + 1
        omega
    · obtain ⟨st, hst⟩ : ∃ st, Lt.stepT Kw.kw true c r g.line g.col = st := ⟨_, rfl⟩
      have hp1 := step_pos (key := Kw.kw) (z := true) (r := r) (line := g.line) (col := g.col) hn
      have hp2 := step_le (key := Kw.kw) (z := true) (c := c) (r := r) (line := g.line) (col := g.col)
      obtain ⟨hp3, hp4⟩ := step_one Kw.kw true c r g.line g.col
      have hcr : (c :: r).length = s.size - g.at_ := by rw [← hr, List.length_drop, hsl]
      rw [scan_step hn] at g2
      rw [hst] at g2 hp1 hp2 hp3 hp4
      apply W.sk
      apply W.block
      apply W.reg
      apply omv; rfl; rfl
      refine OL.callE (α := ((Nat → Prop) × Option Addr × Nat) × ((Nat → Prop) × Option Addr × Nat)) (fun _ => .tuple #[]) (fun _ => True) (fun z => Cls (ssI w.heap.size bk s { g with at_ := g.at_ + st.1, col := g.col + (st.1 : Int), toks := g.toks ++ st.2.1, bads := g.bads ++ st.2.2, O1 := z.1.1, q1 := z.1.2.1, c1 := z.1.2.2, O2 := z.2.1, q2 := z.2.2.1, c2 := z.2.2.2 }) [w]) rfl rfl (by exact Args.au) (fun w2 hw2 => (step_calls bk s g w w2 hm hbk hsz (by omega) (by omega) (by omega) (by omega) (by omega) hw2 c r hr hn st hst).mono fun e w3 ⟨h, O1, q1, c1, O2, q2, c2, h3⟩ => ⟨((O1, q1, c1), (O2, q2, c2)), h, trivial, h3⟩) ?_
      rintro ⟨⟨O1, q1, c1⟩, O2, q2, c2⟩ _
      apply OL.nil
      with_reducible apply At.in_normal
      refine At.again { g with at_ := g.at_ + st.1, col := g.col + (st.1 : Int), toks := g.toks ++ st.2.1, bads := g.bads ++ st.2.2, O1 := O1, q1 := q1, c1 := c1, O2 := O2, q2 := q2, c2 := c2 } ⟨(show g.at_ + st.1 ≤ s.size by omega), ?_, ?_, ?_, ?_, ?_⟩ (show s.size - (g.at_ + st.1) < s.size - g.at_ by omega) (by exact Sub.au) (fun w' hw' => hw')
      · show Res.pre (g.toks ++ st.2.1) (g.bads ++ st.2.2) (scan Kw.kw true (s.data.toList.drop (g.at_ + st.1)) g.line (g.col + (st.1 : Int))) = R
        rw [hr1, ← g2]
        simp [Res.pre]
      · show (g.toks ++ st.2.1).length ≤ g.at_ + st.1
        rw [List.length_append]
        omega
      · show (g.bads ++ st.2.2).length ≤ g.at_ + st.1
        rw [List.length_append]
        omega
      · show 0 ≤ g.line ∧ g.line ≤ ((g.at_ + st.1 : Nat) : Int) + 1
        omega
      · show 0 ≤ g.col + (st.1 : Int) ∧ g.col + (st.1 : Int) ≤ ((g.at_ + st.1 : Nat) : Int) + 1
        omega
  have hat : g.at_ = s.size := by omega
  rw [hat, List.drop_eq_nil_of_le (by rw [hsl]; exact Nat.le_refl _), scan_nil] at g2
  have hRt : R = ⟨g.toks, g.bads, g.line, g.col⟩ := by rw [← g2]; simp [Res.pre]
  refine W.xt ?_
  with_reducible apply At.next
  apply W.sr
  apply omv; rfl; rfl
  refine OL.callE (α := (Nat → Prop) × Option Addr × Nat) (fun _ => .tuple #[]) (fun _ => True) (fun z => Cls (ssI w.heap.size bk s { g with toks := g.toks ++ [⟨9, [], 0, g.line, g.col⟩], O1 := z.1, q1 := z.2.1, c1 := z.2.2 }) [w]) rfl rfl (by exact Args.au) (fun w2 hw2 => (put_calls bk s g 9 0 ⟨#[]⟩ w w2 hbk (by omega) (by decide) (by show g.at_ + 0 ≤ 10000; omega) (by omega) hw2).mono fun e w3 ⟨h, O1, q1, c1, h3⟩ => ⟨(O1, q1, c1), h, trivial, ?_⟩) ?_
  · have h4 := h3
    simp only [show (⟨#[]⟩ : ByteArray).size = 0 from rfl, Nat.add_zero, Int.natCast_zero, Int.add_zero] at h4
    exact h4
  rintro ⟨O1, q1, c1⟩ _
  unfold ssI
  simp only
  apply OL.nx
  apply W.seq
  apply W.sr
  apply omv; rfl; rfl
  apply oop; rfl; apply Pev.nil_ptr; rfl; exact yes
  apply ofa; rfl; rfl; rfl
  apply old; rfl; rfl; exact .head _; rfl; rfl
  apply oop; rfl; apply Pev.len_slice; rfl; exact yes; rfl
  apply obn; rfl; rfl; rfl; apply Bin.gtr
  apply OL.nx
  (refine W.cnd (fun hbad => ?_) (fun hbad => ?_)) <;> (try (exfalso; first | omega | exact hbad trivial | contradiction))
  · obtain ⟨b, rb, hbr⟩ : ∃ b rb, g.bads = b :: rb := by
      cases hx : g.bads with
      | nil => rw [hx] at hbad; simp at hbad
      | cons b r => exact ⟨b, r, rfl⟩
    have he : scanR s = ([], g.bads, b.code) := by
      unfold scanR
      rw [if_neg (by simpa using hchk), hR, hRt]
      simp only
      rw [hbr]
    rw [he]
    obtain ⟨gat, gline, gcol, gtoks, gbads, gO1, gq1, gc1, gO2, gq2, gc2⟩ := g
    simp only at hbr ⊢
    subst hbr
    refine W.fact (φ := ∃ g0, gq2 = some ⟨g0, 0, none⟩) (fun w' hw' => row_some (hw'.item (.tail _ (.tail _ (.head _)))) (by simp)) (fun hq => ?_)
    obtain ⟨g0, rfl⟩ := hq
    apply W.seq
    apply W.regd0; decide +kernel; kernel_rfl; decide +kernel; exact fun w hw => hw.drew
    apply qmv; rfl; rfl
    apply qop; rfl; apply Pev.nil_ptr; rfl; exact yes
    apply qfa; rfl; rfl; rfl
    apply qld; rfl; rfl; exact .head _; rfl; rfl
    (((first | (with_reducible apply OL.op) | (with_reducible apply QL.op)); (exact Guard.au); rfl; rfl); (exact Pev.call (v := .slice (some ⟨g0, 0, none⟩) (b :: rb).length (b :: rb).length) rfl (by exact Args.au) (fun _ w2 hw2 => (ClipD_calls (some ⟨g0, 0, none⟩) (b :: rb).length gc2 _ _ w2 (row_le (hw2.item (.tail _ (.tail _ (.head _))))) hw2).mono (fun e w3 h => ⟨h.1, h.2⟩))))
    apply qmv; rfl; rfl
    apply qop; rfl; apply Pev.nil_ptr; rfl; exact yes
    apply qfa; rfl; rfl; rfl
    apply qld; rfl; rfl; exact .head _; rfl; rfl
    apply qop; rfl; apply Pev.idxB; rfl; exact yes; rfl; exact yes; rfl; intro hcond; (simp only [Bool.and_eq_true, Bool.or_eq_true, Bool.not_eq_true', decide_eq_true_eq, decide_eq_false_iff_not] at *; omega); rfl
    apply qfa; rfl; rfl; rfl
    (((first | (with_reducible apply OL.op) | (with_reducible apply QL.op)); (exact Guard.au); rfl; rfl); (refine Pev.load_row rfl (by (first | exact fun _ => rfl | exact fun h => h | (intro h; simp_all; done))) (.tail _ (.tail _ (.head _))) rfl (v := .int .i64 b.code) rfl))
    apply qas; rfl; rfl
    apply qas; rfl; rfl
    apply qas; rfl; rfl
    apply QL.nil
    with_reducible apply At.next
    refine W.rt ?_
    ((with_reducible apply At.fin3); rfl; rfl; rfl; rfl; intro w' hw')
    exact ⟨none, 0, some ⟨g0, 0, none⟩, (b :: rb).length, rfl, SlAt.nil, SlAt.of_row (hw'.item (.tail _ (.tail _ (.head _)))), by (exact hw'.fr)⟩
  · have hnb : g.bads = [] := by
      cases hx : g.bads with
      | nil => rfl
      | cons b r => rw [hx] at hbad; simp at hbad; omega
    have he : scanR s = (g.toks ++ [⟨9, [], 0, g.line, g.col⟩], [], 0) := by
      unfold scanR
      rw [if_neg (by simpa using hchk), hR, hRt]
      simp only
      rw [hnb]
    rw [he]
    apply W.sk
    apply W.sr
    apply omv; rfl; rfl
    apply oop; rfl; apply Pev.nil_ptr; rfl; exact yes
    apply ofa; rfl; rfl; rfl
    apply old; rfl; rfl; exact .head _; rfl; rfl
    apply oas; rfl; rfl
    apply oas; rfl; rfl
    apply oas; rfl; rfl
    apply OL.nx
    apply W.ret
    ((with_reducible apply At.fin3); rfl; rfl; rfl; rfl; intro w' hw')
    exact ⟨q1, c1, none, 0, rfl, SlAt.of_row (hw'.item (.tail _ (.head _))), SlAt.nil, by (exact hw'.fr)⟩
end Go.Proofs.YtnnpheacekieaaaDoor.lt

/- The walks of the reference's decimal and of strings.TrimLeft. Conditions: none. -/
namespace Go.Proofs.YtnnpheacekieaaaDoor.lt
open Go.RowKit Go.Eng Go.Lt Go.Sp Go.Shelf
set_option maxRecDepth 100000
theorem trimL_calls (t : ByteArray) (w : World) : Calls Tryd.prog 49 #[.string t, .string ⟨#[48]⟩] w fun e w' => e = .returned (.string ⟨(t.data.toList.dropWhile fun c => decide (c = 48)).toArray⟩) ∧ w' = w :=
  (Any.strings_TrimLeft_one Tryd.lays161 t 48 (by decide) w).mono fun e w' h => ⟨h.1.trans (by unfold Lib.trimLeftB; rfl), h.2⟩
theorem numV_lt : ∀ (k : Nat) (l : Bs), l.length = k → (∀ c ∈ l, digit c = true) → numV l < 10 ^ k
  | 0, l, hl, _ => by
    rw [List.length_eq_zero_iff.1 hl]
    decide
  | k + 1, l, hl, hd => by
    have hne : l ≠ [] := fun e => by rw [e] at hl; cases hl
    have e := List.dropLast_concat_getLast hne
    have h1 := numV_lt k l.dropLast (by rw [List.length_dropLast, hl]; rfl) (fun c hc => hd c (List.dropLast_subset l hc))
    have h2 := hd (l.getLast hne) (List.getLast_mem hne)
    unfold Lt.digit at h2
    rw [Bool.and_eq_true, decide_eq_true_eq, decide_eq_true_eq] at h2
    rw [← e, numV_snoc, Nat.pow_succ]
    omega
theorem pow_ten {k : Nat} (h : k ≤ 10) : 10 ^ k ≤ 10000000000 := Nat.pow_le_pow_right (n := 10) (by decide) h
theorem wr (x c : Nat) (hx : x < 10000000000) (h1 : 48 ≤ c) (h2 : c ≤ 57) : IntKind.i64.wrap (IntKind.i64.wrap (10 * (x : Int) + IntKind.i64.wrap (c : Int)) - 48) = ((10 * x + (c - 48) : Nat) : Int) := by
  simp only [IntKind.wrap_i64]
  omega
/-- the reference's value of digits -/
def decN (t : Bs) : Int := if 10 < (t.dropWhile fun c => decide (c = 48)).length then 0 else (numV t : Int)
theorem decN_small {t : Bs} (hd : ∀ c ∈ t, digit c = true) (h : big t = false) : decN t = (numV t : Int) := by
  unfold decN
  by_cases hl : 10 < (t.dropWhile fun c => decide (c = 48)).length
  · rw [big_long hd hl] at h
    cases h
  · rw [if_neg hl]
theorem decimal_calls (t : Bs) (hd : ∀ c ∈ t, digit c = true) (w : World) : Calls Tryd.prog 33 #[.string ⟨t.toArray⟩] w fun e w' => e = .returned (.tuple #[.int .i64 (decN t), .bool (big t)]) ∧ Ext w w' := by
  refine enter Tryd.func33 rfl Tryd.ntmps33 rfl (Cls.start w) ?_
  (simp only [argEnv, Nat.zero_add, Nat.reduceAdd])
  apply W.sr
  apply oas; rfl; rfl
  apply oas; rfl; rfl
  apply OL.nsr
  apply omv; rfl; rfl
  obtain ⟨u, hu⟩ : ∃ u, (t.dropWhile fun c => decide (c = 48)) = u := ⟨_, rfl⟩
  have hud : ∀ c ∈ u, digit c = true := fun c hc => hd c ((List.dropWhile_suffix _).mem (by rw [hu]; exact hc))
  obtain ⟨ub, hub⟩ : ∃ ub : ByteArray, ub = ⟨u.toArray⟩ := ⟨_, rfl⟩
  have hubs : ub.size = u.length := by rw [hub]; rfl
  have hubl : ub.data.toList = u := by rw [hub]
  have hnu : numV u = numV t := by rw [← hu, numV_drop]
  (((first | (with_reducible apply OL.op) | (with_reducible apply QL.op)); (exact Guard.au); rfl; rfl); (exact Pev.call (v := .string ub) rfl (by exact Args.au) (fun _ w2 hw2 => (trimL_calls ⟨t.toArray⟩ w2).mono (fun e w3 h => ⟨by rw [h.1, hub, ← hu], by rw [h.2]; exact hw2⟩))))
  apply oas; rfl; rfl
  apply OL.nx
  apply W.seq
  apply W.sr
  apply omv; rfl; rfl
  apply oop; rfl; apply Pev.len_str; rfl; exact yes; rfl
  apply obn; rfl; rfl; rfl; apply Bin.gtr
  apply OL.nx
  (refine W.cnd (fun hl => ?_) (fun hl => ?_)) <;> (try (exfalso; first | omega | exact hl trivial | contradiction))
  · have hb : big t = true := big_long hd (by rw [hu]; omega)
    have hn : decN t = 0 := by unfold decN; rw [if_pos (by rw [hu]; omega)]
    rw [hb, hn]
    apply W.sr
    apply oas; rfl; rfl
    apply oas; rfl; rfl
    apply OL.nx
    refine W.rt ?_
    ((with_reducible apply At.fin2); rfl; rfl; rfl; intro w' hw')
    exact ⟨rfl, by (exact hw'.fr)⟩
  have hul : u.length ≤ 10 := by omega
  have hn : decN t = (numV t : Int) := by unfold decN; rw [if_neg (by rw [hu]; omega)]
  rw [hn]
  apply W.sk
  apply W.sr
  apply oas; rfl; rfl
  apply OL.nx
  apply W.seq
  apply W.sr
  apply oas; rfl; rfl
  apply OL.nx
  apply W.block
  refine W.loop (G := Nat) (fun i => i ≤ ub.size) (fun i => ub.size - i)
    (fun i => [(5, true, .int .i64 (i : Int)), (4, true, .int .i64 (numV (u.take i) : Int)), (0, true, .string ub)])
    (fun i => Cls [] [w]) 0 (Nat.zero_le _) (by exact Sub.au) (fun w' hw' => hw') ?_
  intro i hi
  apply W.seq
  apply W.sr
  apply omv; rfl; rfl
  apply omv; rfl; rfl
  apply oop; rfl; apply Pev.len_str; rfl; exact yes; rfl
  apply obn; rfl; rfl; rfl; apply Bin.lss
  apply OL.nx
  (refine W.cnd (fun hlt => ?_) (fun hlt => ?_)) <;> (try (exfalso; first | omega | exact hlt trivial | contradiction))
  · obtain ⟨c, hc1, hc2⟩ := bt_get (show i < ub.size by omega)
    rw [hubl] at hc1
    have hcd := hud c (List.mem_of_getElem? hc1)
    have hcd2 : 48 ≤ c.toNat ∧ c.toNat ≤ 57 := by
      unfold Lt.digit at hcd
      rw [Bool.and_eq_true, decide_eq_true_eq, decide_eq_true_eq] at hcd
      exact hcd
    have hps : numV (u.take (i + 1)) = 10 * numV (u.take i) + (c.toNat - 48) := by
      rw [List.take_add_one, hc1]
      exact numV_snoc _ _
    have hlim : numV (u.take i) < 10000000000 := Nat.lt_of_lt_of_le (numV_lt (u.take i).length (u.take i) rfl (fun c hc => hud c (List.mem_of_mem_take hc))) (pow_ten (by rw [List.length_take]; omega))
    have hw1 : IntKind.i64.wrap (IntKind.i64.wrap (10 * (numV (u.take i) : Int) + IntKind.i64.wrap (bt ub i)) - 48) = (numV (u.take (i + 1)) : Int) := by
      rw [hc2, hps]
      exact wr _ _ hlim hcd2.1 hcd2.2
    apply W.sk
    apply W.sb
    apply W.reg
    apply omv; rfl; rfl
    apply obn; rfl; rfl; rfl; apply Bin.mul_in; omega
    apply omv; rfl; rfl
    apply omv; rfl; rfl
    apply oop; rfl; apply Pev.index_str; rfl; exact yes; rfl; exact yes; rfl; (intro hcond; refine ⟨rfl, ?_⟩); omega
    apply oop; rfl; apply Pev.conv_int; rfl; exact yes; rfl; rfl
    apply obn; rfl; rfl; rfl; apply Bin.add
    apply obn; rfl; rfl; rfl; apply Bin.sub
    apply oas; rfl; rfl
    apply OL.nil
    with_reducible apply At.in_normal
    with_reducible apply At.next
    apply W.reg
    apply omv; rfl; rfl
    apply obn; rfl; rfl; rfl; apply Bin.add_in; omega
    apply oas; rfl; rfl
    apply OL.nil
    rw [hw1]
    exact At.again (i + 1) (by omega) (by omega) (by exact Sub.au) (fun w' hw' => hw')
  · obtain rfl : i = ub.size := by omega
    have hbig : decide ((1073741823 : Int) < (numV (u.take ub.size) : Int)) = big t := by
      rw [hubs, List.take_length, hnu]
      unfold big
      exact decide_eq_decide.2 (by omega)
    have hval : numV (u.take ub.size) = numV t := by rw [hubs, List.take_length, hnu]
    refine W.xt ?_
    with_reducible apply At.next
    apply W.sr
    apply omv; rfl; rfl
    apply omv; rfl; rfl
    apply obn; rfl; rfl; rfl; apply Bin.gtr
    apply oas; rfl; rfl
    apply oas; rfl; rfl
    apply OL.nx
    apply W.ret
    rw [hbig, hval]
    ((with_reducible apply At.fin2); rfl; rfl; rfl; intro w' hw')
    exact ⟨rfl, by (exact hw'.fr)⟩
end Go.Proofs.YtnnpheacekieaaaDoor.lt

/- Plain: a step of the reference's line by the class of its first byte. No program in sight. No condition. -/
namespace Go.Lt
open Go.Sp
variable {key : Bs → Bool} {z : Bool} {c : UInt8} {r : Bs} {ln col : Int}
theorem bel_inner : belongs 110 = inner ∧ belongs 99 = inner ∧ belongs 100 = digit ∧ belongs 111 = mark :=
  ⟨funext fun c => (belongs_word c).1, funext fun c => (belongs_word c).2.1, funext fun c => (belongs_word c).2.2.1, funext fun c => (belongs_word c).2.2.2.trans (mark_punct c)⟩
theorem bel_other {k : Nat} (h : k ≠ 110 ∧ k ≠ 99 ∧ k ≠ 100 ∧ k ≠ 111) (l : Bs) : l.takeWhile (belongs k) = [] := by
  cases l with
  | nil => rfl
  | cons b l =>
    rw [List.takeWhile_cons, if_neg]
    unfold belongs
    rw [if_neg (by omega), if_neg (by omega)]
    decide
/-- the token that begins with c -/
def tl (c : UInt8) (r : Bs) : Bs := c :: r.takeWhile (belongs (cls c))
theorem tl_110 (h : cls c = 110) : tl c r = (c :: r).takeWhile inner := by
  have h1 := (cls_word c).1.1 h
  unfold tl
  rw [h, bel_inner.1, List.takeWhile_cons, if_pos (inner_small h1)]
theorem tl_99 (h : cls c = 99) : tl c r = (c :: r).takeWhile inner := by
  have h1 := (cls_word c).2.1.1 h
  unfold tl
  rw [h, bel_inner.2.1, List.takeWhile_cons, if_pos (inner_large h1)]
theorem tl_100 (h : cls c = 100) : tl c r = (c :: r).takeWhile digit := by
  have h1 := (cls_word c).2.2.1.1 h
  unfold tl
  rw [h, bel_inner.2.2.1, List.takeWhile_cons, if_pos h1]
theorem tl_111 (h : cls c = 111) : tl c r = (c :: r).takeWhile mark := by
  have h1 := (cls_word c).2.2.2.2.1.1 h
  unfold tl
  rw [h, bel_inner.2.2.2, List.takeWhile_cons, if_pos h1]
theorem tl_one (h : cls c ≠ 110 ∧ cls c ≠ 99 ∧ cls c ≠ 100 ∧ cls c ≠ 111) : tl c r = [c] := by
  unfold tl
  rw [bel_other h]
theorem cls_bool {k : Nat} (h : cls c = k) : small c = decide (k = 110) ∧ large c = decide (k = 99) ∧ digit c = decide (k = 100) ∧ punct c = decide (k = 112) ∧ mark c = decide (k = 111) ∧ (c = 32 ↔ k = 32) := by
  subst h
  obtain ⟨h1, h2, h3, h4, h5, h6⟩ := cls_word c
  refine ⟨?_, ?_, ?_, ?_, ?_, h6.symm⟩
  all_goals (rw [Bool.eq_iff_iff, decide_eq_true_eq])
  · exact h1.symm
  · exact h2.symm
  · exact h3.symm
  · exact h4.symm
  · exact h5.symm
theorem st_space (h : cls c = 32) : stepT key z c r ln col = ((tl c r).length, [], []) := by
  obtain ⟨h1, h2, h3, h4, h5, h6⟩ := cls_bool h
  rw [tl_one (by omega)]
  unfold stepT
  rw [if_pos (h6.2 rfl)]
  rfl
theorem st_punct (h : cls c = 112) : stepT key z c r ln col = ((tl c r).length, [⟨5, tl c r, 0, ln, col⟩], []) := by
  obtain ⟨h1, h2, h3, h4, h5, h6⟩ := cls_bool h
  rw [tl_one (by omega)]
  unfold stepT
  rw [if_neg (fun e => absurd (h6.1 e) (by decide)), h1, h2, h3, h4]
  rfl
theorem st_digit (h : cls c = 100) : stepT key z c r ln col = ((tl c r).length, [⟨2, tl c r, if big (tl c r) && z then 0 else (numV (tl c r) : Int), ln, col⟩], if big (tl c r) then [⟨4, ln, col⟩] else []) := by
  obtain ⟨h1, h2, h3, h4, h5, h6⟩ := cls_bool h
  rw [tl_100 h]
  unfold stepT
  rw [if_neg (fun e => absurd (h6.1 e) (by decide)), h1, h2, h3]
  rfl
theorem st_large (h : cls c = 99) : stepT key z c r ln col = ((tl c r).length, [⟨1, tl c r, 0, ln, col⟩], []) := by
  obtain ⟨h1, h2, h3, h4, h5, h6⟩ := cls_bool h
  rw [tl_99 h]
  unfold stepT
  rw [if_neg (fun e => absurd (h6.1 e) (by decide)), h1, h2]
  rfl
theorem st_small (h : cls c = 110) : stepT key z c r ln col = ((tl c r).length, [⟨if key (tl c r) then 4 else 0, tl c r, 0, ln, col⟩], []) := by
  obtain ⟨h1, h2, h3, h4, h5, h6⟩ := cls_bool h
  rw [tl_110 h]
  unfold stepT
  rw [if_neg (fun e => absurd (h6.1 e) (by decide)), h1]
  rfl
theorem st_mark (h : cls c = 111) (hn : ¬ (1 < (tl c r).length ∧ (tl c r).count 45 = (tl c r).length)) : stepT key z c r ln col = ((tl c r).length, [⟨if key (tl c r) then 4 else 3, tl c r, 0, ln, col⟩], []) := by
  obtain ⟨h1, h2, h3, h4, h5, h6⟩ := cls_bool h
  rw [tl_111 h] at hn ⊢
  unfold stepT
  rw [if_neg (fun e => absurd (h6.1 e) (by decide)), h1, h2, h3, h4, h5]
  simp only [Bool.false_eq_true, if_false, decide_true, if_true, show decide (111 = 110) = false from rfl, show decide (111 = 99) = false from rfl, show decide (111 = 100) = false from rfl, show decide (111 = 112) = false from rfl]
  rw [if_neg]
  rintro ⟨g1, g2⟩
  refine hn ⟨g1, ?_⟩
  rw [List.count_eq_length]
  intro b hb
  rw [List.all_eq_true] at g2
  exact (of_decide_eq_true (g2 b hb)).symm
theorem st_else (h : cls c ≠ 32 ∧ cls c ≠ 112 ∧ cls c ≠ 100 ∧ cls c ≠ 99 ∧ cls c ≠ 110 ∧ cls c ≠ 111) : stepT key z c r ln col = ((tl c r).length, [], [⟨5, ln, col⟩]) := by
  obtain ⟨h1, h2, h3, h4, h5, h6⟩ := cls_bool (c := c) rfl
  rw [tl_one (by omega)]
  unfold stepT
  rw [if_neg (fun e => absurd (h6.1 e) h.1), h1, h2, h3, h4, h5]
  simp [h]
/-- a comment ends the line -/
theorem st_comment (h : cls c = 111) (hn : 1 < (tl c r).length ∧ (tl c r).count 45 = (tl c r).length) (h10 : 10 ∉ c :: r) : scan key z (c :: r) ln col = ⟨[], [], ln, col + ((c :: r).length : Int)⟩ := by
  obtain ⟨h1, h2, h3, h4, h5, h6⟩ := cls_bool h
  rw [tl_111 h] at hn
  have hall : ((c :: r).takeWhile mark).all (fun b => decide (b = 45)) = true := by
    rw [List.all_eq_true]
    intro b hb
    exact decide_eq_true (List.count_eq_length.1 hn.2 b hb).symm
  have htw : (c :: r).takeWhile notNl = c :: r := by
    have : ∀ l : Bs, 10 ∉ l → l.takeWhile notNl = l := fun l => by
      induction l with
      | nil => exact fun _ => rfl
      | cons b l ih =>
        intro hb
        rw [List.takeWhile_cons, if_pos (show notNl b = true from decide_eq_true (fun e => hb (by rw [e]; exact .head _))), ih (fun hm => hb (.tail _ hm))]
    exact this _ h10
  have hst : stepT key z c r ln col = ((c :: r).length, [], []) := by
    unfold stepT
    rw [if_neg (fun e => absurd (h6.1 e) (by decide)), h1, h2, h3, h4, h5]
    simp only [Bool.false_eq_true, if_false, decide_true, if_true, show decide (111 = 110) = false from rfl, show decide (111 = 99) = false from rfl, show decide (111 = 100) = false from rfl, show decide (111 = 112) = false from rfl]
    rw [if_pos ⟨hn.1, hall⟩, htw]
  rw [scan_step (fun e => h10 (by rw [e]; exact .head _)), hst]
  simp only
  rw [List.drop_length, scan_nil]
  rfl
theorem linesR_cons (x : Bs) (r : List Bs) (line : Int) : (linesR key z (x :: r) line).bads = (scan key z x line 1).bads ++ (linesR key z r (line + 1)).bads ∧ (linesR key z (x :: r) line).toks = (scan key z x line 1).toks ++ (linesR key z r (line + 1)).toks := by
  cases r with
  | nil => simp [linesR]
  | cons y r => exact ⟨rfl, rfl⟩
theorem linesR_end : ∀ (l : List Bs) (line : Int) (k : Nat) (t : Bs), (∀ x ∈ l, (10 : UInt8) ∉ x) → l.length = k + 1 → l[k]? = some t → (linesR key z l line).line = line + k ∧ (linesR key z l line).col = 1 + (t.length : Int)
  | [], _, _, _, _, hl, _ => by simp at hl
  | [x], line, k, t, hn, hl, ht => by
    simp at hl
    subst hl
    simp at ht
    subst ht
    obtain ⟨h1, h2⟩ := scan_end (key := key) (z := z) x.length x line 1 (Nat.le_refl _) (hn x (.head _))
    exact ⟨by rw [linesR, h1]; simp, by rw [linesR, h2]⟩
  | x :: y :: r, line, k, t, hn, hl, ht => by
    obtain ⟨k', rfl⟩ : ∃ k', k = k' + 1 := ⟨k - 1, by simp at hl; omega⟩
    obtain ⟨h1, h2⟩ := linesR_end (y :: r) (line + 1) k' t (fun x hx => hn x (.tail _ hx)) (by simp at hl ⊢; omega) (by simpa using ht)
    refine ⟨?_, h2⟩
    show (linesR key z (y :: r) (line + 1)).line = _
    rw [h1]
    omega
theorem lns_le : ∀ (l : Bs), (lns l).length ≤ l.length + 1 ∧ ∀ x ∈ lns l, x.length ≤ l.length
  | [] => ⟨by decide, fun x hx => by rw [lns, List.mem_singleton] at hx; rw [hx]; exact Nat.le_refl _⟩
  | c :: l => by
    obtain ⟨h1, h2⟩ := lns_le l
    rw [List.length_cons]
    by_cases hc : c = 10
    · rw [show lns (c :: l) = [] :: lns l by rw [lns, if_pos hc]]
      refine ⟨by rw [List.length_cons]; omega, fun x hx => ?_⟩
      rcases List.mem_cons.1 hx with rfl | hx
      · exact Nat.zero_le _
      · have := h2 x hx
        omega
    · obtain ⟨h, t, e⟩ := lns_cons l
      rw [show lns (c :: l) = (c :: h) :: t by rw [lns, if_neg hc, e]]
      rw [e] at h1 h2
      refine ⟨by rw [List.length_cons] at h1 ⊢; omega, fun x hx => ?_⟩
      rcases List.mem_cons.1 hx with rfl | hx
      · have := h2 h (.head _)
        rw [List.length_cons]
        omega
      · have := h2 x (.tail _ hx)
        omega
end Go.Lt

/- The walk of the reference's LineTokens. Condition: the variable bytealg.MaxLen holds some int. -/
namespace Go.Eng
theorem W.joinb {P : Program} {n : Nm} {l : Env} {C : World → Prop} {Q : Exit → Act → World → Prop} {G : Type} {id : Nat} {code r : Code} (Φ : G → Prop) (lg : G → Env) (Cg : G → World → Prop) (h1 : W P n code (Exit.inBlock id (Exit.then (fun a w => ∃ g, Φ g ∧ Sees n (lg g) a ∧ Cg g w) Q)) l C) (h2 : ∀ g, Φ g → W P n r Q (lg g) (Cg g)) : W P n code (Exit.inBlock id (Exit.then (wpp n.r P r Q) Q)) l C :=
  ⟨fun a w hs hc => wpp_mono (h1.run a w hs hc) fun e a' w' hq => by
    have key : ∀ e', Exit.then (fun a w => ∃ g, Φ g ∧ Sees n (lg g) a ∧ Cg g w) Q e' a' w' → Exit.then (wpp n.r P r Q) Q e' a' w' := fun e' hq => by
      cases e' with
      | normal =>
        obtain ⟨g, hg, hs', hc'⟩ := hq
        exact (h2 g hg).run a' w' hs' hc'
      | _ => exact hq
    cases e with
    | exit k =>
      change (if k = id then _ else _) at hq
      show (if k = id then _ else _)
      split
      · rename_i h
        rw [if_pos h] at hq
        exact key _ hq
      · rename_i h
        rw [if_neg h] at hq
        exact key _ hq
    | normal => exact key .normal hq
    | goto k => exact key (.goto k) hq
    | ret => exact key .ret hq
    | panic c => exact key (.panic c) hq
    | outgrown => exact key .outgrown hq⟩
end Go.Eng
namespace Go.Proofs.YtnnpheacekieaaaDoor.lt
open Go.RowKit Go.Eng Go.Lt Go.Sp Go.Shelf
set_option maxRecDepth 100000
theorem W.xt {P : Program} {n : Nm} {l : Env} {C : World → Prop} {Q : Exit → Act → World → Prop} {id : Nat} {Q' : Exit → Act → World → Prop} (h : At n Q' .normal l C) (he : Ech id Q Q' := by (repeat (first | with_reducible exact Ech.hit | with_reducible apply Ech.th | ((with_reducible apply Ech.bl); rfl))); first | done | fail) : W P n (.exit id) Q l C := Eng.W.xt h he
theorem countM_calls (s : ByteArray) (w : World) :
    Calls Tryd.prog 32 #[.string s, .string ⟨#[45]⟩] w fun e w' => e = .returned (.int .i64 (s.data.toList.count 45 : Nat)) ∧ w' = w := Any.strings_Count_one Tryd.lays138 s 45 w
def ltI (B : Nat) (g : SS) : List Eng.Item := [row B g.O1 g.q1 g.toks.length g.c1 35 5 (cat tokC g.toks), row B g.O2 g.q2 g.bads.length g.c2 32 4 (cat badC g.bads)]
theorem tl_len (c : UInt8) (s : ByteArray) (k : Nat) : (tl c (s.data.toList.drop k)).length = 1 + twL (belongs (cls c)) s k := by
  unfold tl twL
  rw [List.length_cons]
  omega
theorem tl_ext (c : UInt8) (r : Bs) (s : ByteArray) (k : Nat) (h : s.data.toList.drop k = c :: r) : s.extract k (k + (tl c r).length) = ⟨(tl c r).toArray⟩ := by
  apply ByteArray.ext
  apply Array.toList_inj.1
  rw [ByteArray.data_extract, Array.toList_extract]
  simp only [List.extract_eq_take_drop]
  rw [Nat.add_sub_cancel_left, h]
  show List.take _ (c :: r) = tl c r
  unfold tl
  rw [List.length_cons, List.take_succ_cons]
  congr 1
  exact (List.prefix_iff_eq_take.1 (List.takeWhile_prefix _)).symm
theorem LineTokens_calls (s : ByteArray) (ln : Int) (hs : s.size ≤ 8192) (hln : 0 ≤ ln ∧ ln ≤ 100000) (h10 : 10 ∉ s.data.toList) (w : World) (hm : lk.maxAt w) :
    Calls Tryd.prog 14 #[.string s, .int .i64 ln] w fun e w' => ∃ g : SS, e = .returned (.tuple #[.slice g.q1 g.toks.length g.c1, .slice g.q2 g.bads.length g.c2]) ∧ g.toks.length ≤ s.size ∧ g.bads.length ≤ s.size ∧ g.bads = (scan Kw.kw true s.data.toList ln 1).bads ∧ ((scan Kw.kw true s.data.toList ln 1).bads = [] → g.toks = (scan Kw.kw true s.data.toList ln 1).toks) ∧ Cls (ltI w.heap.size g) [w] w' := by
  refine enter Tryd.func14 rfl Tryd.ntmps14 rfl (Cls.start w) ?_
  obtain ⟨R, hR⟩ : ∃ R, scan Kw.kw true s.data.toList ln 1 = R := ⟨_, rfl⟩
  rw [hR]
  have hsl : s.data.toList.length = s.size := by rw [Array.length_toList]; rfl
  (simp only [argEnv, Nat.zero_add, Nat.reduceAdd])
  apply W.sr
  apply oas; rfl; rfl
  apply oas; rfl; rfl
  apply OL.nsr
  apply oas; rfl; rfl
  apply OL.nsr
  apply oas; rfl; rfl
  apply OL.nx
  apply W.seq
  apply W.sr
  apply oas; rfl; rfl
  apply OL.nx
  apply W.block
  refine W.loop (G := SS) (fun g => g.at_ ≤ s.size ∧ g.bads ++ (scan Kw.kw true (s.data.toList.drop g.at_) ln ((g.at_ : Int) + 1)).bads = R.bads ∧ (R.bads = [] → g.toks ++ (scan Kw.kw true (s.data.toList.drop g.at_) ln ((g.at_ : Int) + 1)).toks = R.toks) ∧ g.toks.length ≤ g.at_ ∧ g.bads.length ≤ g.at_) (fun g => s.size - g.at_)
    (fun g => [(8, true, .int .i64 (g.at_ : Int)), (7, true, .slice g.q2 g.bads.length g.c2), (6, true, .slice g.q1 g.toks.length g.c1), (1, true, .int .i64 ln), (0, true, .string s)])
    (fun g => Cls (ltI w.heap.size g) [w]) ⟨0, 1, 1, [], [], fun _ => False, none, 0, fun _ => False, none, 0⟩ ⟨Nat.zero_le _, by rw [← hR]; rfl, fun _ => by rw [← hR]; rfl, Nat.le_refl _, Nat.le_refl _⟩ (by exact Sub.au) (fun w' hw' => ?_) ?_
  · exact (hw'.row_nil w.heap.size 32 4).row_nil w.heap.size 35 5
  rintro g ⟨g1, g2, g3, g4, g5⟩
  unfold ltI
  apply W.seq
  apply W.sr
  apply omv; rfl; rfl
  apply omv; rfl; rfl
  apply oop; rfl; apply Pev.len_str; rfl; exact yes; rfl
  apply obn; rfl; rfl; rfl; apply Bin.lss
  apply OL.nx
  refine W.cls (C' := Cls (ltI w.heap.size g) [w]) (fun w' hw' => hw') ?_
  (refine W.cnd (fun hlt => ?_) (fun hlt => ?_)) <;> (try (exfalso; first | omega | exact hlt trivial | contradiction))
  · obtain ⟨c, r, hr⟩ : ∃ c r, s.data.toList.drop g.at_ = c :: r := by
      cases h : s.data.toList.drop g.at_ with
      | nil =>
        have := congrArg List.length h
        rw [List.length_drop, hsl] at this
        simp at this
        omega
      | cons c r => exact ⟨c, r, rfl⟩
    have hr1 : ∀ k, s.data.toList.drop (g.at_ + k) = (c :: r).drop k := fun k => by rw [← List.drop_drop, hr]
    have hcr : (c :: r).length = s.size - g.at_ := by rw [← hr, List.length_drop, hsl]
    have h10r : 10 ∉ c :: r := fun h => h10 (List.mem_of_mem_drop (by rw [hr]; exact h))
    have hcn : c ≠ 10 := fun e => h10r (by rw [e]; exact .head _)
    have hbt : bt s g.at_ = (c.toNat : Int) := by
      obtain ⟨c', h1, h2⟩ := bt_get (show g.at_ < s.size by omega)
      have h4 : s.data.toList[g.at_]? = some c := by
        have := congrArg (fun l : Bs => l[0]?) hr
        simpa [List.getElem?_drop] using this
      rw [h4] at h1
      rw [h2, Option.some.inj h1]
    have hck : cls c < 256 := by
      unfold cls
      repeat' split
      all_goals first | decide | exact c.toNat_lt
    rw [hr] at g2 g3
    obtain ⟨k, hk⟩ : ∃ k, cls c = k := ⟨_, rfl⟩
    apply W.sk
    apply W.block
    apply W.sr
    apply omv; rfl; rfl
    apply omv; rfl; rfl
    apply oop; rfl; apply Pev.index_str; rfl; exact yes; rfl; exact yes; rfl; (intro hcond; refine ⟨rfl, ?_⟩); omega
    rw [hbt]
    (((first | (with_reducible apply OL.op) | (with_reducible apply QL.op)); (exact Guard.au); rfl; rfl); (exact Pev.call (v := .int .u8 (cls c : Int)) rfl (by exact Args.au) (fun _ w2 hw2 => (class_calls c w2).mono (fun e w3 h => ⟨h.1, hw2.ext h.2⟩))))
    rw [hk]
    apply oas; rfl; rfl
    apply OL.nsr
    apply oas; rfl; rfl
    apply OL.nx
    apply W.sb
    refine W.loop (G := Nat) (fun n => 1 ≤ n ∧ g.at_ + n ≤ s.size ∧ 1 + twL (belongs k) s (g.at_ + 1) = n + twL (belongs k) s (g.at_ + n)) (fun n => s.size - (g.at_ + n))
      (fun n => [(10, true, .int .i64 (n : Int)), (9, true, .int .u8 (k : Int)), (8, true, .int .i64 (g.at_ : Int)), (7, true, .slice g.q2 g.bads.length g.c2), (6, true, .slice g.q1 g.toks.length g.c1), (1, true, .int .i64 ln), (0, true, .string s)])
      (fun n => Cls (ltI w.heap.size g) [w]) 1 ⟨Nat.le_refl _, by omega, rfl⟩ (by exact Sub.au) (fun w' hw' => hw') ?_
    rintro n ⟨hn1, hn2, hn3⟩
    obtain ⟨pk, hpk⟩ : ∃ pk : Bool, (match s.data.toList[g.at_ + n]? with | some c => belongs k c | none => false) = pk := ⟨_, rfl⟩
    have hpk2 : ∀ c : UInt8, s.data.toList[g.at_ + n]? = some c → belongs k c = pk := fun c hc => by rw [← hpk, hc]
    apply W.seq
    apply W.sr
    apply omv; rfl; rfl
    apply omv; rfl; rfl
    apply obn; rfl; rfl; rfl; apply Bin.add_in; omega
    apply omv; rfl; rfl
    apply oop; rfl; apply Pev.len_str; rfl; exact yes; rfl
    apply obn; rfl; rfl; rfl; apply Bin.lss
    apply omv; rfl; rfl
    apply oy; rfl; rfl; rfl; apply Pev.move; rfl; exact yes
    apply oy; rfl; rfl; rfl; apply Pev.move; rfl; exact yes
    apply oy; rfl; rfl; rfl; apply Pev.move; rfl; exact yes
    apply oy; rfl; rfl; rfl; apply Pev.move; rfl; exact yes
    apply oy; rfl; rfl; rfl; apply Pev.bin; rfl; exact fun h => h; rfl; exact fun h => h; intro hcond; apply Bin.add_in; omega
    apply oy; rfl; rfl; rfl; apply Pev.index_str; rfl; exact fun h => h; rfl; exact fun h => h; rfl; (intro hcond; refine ⟨rfl, ?_⟩); (simp only [Bool.and_eq_true, Bool.or_eq_true, Bool.not_eq_true', decide_eq_true_eq, decide_eq_false_iff_not] at hcond; omega)
    (((first | (with_reducible apply OL.op) | (with_reducible apply QL.op)); (exact Guard.au); rfl; rfl); (refine Pev.call (v := .bool pk) rfl (by exact Args.au) (fun hcd w2 hw2 => ?_)))
    · have hlt2 : g.at_ + n < s.size := by
        have := of_decide_eq_true hcd
        omega
      obtain ⟨c', hc1, hc2, _, _⟩ := tw_step (p := belongs k) hlt2
      rw [hc2, ← hpk2 c' hc1]
      exact (belongs_calls k c' (by omega) w2).mono (fun e w3 h => ⟨h.1, hw2.ext h.2⟩)
    apply oop; rfl; apply Pev.pick_and; rfl; exact yes; rfl; exact fun h => h
    apply OL.nx
    refine W.cond rfl (fun hb => ?_) (fun hb => ?_)
    · rw [Bool.and_eq_true, decide_eq_true_eq] at hb
      have hlt2 : g.at_ + n < s.size := by omega
      obtain ⟨c', hc1, hc2, hc3, _⟩ := tw_step (p := belongs k) hlt2
      have hc4 := hc3 ((hpk2 c' hc1).trans hb.2)
      have e1 : g.at_ + n + 1 = g.at_ + (n + 1) := by omega
      rw [e1] at hc4
      apply W.sk
      apply W.block
      apply W.reg
      apply omv; rfl; rfl
      apply obn; rfl; rfl; rfl; apply Bin.add_in; omega
      apply oas; rfl; rfl
      apply OL.nil
      with_reducible apply At.in_normal
      exact At.again (n + 1) ⟨by omega, by omega, by omega⟩ (by omega) (by exact Sub.au) (fun w' hw' => hw')
    · have h0k : twL (belongs k) s (g.at_ + n) = 0 := by
        rcases Nat.lt_or_ge (g.at_ + n) s.size with hlt2 | hlt2
        · obtain ⟨c', hc1, hc2, _, hc3⟩ := tw_step (p := belongs k) hlt2
          refine hc3 ((hpk2 c' hc1).trans ?_)
          rw [decide_eq_true (show (g.at_ : Int) + (n : Int) < (s.size : Int) by omega), Bool.true_and] at hb
          exact hb
        · exact tw_end hlt2
      have hr2 : s.data.toList.drop (g.at_ + 1) = r := hr1 1
      have hn : (tl c r).length = n := by
        rw [← hr2, tl_len, hk]
        omega
      refine W.xt ?_
      with_reducible apply At.next
      apply W.sr
      apply omv; rfl; rfl
      apply omv; rfl; rfl
      apply omv; rfl; rfl
      apply omv; rfl; rfl
      apply obn; rfl; rfl; rfl; apply Bin.add_in; omega
      (((first | (with_reducible apply OL.op) | (with_reducible apply QL.op)); (exact Guard.au); rfl; rfl); (refine Pev.slice_str g.at_ (g.at_ + n) rfl (by (first | exact fun _ => rfl | exact fun h => h | (intro h; simp_all; done))) rfl (by (first | exact fun _ => rfl | exact fun h => h | (intro h; simp_all; done))) rfl (by (first | exact fun _ => rfl | exact fun h => h | (intro h; simp_all; done))) rfl (fun _ => ⟨rfl, rfl, by omega, by omega⟩)))
      rw [show s.extract g.at_ (g.at_ + n) = ⟨(tl c r).toArray⟩ by rw [← hn, tl_ext c r s g.at_ hr]]
      unfold ltI
      apply omv; rfl; rfl
      apply omv; rfl; rfl
      apply obn; rfl; rfl; rfl; apply Bin.add_in; omega
      apply oop; rfl; apply Pev.build; rfl; exact CellsL.agg; rfl; exact Fill.au; rfl
      apply OL.alloc; rfl; rfl; exact CellsL.agg; (intro bk hbk; simp only [AllLe, and_true] at hbk)
      apply OL.storeB; rfl; rfl; exact CellsL.agg; rfl; rfl; rfl; exact Swap.au; exact Put.au
      apply OL.nsr
      apply omv; rfl; rfl
      apply omv; rfl; rfl
      apply obn; rfl; rfl; rfl; apply Bin.add_in; omega
      apply oas; rfl; rfl
      apply OL.nx
      apply W.sb
      apply W.sr
      apply omv; rfl; rfl
      apply obn; rfl; rfl; rfl; apply Bin.eql
      apply omv; rfl; rfl
      apply oy; rfl; rfl; rfl; apply Pev.move; rfl; exact yes
      apply oy; rfl; rfl; rfl; apply Pev.bin; rfl; exact fun h => h; rfl; exact yes; intro hcond; apply Bin.gtr
      apply oop; rfl; apply Pev.pick_and; rfl; exact yes; rfl; exact fun h => h
      apply omv; rfl; rfl
      apply oy; rfl; rfl; rfl; apply Pev.fld; rfl; exact yes; rfl
      apply oy; rfl; rfl; rfl; apply Pev.load_blk; rfl; exact fun h => h; exact .head _; rfl; rfl
      (((first | (with_reducible apply OL.op) | (with_reducible apply QL.op)); (exact Guard.au); rfl; rfl); (exact Pev.call (v := .int .i64 (((tl c r).count 45 : Nat) : Int)) rfl (by exact Args.au) (fun _ w2 hw2 => (countM_calls ⟨(tl c r).toArray⟩ w2).mono (fun e w3 h => ⟨h.1, by rw [h.2]; exact hw2⟩))))
      apply oy; rfl; rfl; rfl; apply Pev.move; rfl; exact yes
      apply oy; rfl; rfl; rfl; apply Pev.bin; rfl; exact fun h => h; rfl; exact fun h => h; intro hcond; apply Bin.eql
      apply oop; rfl; apply Pev.pick_and; rfl; exact yes; rfl; exact fun h => h
      apply oas; rfl; rfl
      apply OL.nx
      obtain ⟨st, hst⟩ : ∃ st, Lt.stepT Kw.kw true c r ln ((g.at_ : Int) + 1) = st := ⟨_, rfl⟩
      refine W.joinb (G := Int × Int × List Bad × (Nat → Prop) × Option Addr × Nat) (fun z => st.1 = n ∧ z.2.2.1 = g.bads ++ st.2.2 ∧ z.2.2.1.length ≤ g.bads.length + 1 ∧ (st.2.2 = [] → st.2.1 = [⟨z.1, tl c r, z.2.1, ln, (g.at_ : Int) + 1⟩]))
        (fun z => [(11, true, .pointer (some ⟨bk, 0, none⟩)), (8, true, .int .i64 ((g.at_ : Int) + (n : Int))), (7, true, .slice z.2.2.2.2.1 z.2.2.1.length z.2.2.2.2.2), (6, true, .slice g.q1 g.toks.length g.c1), (1, true, .int .i64 ln), (0, true, .string s)])
        (fun z => Cls [blk bk 35 [.int .i64 z.1, .string ⟨(tl c r).toArray⟩, .int .i64 z.2.1, .int .i64 ln, .int .i64 ((g.at_ : Int) + 1)], row w.heap.size g.O1 g.q1 g.toks.length g.c1 35 5 (cat tokC g.toks), row w.heap.size z.2.2.2.1 z.2.2.2.2.1 z.2.2.1.length z.2.2.2.2.2 32 4 (cat badC z.2.2.1)] [w]) ?_ ?_
      · have hcom : (decide ((k : Int) = 111) && decide ((1 : Int) < (n : Int)) && decide ((((tl c r).count 45 : Nat) : Int) = (n : Int))) = decide (k = 111 ∧ 1 < (tl c r).length ∧ (tl c r).count 45 = (tl c r).length) := by
          rw [hn, Bool.decide_and, Bool.decide_and, ← Bool.and_assoc]
          repeat (first | exact decide_eq_decide.2 (by omega) | congr 1)
        rw [hcom]
        refine W.cond rfl (fun hb => ?_) (fun hb => ?_)
        · obtain ⟨hk1, hk2⟩ := of_decide_eq_true hb
          rw [st_comment (hk.trans hk1) hk2 h10r] at g2 g3
          apply W.sr
          apply omv; rfl; rfl
          apply omv; rfl; rfl
          apply oas; rfl; rfl
          apply oas; rfl; rfl
          apply OL.nx
          refine W.rt ?_
          ((with_reducible apply At.fin2); rfl; rfl; rfl; intro w' hw')
          exact ⟨g, rfl, by omega, by omega, by rw [← g2]; simp, fun h => by rw [← g3 h]; simp, hw'.thin (by exact Thin.au)⟩
        have hncom : ¬ (k = 111 ∧ 1 < (tl c r).length ∧ (tl c r).count 45 = (tl c r).length) := of_decide_eq_false hb
        rw [scan_step hcn, hst] at g2 g3
        have hcol : (g.at_ : Int) + 1 + (n : Int) = ((g.at_ + n : Nat) : Int) + 1 := by omega
        apply W.sr
        apply omv; rfl; rfl
        apply obn; rfl; rfl; rfl; apply Bin.eql
        apply oas; rfl; rfl
        apply OL.nx
        (refine W.cnd (fun h32 => ?_) (fun h32 => ?_)) <;> (try (exfalso; first | omega | exact h32 trivial | contradiction))
        · rw [st_space (hk.trans (by omega))] at hst
          subst hst
          simp only [hn] at g2 g3
          rw [hcol, ← hr1] at g2 g3
          refine W.xt ?_
          refine At.again { g with at_ := g.at_ + n } ⟨hn2, ?_, ?_, (show g.toks.length ≤ g.at_ + n by omega), (show g.bads.length ≤ g.at_ + n by omega)⟩ (show s.size - (g.at_ + n) < s.size - g.at_ by omega) (by exact Sub.au) (fun w' hw' => hw'.thin (by exact Thin.au))
          · show g.bads ++ (scan Kw.kw true (s.data.toList.drop (g.at_ + n)) ln (((g.at_ + n : Nat) : Int) + 1)).bads = R.bads
            rw [← g2]
            rfl
          · intro h
            show g.toks ++ (scan Kw.kw true (s.data.toList.drop (g.at_ + n)) ln (((g.at_ + n : Nat) : Int) + 1)).toks = R.toks
            rw [← g3 h]
            rfl
        apply W.sr
        apply omv; rfl; rfl
        apply obn; rfl; rfl; rfl; apply Bin.eql
        apply oas; rfl; rfl
        apply OL.nx
        (refine W.cnd (fun h112 => ?_) (fun h112 => ?_)) <;> (try (exfalso; first | omega | exact h112 trivial | contradiction))
        · rw [st_punct (hk.trans (by omega))] at hst
          subst hst
          apply W.reg
          apply ofa; rfl; rfl; rfl
          apply OL.storeB; rfl; rfl; exact CellsL.one rfl; rfl; rfl; rfl; exact Swap.au; exact Put.au
          apply OL.nil
          with_reducible apply At.in_normal
          exact At.joinedx (5, 0, g.bads, g.O2, g.q2, g.c2) ⟨hn, by simp, by simp, fun _ => rfl⟩ (by exact Sub.au) (fun w' hw' => hw')
        apply W.sr
        apply omv; rfl; rfl
        apply obn; rfl; rfl; rfl; apply Bin.eql
        apply oas; rfl; rfl
        apply OL.nx
        (refine W.cnd (fun h100 => ?_) (fun h100 => ?_)) <;> (try (exfalso; first | omega | exact h100 trivial | contradiction))
        · have hk0 : cls c = 100 := hk.trans (by omega)
          rw [st_digit hk0] at hst
          subst hst
          have htd : ∀ b ∈ tl c r, digit b = true := fun b hb => by
            rw [tl_100 hk0] at hb
            exact tw_all hb
          have hbl1 : g.bads.length + 1 = (g.bads ++ [(⟨4, ln, (g.at_ : Int) + 1⟩ : Bad)]).length := by simp
          have hbc1 : cat badC g.bads ++ [Value.int .i64 4, .int .i64 ln, .int .i64 ((g.at_ : Int) + 1), .string ⟨#[]⟩] = cat badC (g.bads ++ [(⟨4, ln, (g.at_ : Int) + 1⟩ : Bad)]) := by rw [cat_append]; rfl
          apply W.sr
          apply ofa; rfl; rfl; rfl
          apply OL.storeB; rfl; rfl; exact CellsL.one rfl; rfl; rfl; rfl; exact Swap.au; exact Put.au
          apply OL.nsr
          apply oas; rfl; rfl
          apply OL.nsr
          apply ofa; rfl; rfl; rfl
          apply old; rfl; rfl; exact .head _; rfl; rfl
          (((first | (with_reducible apply OL.op) | (with_reducible apply QL.op)); (exact Guard.au); rfl; rfl); (exact Pev.call (v := .tuple #[.int .i64 (decN (tl c r)), .bool (big (tl c r))]) rfl (by exact Args.au) (fun _ w2 hw2 => (decimal_calls (tl c r) htd w2).mono (fun e w3 h => ⟨h.1, hw2.ext h.2⟩))))
          apply omv; rfl; rfl
          apply oex; rfl; rfl; rfl
          apply oex; rfl; rfl; rfl
          apply ofa; rfl; rfl; rfl
          apply OL.storeB; rfl; rfl; exact CellsL.one rfl; rfl; rfl; rfl; exact Swap.au; exact Put.au
          apply oas; rfl; rfl
          apply OL.nsr
          apply omv; rfl; rfl
          apply OL.nx
          refine W.cond rfl (fun hb => ?_) (fun hb => ?_)
          · rw [hb]
            apply W.reg
            apply omv; rfl; rfl
            apply omv; rfl; rfl
            apply ofa; rfl; rfl; rfl
            apply old; rfl; rfl; exact .head _; rfl; rfl
            apply oop; rfl; apply Pev.build; rfl; exact CellsL.agg; rfl; exact Fill.au; rfl
            apply OL.buildSlice; rfl; rfl; rfl; exact Elems.au; rfl; rfl; (intro bk hbk; simp only [AllLe, and_true] at hbk)
            apply OL.append; rfl; rfl; rfl; rfl; exact Hole.au; exact .head _; exact Take.au; rfl; rfl; exact ⟨_, .head _, Nat.le_refl _⟩; omega; intro O1 g1 cap1
            apply oas; rfl; rfl
            apply OL.nil
            with_reducible apply At.in_normal
            rw [hbl1, hbc1]
            exact At.joinedx (2, decN (tl c r), g.bads ++ [⟨4, ln, (g.at_ : Int) + 1⟩], O1, some ⟨g1, 0, none⟩, cap1) ⟨hn, by simp [hb], by simp, fun h => by simp [hb] at h⟩ (by exact Sub.au) (fun w' hw' => hw'.thin (Thin.blk (by simp only [AllLe, and_true]; omega) Thin.same))
          · rw [hb, decN_small htd hb]
            apply W.skip
            with_reducible apply At.in_normal
            exact At.joinedx (2, (numV (tl c r) : Int), g.bads, g.O2, g.q2, g.c2) ⟨hn, by simp, by simp, fun _ => rfl⟩ (by exact Sub.au) (fun w' hw' => hw')
        apply W.sr
        apply omv; rfl; rfl
        apply obn; rfl; rfl; rfl; apply Bin.eql
        apply oas; rfl; rfl
        apply OL.nx
        (refine W.cnd (fun h99 => ?_) (fun h99 => ?_)) <;> (try (exfalso; first | omega | exact h99 trivial | contradiction))
        · rw [st_large (hk.trans (by omega))] at hst
          subst hst
          apply W.reg
          apply ofa; rfl; rfl; rfl
          apply OL.storeB; rfl; rfl; exact CellsL.one rfl; rfl; rfl; rfl; exact Swap.au; exact Put.au
          apply OL.nil
          with_reducible apply At.in_normal
          exact At.joinedx (1, 0, g.bads, g.O2, g.q2, g.c2) ⟨hn, by simp, by simp, fun _ => rfl⟩ (by exact Sub.au) (fun w' hw' => hw')
        apply W.sr
        apply omv; rfl; rfl
        apply obn; rfl; rfl; rfl; apply Bin.neq
        apply omv; rfl; rfl
        apply oy; rfl; rfl; rfl; apply Pev.move; rfl; exact yes
        apply oy; rfl; rfl; rfl; apply Pev.bin; rfl; exact fun h => h; rfl; exact yes; intro hcond; apply Bin.neq
        apply oop; rfl; apply Pev.pick_and; rfl; exact yes; rfl; exact fun h => h
        apply oas; rfl; rfl
        apply OL.nx
        refine W.cond rfl (fun hb => ?_) (fun hb => ?_)
        · simp at hb
          rw [st_else (by rw [hk]; omega)] at hst
          subst hst
          simp only [hn] at g2 g3
          rw [hcol, ← hr1] at g2 g3
          have hbl1 : g.bads.length + 1 = (g.bads ++ [(⟨5, ln, (g.at_ : Int) + 1⟩ : Bad)]).length := by simp
          have hbc1 : cat badC g.bads ++ [Value.int .i64 5, .int .i64 ln, .int .i64 ((g.at_ : Int) + 1), .string ⟨#[]⟩] = cat badC (g.bads ++ [(⟨5, ln, (g.at_ : Int) + 1⟩ : Bad)]) := by rw [cat_append]; rfl
          apply W.sr
          apply omv; rfl; rfl
          apply omv; rfl; rfl
          apply ofa; rfl; rfl; rfl
          apply old; rfl; rfl; exact .head _; rfl; rfl
          apply oop; rfl; apply Pev.build; rfl; exact CellsL.agg; rfl; exact Fill.au; rfl
          apply OL.buildSlice; rfl; rfl; rfl; exact Elems.au; rfl; rfl; (intro bk hbk; simp only [AllLe, and_true] at hbk)
          apply OL.append; rfl; rfl; rfl; rfl; exact Hole.au; exact .head _; exact Take.au; rfl; rfl; exact ⟨_, .head _, Nat.le_refl _⟩; omega; intro O1 g1 cap1
          apply oas; rfl; rfl
          apply OL.nx
          refine W.xt ?_
          rw [hbl1, hbc1]
          refine At.again { g with at_ := g.at_ + n, bads := g.bads ++ [⟨5, ln, (g.at_ : Int) + 1⟩], O2 := O1, q2 := some ⟨g1, 0, none⟩, c2 := cap1 } ⟨hn2, ?_, ?_, (show g.toks.length ≤ g.at_ + n by omega), (show (g.bads ++ [(⟨5, ln, (g.at_ : Int) + 1⟩ : Bad)]).length ≤ g.at_ + n by rw [← hbl1]; omega)⟩ (show s.size - (g.at_ + n) < s.size - g.at_ by omega) (by exact Sub.au) (fun w' hw' => hw'.thin (by exact Thin.au))
          · show (g.bads ++ [(⟨5, ln, (g.at_ : Int) + 1⟩ : Bad)]) ++ (scan Kw.kw true (s.data.toList.drop (g.at_ + n)) ln (((g.at_ + n : Nat) : Int) + 1)).bads = R.bads
            rw [← g2, List.append_assoc]
            rfl
          · intro h
            show g.toks ++ (scan Kw.kw true (s.data.toList.drop (g.at_ + n)) ln (((g.at_ + n : Nat) : Int) + 1)).toks = R.toks
            rw [← g3 h]
            rfl
        have hk2 : k = 110 ∨ k = 111 := by simp at hb; omega
        have hkw : Kw.rs (tl c r) = Kw.kw (tl c r) := (Kw.kw_rs _).symm
        have hml : 0 < w.heap.size := hm.elim fun m h => cell_lt h
        have htls : (⟨(tl c r).toArray⟩ : ByteArray).size = n := hn
        apply W.sr
        apply ofa; rfl; rfl; rfl
        apply old; rfl; rfl; exact .head _; rfl; rfl
        (((first | (with_reducible apply OL.op) | (with_reducible apply QL.op)); (exact Guard.au); rfl; rfl); (exact Pev.call (v := .bool (Kw.kw (tl c r))) rfl (by exact Args.au) (fun _ w2 hw2 => (lk.Reserved_calls ⟨(tl c r).toArray⟩ (by rw [htls]; omega) w2 (lk.maxAt_keep hw2 (.head _) (NotOwned.blk (by omega) (NotOwned.row (by omega) (NotOwned.row (by omega) .nil))) hm)).mono (fun e w3 h => ⟨by rw [h.1, hkw], hw2.ext h.2⟩))))
        apply oas; rfl; rfl
        apply OL.nx
        refine W.cond rfl (fun hkey => ?_) (fun hkey => ?_)
        · have hst2 : st = ((tl c r).length, [⟨4, tl c r, 0, ln, (g.at_ : Int) + 1⟩], []) := by
            rw [← hst]
            rcases hk2 with h | h
            · rw [st_small (hk.trans h), hkey]
              rfl
            · rw [st_mark (hk.trans h) (fun h2 => hncom ⟨h, h2⟩), hkey]
              rfl
          subst hst2
          apply W.reg
          apply ofa; rfl; rfl; rfl
          apply OL.storeB; rfl; rfl; exact CellsL.one rfl; rfl; rfl; rfl; exact Swap.au; exact Put.au
          apply OL.nil
          with_reducible apply At.in_normal
          exact At.joinedx (4, 0, g.bads, g.O2, g.q2, g.c2) ⟨hn, by simp, by simp, fun _ => rfl⟩ (by exact Sub.au) (fun w' hw' => hw')
        apply W.sr
        apply omv; rfl; rfl
        apply obn; rfl; rfl; rfl; apply Bin.eql
        apply oas; rfl; rfl
        apply OL.nx
        (refine W.cnd (fun h111 => ?_) (fun h111 => ?_)) <;> (try (exfalso; first | omega | exact h111 trivial | contradiction))
        · have hst2 : st = ((tl c r).length, [⟨3, tl c r, 0, ln, (g.at_ : Int) + 1⟩], []) := by
            rw [← hst, st_mark (hk.trans (by omega)) (fun h2 => hncom ⟨by omega, h2⟩), hkey]
            rfl
          subst hst2
          apply W.reg
          apply ofa; rfl; rfl; rfl
          apply OL.storeB; rfl; rfl; exact CellsL.one rfl; rfl; rfl; rfl; exact Swap.au; exact Put.au
          apply OL.nil
          with_reducible apply At.in_normal
          exact At.joinedx (3, 0, g.bads, g.O2, g.q2, g.c2) ⟨hn, by simp, by simp, fun _ => rfl⟩ (by exact Sub.au) (fun w' hw' => hw')
        · have hst2 : st = ((tl c r).length, [⟨0, tl c r, 0, ln, (g.at_ : Int) + 1⟩], []) := by
            rw [← hst, st_small (hk.trans (by omega)), hkey]
            rfl
          subst hst2
          apply W.skip
          with_reducible apply At.in_normal
          exact At.joinedx (0, 0, g.bads, g.O2, g.q2, g.c2) ⟨hn, by simp, by simp, fun _ => rfl⟩ (by exact Sub.au) (fun w' hw' => hw')
      · rintro ⟨kd, nn, bads, O2, q2, c2⟩ ⟨hz1, hz2, hz3, hz4⟩
        simp only at hz1 hz2 hz3 hz4 ⊢
        rw [scan_step hcn, hst, hz1, show (g.at_ : Int) + 1 + (n : Int) = ((g.at_ + n : Nat) : Int) + 1 by omega, ← hr1] at g2 g3
        have htl1 : g.toks.length + 1 = (g.toks ++ [(⟨kd, tl c r, nn, ln, (g.at_ : Int) + 1⟩ : Tok)]).length := by simp
        have htc1 : cat tokC g.toks ++ [Value.int .i64 kd, .string ⟨(tl c r).toArray⟩, .int .i64 nn, .int .i64 ln, .int .i64 ((g.at_ : Int) + 1)] = cat tokC (g.toks ++ [(⟨kd, tl c r, nn, ln, (g.at_ : Int) + 1⟩ : Tok)]) := by rw [cat_append]; rfl
        apply W.reg
        apply omv; rfl; rfl
        apply oop; rfl; apply Pev.load_blkA; rfl; exact yes; exact .head _; rfl; exact Take.au
        apply OL.buildSlice; rfl; rfl; rfl; exact Elems.au; rfl; rfl; (intro bk hbk; simp only [AllLe, and_true] at hbk)
        apply OL.append; rfl; rfl; rfl; rfl; exact Hole.au; exact .head _; exact Take.au; rfl; rfl; exact ⟨_, .head _, Nat.le_refl _⟩; omega; intro O1 g1 cap1
        apply oas; rfl; rfl
        apply OL.nil
        with_reducible apply At.in_normal
        rw [htl1, htc1]
        refine At.again { g with at_ := g.at_ + n, toks := g.toks ++ [⟨kd, tl c r, nn, ln, (g.at_ : Int) + 1⟩], O1 := O1, q1 := some ⟨g1, 0, none⟩, c1 := cap1, bads := bads, O2 := O2, q2 := q2, c2 := c2 } ⟨hn2, ?_, ?_, (show (g.toks ++ [(⟨kd, tl c r, nn, ln, (g.at_ : Int) + 1⟩ : Tok)]).length ≤ g.at_ + n by rw [← htl1]; omega), (show bads.length ≤ g.at_ + n by omega)⟩ (show s.size - (g.at_ + n) < s.size - g.at_ by omega) (by exact Sub.au) (fun w' hw' => hw'.thin (by exact Thin.au))
        · show bads ++ (scan Kw.kw true (s.data.toList.drop (g.at_ + n)) ln (((g.at_ + n : Nat) : Int) + 1)).bads = R.bads
          rw [← g2, hz2, List.append_assoc]
          rfl
        · intro h
          show (g.toks ++ [(⟨kd, tl c r, nn, ln, (g.at_ : Int) + 1⟩ : Tok)]) ++ (scan Kw.kw true (s.data.toList.drop (g.at_ + n)) ln (((g.at_ + n : Nat) : Int) + 1)).toks = R.toks
          have hb2 : st.2.2 = [] := by
            rw [h, List.append_eq_nil_iff] at g2
            have := g2.2
            simp only [Res.pre] at this
            exact (List.append_eq_nil_iff.1 this).1
          rw [← g3 h, ← hz4 hb2, List.append_assoc]
          rfl
  · obtain hat : g.at_ = s.size := by omega
    rw [hat, List.drop_eq_nil_of_le (by rw [hsl]; exact Nat.le_refl _), scan_nil] at g2 g3
    refine W.xt ?_
    with_reducible apply At.next
    apply W.sr
    apply omv; rfl; rfl
    apply omv; rfl; rfl
    apply oas; rfl; rfl
    apply oas; rfl; rfl
    apply OL.nx
    apply W.ret
    ((with_reducible apply At.fin2); rfl; rfl; rfl; intro w' hw')
    exact ⟨g, rfl, by omega, by omega, by rw [← g2]; simp, fun h => by rw [← g3 h]; simp, hw'⟩
end Go.Proofs.YtnnpheacekieaaaDoor.lt

/- The walk of the reference's Tokens. Condition: the variable bytealg.MaxLen holds some int. -/
namespace Go.Proofs.YtnnpheacekieaaaDoor.lt
open Go.RowKit Go.Eng Go.Lt Go.Sp Go.Shelf
set_option maxRecDepth 100000
theorem tok_len (t : Tok) : (tokC t).length = 5 := rfl
theorem bad_len (b : Bad) : (badC b).length = 4 := rfl
theorem tok_one (l : List Tok) : oneL (cat tokC l) = true := by
  induction l with
  | nil => rfl
  | cons t l ih => exact ih
theorem bad_one (l : List Bad) : oneL (cat badC l) = true := by
  induction l with
  | nil => rfl
  | cons t l ih => exact ih
theorem callee2 {H : List Eng.Item} {S : List World} {w2 w3 : World} {B : Nat} {g : SS} (h : Cls H S w2) (h3 : Cls (ltI w2.heap.size g) [w2] w3) (hB : B ≤ w2.heap.size) : Cls (ltI B { g with O1 := fun k => w2.heap.size ≤ k ∧ g.O1 k, O2 := fun k => w2.heap.size ≤ k ∧ g.O2 k } ++ H) S w3 := by
  have h4 := h.over h3 (fun i hi k hk => by
    unfold ltI at hi
    rcases List.mem_cons.1 hi with rfl | hi
    · exact hk.1
    · rw [List.mem_singleton] at hi
      subst hi
      exact hk.1)
  unfold ltI at h4 ⊢
  exact ((h4.row_low hB).flip.row_low hB).flip
theorem drop2 {r1 r2 : Eng.Item} {H : List Eng.Item} {w w' : World} (h : Cls (r1 :: r2 :: H) [w] w') (h1 : ∀ k, r1.own k → w.heap.size ≤ k) (h2 : ∀ k, r2.own k → w.heap.size ≤ k) : Cls H [w] w' :=
  h.thin (.any (fun k hk => ⟨h1 k hk, trivial⟩) (.any (fun k hk => ⟨h2 k hk, trivial⟩) .same))
theorem Tokens_calls (s : ByteArray) (hs : s.size ≤ 8192) (w : World) (hm : lk.maxAt w) :
    Calls Tryd.prog 6 #[.string s] w fun e w' => ∃ g : SS, e = .returned (.tuple #[.slice g.q1 g.toks.length g.c1, .slice g.q2 g.bads.length g.c2]) ∧ g.toks.length ≤ 100000000 ∧ g.bads.length ≤ 100000000 ∧ g.bads = (scan Kw.kw true s.data.toList 1 1).bads ∧ ((scan Kw.kw true s.data.toList 1 1).bads = [] → g.toks = (scan Kw.kw true s.data.toList 1 1).toks ++ [⟨9, [], 0, (scan Kw.kw true s.data.toList 1 1).line, (scan Kw.kw true s.data.toList 1 1).col⟩]) ∧ Cls (ltI w.heap.size g) [w] w' := by
  refine enter Tryd.func6 rfl Tryd.ntmps6 rfl (Cls.start w) ?_
  obtain ⟨R, hR⟩ : ∃ R, scan Kw.kw true s.data.toList 1 1 = R := ⟨_, rfl⟩
  rw [hR]
  rw [scan_lns s.data.toList.length s.data.toList 1 (Nat.le_refl _)] at hR
  have hsl : s.data.toList.length = s.size := by rw [Array.length_toList]; rfl
  obtain ⟨hl1, hl2⟩ := lns_le s.data.toList
  have hll := lns_len s
  have hpb : (pcs s).length ≤ 8193 := by omega
  have hp0 : 0 < (pcs s).length := by
    obtain ⟨h, t, e⟩ := lns_cons s.data.toList
    rw [← hll, e]
    exact Nat.succ_pos _
  have hml : 0 < w.heap.size := hm.elim fun m h => cell_lt h
  (simp only [argEnv, Nat.zero_add, Nat.reduceAdd])
  apply W.sr
  apply oas; rfl; rfl
  apply oas; rfl; rfl
  apply OL.nsr
  apply oas; rfl; rfl
  apply OL.nsr
  apply oas; rfl; rfl
  apply OL.nsr
  apply omv; rfl; rfl
  refine OL.callE (α := Nat) (fun b => .slice (some ⟨b, 0, none⟩) (pcs s).length (pcs s).length) (fun b => w.heap.size ≤ b) (fun b => Cls [blk b 9 (strs (pcs s))] [w]) rfl rfl (by exact Args.au) (fun w2 hw2 => ?_) ?_
  · refine (sp.split_calls s (by omega) w2 (sp.maxAt_ext (hw2.toExt (s := w) (by exact mau) (fun k hk => .nil)) hm)).mono fun e w3 h => ⟨w2.heap.size, h.1, (hw2.kp w (by exact mau)).size, ?_⟩
    rw [h.2]
    exact hw2.alloc _ _
  intro b hb
  apply oas; rfl; rfl
  apply OL.nx
  apply W.seq
  apply W.sr
  apply oas; rfl; rfl
  apply OL.nx
  apply W.block
  refine W.loop (G := SS) (fun g => g.at_ ≤ (pcs s).length ∧ g.bads ++ (linesR Kw.kw true ((lns s.data.toList).drop g.at_) ((g.at_ : Int) + 1)).bads = R.bads ∧ (R.bads = [] → g.toks ++ (linesR Kw.kw true ((lns s.data.toList).drop g.at_) ((g.at_ : Int) + 1)).toks = R.toks) ∧ g.toks.length ≤ g.at_ * 8192 ∧ g.bads.length ≤ g.at_ * 8192) (fun g => (pcs s).length - g.at_)
    (fun g => [(7, true, .int .i64 (g.at_ : Int)), (6, true, .slice (some ⟨b, 0, none⟩) (pcs s).length (pcs s).length), (5, true, .slice g.q2 g.bads.length g.c2), (4, true, .slice g.q1 g.toks.length g.c1)])
    (fun g => Cls (ltI w.heap.size g ++ [blk b 9 (strs (pcs s))]) [w]) ⟨0, 1, 1, [], [], fun _ => False, none, 0, fun _ => False, none, 0⟩ ⟨Nat.zero_le _, by rw [← hR]; rfl, fun _ => by rw [← hR]; rfl, Nat.zero_le _, Nat.zero_le _⟩ (by exact Sub.au) (fun w' hw' => ?_) ?_
  · exact (hw'.row_nil w.heap.size 32 4).row_nil w.heap.size 35 5
  rintro g ⟨g1, g2, g3, g4, g5⟩
  unfold ltI
  apply W.seq
  apply W.sr
  apply omv; rfl; rfl
  apply omv; rfl; rfl
  apply oop; rfl; apply Pev.len_slice; rfl; exact yes; rfl
  apply obn; rfl; rfl; rfl; apply Bin.lss
  apply OL.nx
  refine W.cls (C' := Cls (ltI w.heap.size g ++ [blk b 9 (strs (pcs s))]) [w]) (fun w' hw' => hw') ?_
  (refine W.cnd (fun hlt => ?_) (fun hlt => ?_)) <;> (try (exfalso; first | omega | exact hlt trivial | contradiction))
  · obtain ⟨t, ht⟩ : ∃ t, (pcs s)[g.at_]? = some t := ⟨_, List.getElem?_eq_getElem (by omega)⟩
    have hlt2 := lns_at ht
    have hdr : (lns s.data.toList).drop g.at_ = t.data.toList :: (lns s.data.toList).drop (g.at_ + 1) := by
      rw [List.drop_eq_getElem_cons (by omega)]
      rw [List.getElem?_eq_getElem (by omega)] at hlt2
      rw [Option.some.inj hlt2]
    have hmem := List.mem_of_getElem? hlt2
    have htsz : t.size ≤ 8192 := by
      have h1 := hl2 _ hmem
      have h2 : t.data.toList.length = t.size := by rw [Array.length_toList]; rfl
      omega
    have hcell : (strs (pcs s))[0 + g.at_ * 1]? = some (.string t) := by rw [show 0 + g.at_ * 1 = g.at_ by omega]; exact strs_get ht
    rw [hdr] at g2 g3
    obtain ⟨l1, l2⟩ := linesR_cons (key := Kw.kw) (z := true) t.data.toList ((lns s.data.toList).drop (g.at_ + 1)) ((g.at_ : Int) + 1)
    rw [l1] at g2
    rw [l2] at g3
    unfold ltI
    apply W.sk
    apply W.sb
    apply W.sr
    apply omv; rfl; rfl
    apply omv; rfl; rfl
    apply oop; rfl; apply Pev.idxB; rfl; exact yes; rfl; exact yes; rfl; intro hcond; omega; rfl
    apply oop; rfl; apply Pev.load_blk; rfl; exact yes; exact .tail _ (.tail _ (.head _)); rfl; assumption
    apply omv; rfl; rfl
    apply obn; rfl; rfl; rfl; apply Bin.add_in; omega
    refine OL.callE (α := SS) (fun z => .tuple #[.slice z.q1 z.toks.length z.c1, .slice z.q2 z.bads.length z.c2]) (fun z => z.toks.length ≤ 8192 ∧ z.bads.length ≤ 8192 ∧ z.bads = (scan Kw.kw true t.data.toList ((g.at_ : Int) + 1) 1).bads ∧ ((scan Kw.kw true t.data.toList ((g.at_ : Int) + 1) 1).bads = [] → z.toks = (scan Kw.kw true t.data.toList ((g.at_ : Int) + 1) 1).toks)) (fun z => Cls (ltI w.heap.size z ++ (ltI w.heap.size g ++ [blk b 9 (strs (pcs s))])) [w]) rfl rfl (by exact Args.au) (fun w2 hw2 => ?_) ?_
    · refine (LineTokens_calls t ((g.at_ : Int) + 1) htsz (by omega) (lns_no10 _ _ hmem) w2 (lk.maxAt_keep hw2 (.head _) ?_ hm)).mono ?_
      · exact NotOwned.row (by omega) (NotOwned.row (by omega) (NotOwned.blk (by omega) .nil))
      rintro e w3 ⟨z, h1, h2, h3, h4, h5, h6⟩
      exact ⟨{ z with O1 := fun k => w2.heap.size ≤ k ∧ z.O1 k, O2 := fun k => w2.heap.size ≤ k ∧ z.O2 k }, h1, ⟨Nat.le_trans h2 htsz, Nat.le_trans h3 htsz, h4, h5⟩, callee2 hw2 h6 (hw2.kp w (.head _)).size⟩
    rintro z ⟨z1, z2, z3, z4⟩
    unfold ltI
    simp only [List.cons_append, List.nil_append]
    apply omv; rfl; rfl
    apply oex; rfl; rfl; rfl
    apply oex; rfl; rfl; rfl
    apply oas; rfl; rfl
    apply oas; rfl; rfl
    apply OL.nx
    apply W.reg
    apply omv; rfl; rfl
    apply omv; rfl; rfl
    ((apply OL.appendK (news := cat tokC z.toks)); rfl; rfl; rfl; rfl; (exact Hole.au); (exact fun w2 hw2 => SlAt.of_row (hw2.item (.head _))); (rw [cat_length tok_len]); (exact tok_one _); (exact ⟨w, .head _, Nat.le_refl _⟩); (omega); (intro O1 q1 c1))
    apply omv; rfl; rfl
    apply omv; rfl; rfl
    ((apply OL.appendK (news := cat badC z.bads)); rfl; rfl; rfl; rfl; (exact Hole.au); (exact fun w2 hw2 => SlAt.of_row (hw2.item (.tail _ (.head _)))); (rw [cat_length bad_len]); (exact bad_one _); (exact ⟨w, .head _, Nat.le_refl _⟩); (omega); (intro O2 q2 c2))
    apply oas; rfl; rfl
    apply oas; rfl; rfl
    apply OL.nil
    with_reducible apply At.in_normal
    with_reducible apply At.next
    apply W.reg
    apply omv; rfl; rfl
    apply obn; rfl; rfl; rfl; apply Bin.add_in; omega
    apply oas; rfl; rfl
    apply OL.nil
    have e1 : g.toks.length + z.toks.length = (g.toks ++ z.toks).length := by rw [List.length_append]
    have e2 : g.bads.length + z.bads.length = (g.bads ++ z.bads).length := by rw [List.length_append]
    rw [e1, e2, ← cat_append, ← cat_append]
    refine At.again { g with at_ := g.at_ + 1, toks := g.toks ++ z.toks, bads := g.bads ++ z.bads, O1 := O1, q1 := q1, c1 := c1, O2 := O2, q2 := q2, c2 := c2 } ⟨(show g.at_ + 1 ≤ (pcs s).length by omega), ?_, ?_, ?_, ?_⟩ (show (pcs s).length - (g.at_ + 1) < (pcs s).length - g.at_ by omega) (by exact Sub.au) (fun w' hw' => drop2 hw' (fun k hk => hk.1) (fun k hk => hk.1))
    · show (g.bads ++ z.bads) ++ (linesR Kw.kw true ((lns s.data.toList).drop (g.at_ + 1)) (((g.at_ + 1 : Nat) : Int) + 1)).bads = R.bads
      rw [← g2, z3, List.append_assoc]
      rfl
    · intro h
      show (g.toks ++ z.toks) ++ (linesR Kw.kw true ((lns s.data.toList).drop (g.at_ + 1)) (((g.at_ + 1 : Nat) : Int) + 1)).toks = R.toks
      have hb : (scan Kw.kw true t.data.toList ((g.at_ : Int) + 1) 1).bads = [] := by
        rw [h, List.append_eq_nil_iff] at g2
        exact (List.append_eq_nil_iff.1 g2.2).1
      rw [← g3 h, z4 hb, List.append_assoc]
      rfl
    · show (g.toks ++ z.toks).length ≤ (g.at_ + 1) * 8192
      omega
    · show (g.bads ++ z.bads).length ≤ (g.at_ + 1) * 8192
      omega
  · obtain hat : g.at_ = (pcs s).length := by omega
    rw [hat, List.drop_eq_nil_of_le (by omega)] at g2 g3
    obtain ⟨t, ht⟩ : ∃ t, (pcs s)[(pcs s).length - 1]? = some t := ⟨_, List.getElem?_eq_getElem (by omega)⟩
    obtain ⟨e1, e2⟩ := linesR_end (key := Kw.kw) (z := true) (lns s.data.toList) 1 ((pcs s).length - 1) t.data.toList (lns_no10 _) (by omega) (lns_at ht)
    rw [hR] at e1 e2
    unfold ltI
    simp only [List.cons_append, List.nil_append]
    have htsz : t.size ≤ 8192 := by
      have h1 := hl2 _ (List.mem_of_getElem? (lns_at ht))
      have h2 : t.data.toList.length = t.size := by rw [Array.length_toList]; rfl
      omega
    have hcell : (strs (pcs s))[0 + (((pcs s).length : Int) - 1).toNat * 1]? = some (.string t) := by rw [show 0 + (((pcs s).length : Int) - 1).toNat * 1 = (pcs s).length - 1 by omega]; exact strs_get ht
    have hlin : R.line = ((pcs s).length : Int) := by rw [e1]; omega
    have hcol : R.col = (t.size : Int) + 1 := by
      have h2 : t.data.toList.length = t.size := by rw [Array.length_toList]; rfl
      rw [e2, h2]
      omega
    have htl1 : g.toks.length + 1 = (g.toks ++ [(⟨9, [], 0, R.line, R.col⟩ : Tok)]).length := by simp
    have htc1 : cat tokC g.toks ++ [Value.int .i64 9, .string ⟨#[]⟩, .int .i64 0, .int .i64 ((pcs s).length : Int), .int .i64 ((t.size : Int) + 1)] = cat tokC (g.toks ++ [(⟨9, [], 0, R.line, R.col⟩ : Tok)]) := by rw [cat_append, hlin, hcol]; rfl
    refine W.xt ?_
    with_reducible apply At.next
    apply W.sr
    apply omv; rfl; rfl
    apply omv; rfl; rfl
    apply oop; rfl; apply Pev.len_slice; rfl; exact yes; rfl
    apply omv; rfl; rfl
    apply omv; rfl; rfl
    apply oop; rfl; apply Pev.len_slice; rfl; exact yes; rfl
    apply obn; rfl; rfl; rfl; apply Bin.sub_in; omega
    apply oop; rfl; apply Pev.idxB; rfl; exact yes; rfl; exact yes; rfl; intro hcond; omega; rfl
    apply oop; rfl; apply Pev.load_blk; rfl; exact yes; exact .tail _ (.tail _ (.head _)); rfl; assumption
    apply oop; rfl; apply Pev.len_str; rfl; exact yes; rfl
    apply obn; rfl; rfl; rfl; apply Bin.add_in; omega
    apply oop; rfl; apply Pev.build; rfl; exact CellsL.agg; rfl; exact Fill.au; rfl
    apply OL.buildSlice; rfl; rfl; rfl; exact Elems.au; rfl; rfl; (intro bk hbk; simp only [AllLe, and_true] at hbk)
    apply OL.append; rfl; rfl; rfl; rfl; exact Hole.au; exact .head _; exact Take.au; rfl; rfl; exact ⟨_, .head _, Nat.le_refl _⟩; omega; intro O1 g1 cap1
    apply omv; rfl; rfl
    apply oas; rfl; rfl
    apply oas; rfl; rfl
    apply OL.nx
    apply W.ret
    rw [htl1, htc1]
    ((with_reducible apply At.fin2); rfl; rfl; rfl; intro w' hw')
    refine ⟨{ g with toks := g.toks ++ [⟨9, [], 0, R.line, R.col⟩], O1 := O1, q1 := some ⟨g1, 0, none⟩, c1 := cap1 }, rfl, ?_, ?_, ?_, fun h => ?_, hw'.thin (by exact Thin.au)⟩
    · show (g.toks ++ [(⟨9, [], 0, R.line, R.col⟩ : Tok)]).length ≤ 100000000
      rw [← htl1]
      omega
    · show g.bads.length ≤ 100000000
      omega
    · show g.bads = R.bads
      rw [← g2]
      simp [linesR]
    · show g.toks ++ [(⟨9, [], 0, R.line, R.col⟩ : Tok)] = R.toks ++ [⟨9, [], 0, R.line, R.col⟩]
      rw [← g3 h]
      simp [linesR]
end Go.Proofs.YtnnpheacekieaaaDoor.lt

/- The walks of slices.Equal at equal lists of tokens and of located errors, and of the law LexerTokens. Condition: the variable bytealg.MaxLen holds some int. -/
namespace Go.Proofs.YtnnpheacekieaaaDoor.lt
open Go.RowKit Go.Eng Go.Lt Go.Sp Go.Shelf
set_option maxRecDepth 100000
theorem at_W {H : List Eng.Item} {S : List World} {w w' : World} {q : Option Addr} {vs : List Value} (h : SlAt w w.heap.size q vs) (hw : Cls H S w') (hs : w ∈ S) (hno : ∀ k, k < w.heap.size → NotOwned H k) : SlAt w' w'.heap.size q vs := fun hv => by
  obtain ⟨a, h1, h2, h3⟩ := h hv
  exact ⟨a, h1, hw.up hs _ h2, cells_stab (hw.same hs hno _ h2) h3⟩
theorem neqT_same (a : Int) (s : ByteArray) (b : Int) (c : Int) (d : Int) : Bin Tryd.prog .neq 35 (.agg #[.int .i64 a, .string s, .int .i64 b, .int .i64 c, .int .i64 d]) (.agg #[.int .i64 a, .string s, .int .i64 b, .int .i64 c, .int .i64 d]) (.bool false) := ⟨fun x y w => by
  have h1 := run_eqGuard_agg (P := Tryd.prog) w .neq 35 x y #[.int .i64 a, .string s, .int .i64 b, .int .i64 c, .int .i64 d] #[.int .i64 a, .string s, .int .i64 b, .int .i64 c, .int .i64 d] (by kernel_rfl)
  rw [Sem.run_bind, h1, Result.andThen_ok, run_neq_struct, run_equalIn_agg w 9999 35 _ _ (by kernel_rfl) (by kernel_rfl)]
  have hf : Tryd.prog.fieldsOf 35 = (match Tryd.prog.underlying 35 with | some (.struct fs) => fs | _ => #[]) := rfl
  rw [hf, Tryd.underlying35]
  simp only [Op.eqFields]
  have p1 : ∀ (w : World) (i : Nat) (v : Value) (cs : Array Value) (t : TypeId), cs[i]? = some v → scalB Tryd.prog t = true → (part t cs i).run Tryd.prog w = .ok v w := fun w i v cs t hv ht => by
    simp [part, Sem.run_bind, run_isAgg_scal ht, hv]
  have q0 := fun w => p1 w 0 (.int .i64 a) #[.int .i64 a, .string s, .int .i64 b, .int .i64 c, .int .i64 d] 3 rfl rfl
  have q1 := fun w => p1 w 1 (.string s) #[.int .i64 a, .string s, .int .i64 b, .int .i64 c, .int .i64 d] 9 rfl rfl
  have q2 := fun w => p1 w 2 (.int .i64 b) #[.int .i64 a, .string s, .int .i64 b, .int .i64 c, .int .i64 d] 3 rfl rfl
  have q3 := fun w => p1 w 3 (.int .i64 c) #[.int .i64 a, .string s, .int .i64 b, .int .i64 c, .int .i64 d] 3 rfl rfl
  have q4 := fun w => p1 w 4 (.int .i64 d) #[.int .i64 a, .string s, .int .i64 b, .int .i64 c, .int .i64 d] 3 rfl rfl
  have e0 := fun w z => run_equalIn_int (P := Tryd.prog) w 9998 3 .i64 .i64 z z Tryd.underlying3
  have e1 := fun w z => run_equalIn_string (P := Tryd.prog) w 9998 9 z z Tryd.underlying9
  simp [Sem.run_bind, q0, q1, q2, q3, q4, e0, e1]⟩
theorem neqD_same (a : Int) (b : Int) (c : Int) (s : ByteArray) : Bin Tryd.prog .neq 32 (.agg #[.int .i64 a, .int .i64 b, .int .i64 c, .string s]) (.agg #[.int .i64 a, .int .i64 b, .int .i64 c, .string s]) (.bool false) := ⟨fun x y w => by
  have h1 := run_eqGuard_agg (P := Tryd.prog) w .neq 32 x y #[.int .i64 a, .int .i64 b, .int .i64 c, .string s] #[.int .i64 a, .int .i64 b, .int .i64 c, .string s] (by kernel_rfl)
  rw [Sem.run_bind, h1, Result.andThen_ok, run_neq_struct, run_equalIn_agg w 9999 32 _ _ (by kernel_rfl) (by kernel_rfl)]
  have hf : Tryd.prog.fieldsOf 32 = (match Tryd.prog.underlying 32 with | some (.struct fs) => fs | _ => #[]) := rfl
  rw [hf, Tryd.underlying32]
  simp only [Op.eqFields]
  have p1 : ∀ (w : World) (i : Nat) (v : Value) (cs : Array Value) (t : TypeId), cs[i]? = some v → scalB Tryd.prog t = true → (part t cs i).run Tryd.prog w = .ok v w := fun w i v cs t hv ht => by
    simp [part, Sem.run_bind, run_isAgg_scal ht, hv]
  have q0 := fun w => p1 w 0 (.int .i64 a) #[.int .i64 a, .int .i64 b, .int .i64 c, .string s] 24 rfl rfl
  have q1 := fun w => p1 w 1 (.int .i64 b) #[.int .i64 a, .int .i64 b, .int .i64 c, .string s] 3 rfl rfl
  have q2 := fun w => p1 w 2 (.int .i64 c) #[.int .i64 a, .int .i64 b, .int .i64 c, .string s] 3 rfl rfl
  have q3 := fun w => p1 w 3 (.string s) #[.int .i64 a, .int .i64 b, .int .i64 c, .string s] 9 rfl rfl
  have e0 := fun w z => run_equalIn_int (P := Tryd.prog) w 9998 24 .i64 .i64 z z Tryd.underlying24
  have e1 := fun w z => run_equalIn_int (P := Tryd.prog) w 9998 3 .i64 .i64 z z Tryd.underlying3
  have e2 := fun w z => run_equalIn_string (P := Tryd.prog) w 9998 9 z z Tryd.underlying9
  simp [Sem.run_bind, q0, q1, q2, q3, e0, e1, e2]⟩
theorem EqualT_calls (q1 q2 : Option Addr) (c1 c2 : Nat) (l : List Tok) (w : World) (hlen : l.length ≤ 9000000000) (h1 : SlAt w w.heap.size q1 (cat tokC l)) (h2 : SlAt w w.heap.size q2 (cat tokC l)) :
    Calls Tryd.prog 8 #[.slice q1 l.length c1, .slice q2 l.length c2] w fun e w' => e = .returned (.bool true) ∧ Ext w w' := by
  refine enter Tryd.func8 rfl Tryd.ntmps8 rfl (Cls.start w) ?_
  (simp only [argEnv, Nat.zero_add, Nat.reduceAdd])
  apply W.sr
  apply oas; rfl; rfl
  apply OL.nx
  apply W.seq
  apply W.sr
  apply omv; rfl; rfl
  apply oop; rfl; apply Pev.len_slice; rfl; exact yes; rfl
  apply omv; rfl; rfl
  apply oop; rfl; apply Pev.len_slice; rfl; exact yes; rfl
  apply obn; rfl; rfl; rfl; apply Bin.neq
  apply OL.nx
  refine W.cond rfl (fun hc => by simp at hc) (fun _ => ?_)
  apply W.sk
  apply W.seq
  apply W.sr
  apply omv; rfl; rfl
  apply oop; rfl; apply Pev.len_slice; rfl; exact yes; rfl
  apply omv; rfl; rfl
  apply OL.nx
  apply W.block
  refine W.loop (G := Nat) (fun i => i ≤ l.length) (fun i => l.length - i)
    (fun i => [(13, true, .int .i64 (i : Int)), (12, true, .int .i64 (l.length : Int)), (0, true, .slice q1 l.length c1), (1, true, .slice q2 l.length c2)])
    (fun i => Cls [] [w]) 0 (by omega) (by exact Sub.au) (fun w' hw' => hw') ?_
  intro i hi
  apply W.sr
  apply obn; rfl; rfl; rfl; apply Bin.lss
  apply OL.nx
  apply W.seq
  (refine W.cnd (fun hlt => ?_) (fun hlt => ?_)) <;> (try (exfalso; first | omega | exact hlt trivial | contradiction))
  · obtain ⟨a1, x, rfl, hab1, hx, hc1⟩ := h1.elem tok_len (by decide) (show i < l.length by omega)
    obtain ⟨a2, y, rfl, hab2, hy, hc2⟩ := h2.elem tok_len (by decide) (show i < l.length by omega)
    rw [hx] at hy
    obtain rfl := Option.some.inj hy
    have hc1 : CellsAt w (a1.add (i * 5)) [.int .i64 x.kind, .string ⟨x.text.toArray⟩, .int .i64 x.n, .int .i64 x.line, .int .i64 x.col] := hc1
    have hc2 : CellsAt w (a2.add (i * 5)) [.int .i64 x.kind, .string ⟨x.text.toArray⟩, .int .i64 x.n, .int .i64 x.line, .int .i64 x.col] := hc2
    apply W.sk
    apply W.sb
    apply W.sr
    apply omv; rfl; rfl
    apply oas; rfl; rfl
    apply OL.nx
    apply W.seq
    apply W.regd0; decide +kernel; kernel_rfl; decide +kernel; exact fun w hw => hw.drew
    apply qmv; rfl; rfl
    apply qmv; rfl; rfl
    apply qop; rfl; apply Pev.idx; rfl; exact yes; rfl; exact yes; rfl; rfl; intro hcond; omega
    apply qop; rfl; apply Pev.load_keptA; rfl; exact yes; exact .head _; rfl; intro hcond; assumption; rfl; intro hcond; (rw [add_block]; assumption); intro hcond; exact NotOwned.au
    apply qmv; rfl; rfl
    apply qmv; rfl; rfl
    apply qop; rfl; apply Pev.idx; rfl; exact yes; rfl; exact yes; rfl; rfl; intro hcond; omega
    apply qop; rfl; apply Pev.load_keptA; rfl; exact yes; exact .head _; rfl; intro hcond; assumption; rfl; intro hcond; (rw [add_block]; assumption); intro hcond; exact NotOwned.au
    (((first | (with_reducible apply OL.op) | (with_reducible apply QL.op)); (exact Guard.au); rfl; rfl); (refine Pev.bin (r := .bool false) rfl (by (first | exact fun _ => rfl | exact fun h => h | (intro h; simp_all; done))) rfl (by (first | exact fun _ => rfl | exact fun h => h | (intro h; simp_all; done))) (fun _ => neqT_same x.kind ⟨x.text.toArray⟩ x.n x.line x.col)))
    apply QL.nil
    with_reducible apply At.next
    refine W.cond rfl (fun hc => by cases hc) (fun _ => ?_)
    apply W.skip
    with_reducible apply At.in_normal
    with_reducible apply At.next
    apply W.reg
    apply obn; rfl; rfl; rfl; apply Bin.add_in; omega
    apply omv; rfl; rfl
    apply OL.nil
    exact At.again (i + 1) (by omega) (by omega) (by exact Sub.au) (fun w' hw' => hw')
  · refine W.xt ?_
    with_reducible apply At.next
    apply W.sr
    apply oas; rfl; rfl
    apply OL.nx
    apply W.ret
    ((with_reducible apply At.fin1); rfl; rfl; intro w' hw')
    exact ⟨rfl, by (exact hw'.fr)⟩
theorem EqualD_calls (q1 q2 : Option Addr) (c1 c2 : Nat) (l : List Bad) (w : World) (hlen : l.length ≤ 9000000000) (h1 : SlAt w w.heap.size q1 (cat badC l)) (h2 : SlAt w w.heap.size q2 (cat badC l)) :
    Calls Tryd.prog 7 #[.slice q1 l.length c1, .slice q2 l.length c2] w fun e w' => e = .returned (.bool true) ∧ Ext w w' := by
  refine enter Tryd.func7 rfl Tryd.ntmps7 rfl (Cls.start w) ?_
  (simp only [argEnv, Nat.zero_add, Nat.reduceAdd])
  apply W.sr
  apply oas; rfl; rfl
  apply OL.nx
  apply W.seq
  apply W.sr
  apply omv; rfl; rfl
  apply oop; rfl; apply Pev.len_slice; rfl; exact yes; rfl
  apply omv; rfl; rfl
  apply oop; rfl; apply Pev.len_slice; rfl; exact yes; rfl
  apply obn; rfl; rfl; rfl; apply Bin.neq
  apply OL.nx
  refine W.cond rfl (fun hc => by simp at hc) (fun _ => ?_)
  apply W.sk
  apply W.seq
  apply W.sr
  apply omv; rfl; rfl
  apply oop; rfl; apply Pev.len_slice; rfl; exact yes; rfl
  apply omv; rfl; rfl
  apply OL.nx
  apply W.block
  refine W.loop (G := Nat) (fun i => i ≤ l.length) (fun i => l.length - i)
    (fun i => [(13, true, .int .i64 (i : Int)), (12, true, .int .i64 (l.length : Int)), (0, true, .slice q1 l.length c1), (1, true, .slice q2 l.length c2)])
    (fun i => Cls [] [w]) 0 (by omega) (by exact Sub.au) (fun w' hw' => hw') ?_
  intro i hi
  apply W.sr
  apply obn; rfl; rfl; rfl; apply Bin.lss
  apply OL.nx
  apply W.seq
  (refine W.cnd (fun hlt => ?_) (fun hlt => ?_)) <;> (try (exfalso; first | omega | exact hlt trivial | contradiction))
  · obtain ⟨a1, x, rfl, hab1, hx, hc1⟩ := h1.elem bad_len (by decide) (show i < l.length by omega)
    obtain ⟨a2, y, rfl, hab2, hy, hc2⟩ := h2.elem bad_len (by decide) (show i < l.length by omega)
    rw [hx] at hy
    obtain rfl := Option.some.inj hy
    have hc1 : CellsAt w (a1.add (i * 4)) [.int .i64 x.code, .int .i64 x.line, .int .i64 x.col, .string ⟨#[]⟩] := hc1
    have hc2 : CellsAt w (a2.add (i * 4)) [.int .i64 x.code, .int .i64 x.line, .int .i64 x.col, .string ⟨#[]⟩] := hc2
    apply W.sk
    apply W.sb
    apply W.sr
    apply omv; rfl; rfl
    apply oas; rfl; rfl
    apply OL.nx
    apply W.seq
    apply W.regd0; decide +kernel; kernel_rfl; decide +kernel; exact fun w hw => hw.drew
    apply qmv; rfl; rfl
    apply qmv; rfl; rfl
    apply qop; rfl; apply Pev.idx; rfl; exact yes; rfl; exact yes; rfl; rfl; intro hcond; omega
    apply qop; rfl; apply Pev.load_keptA; rfl; exact yes; exact .head _; rfl; intro hcond; assumption; rfl; intro hcond; (rw [add_block]; assumption); intro hcond; exact NotOwned.au
    apply qmv; rfl; rfl
    apply qmv; rfl; rfl
    apply qop; rfl; apply Pev.idx; rfl; exact yes; rfl; exact yes; rfl; rfl; intro hcond; omega
    apply qop; rfl; apply Pev.load_keptA; rfl; exact yes; exact .head _; rfl; intro hcond; assumption; rfl; intro hcond; (rw [add_block]; assumption); intro hcond; exact NotOwned.au
    (((first | (with_reducible apply OL.op) | (with_reducible apply QL.op)); (exact Guard.au); rfl; rfl); (refine Pev.bin (r := .bool false) rfl (by (first | exact fun _ => rfl | exact fun h => h | (intro h; simp_all; done))) rfl (by (first | exact fun _ => rfl | exact fun h => h | (intro h; simp_all; done))) (fun _ => neqD_same x.code x.line x.col ⟨#[]⟩)))
    apply QL.nil
    with_reducible apply At.next
    refine W.cond rfl (fun hc => by cases hc) (fun _ => ?_)
    apply W.skip
    with_reducible apply At.in_normal
    with_reducible apply At.next
    apply W.reg
    apply obn; rfl; rfl; rfl; apply Bin.add_in; omega
    apply omv; rfl; rfl
    apply OL.nil
    exact At.again (i + 1) (by omega) (by omega) (by exact Sub.au) (fun w' hw' => hw')
  · refine W.xt ?_
    with_reducible apply At.next
    apply W.sr
    apply oas; rfl; rfl
    apply OL.nx
    apply W.ret
    ((with_reducible apply At.fin1); rfl; rfl; intro w' hw')
    exact ⟨rfl, by (exact hw'.fr)⟩
theorem scan_three : (scanR ⟨#[120, 43, 49]⟩).1.length = 4 ∧ (scanR ⟨#[120, 43, 49]⟩).2.2 = 0 := by decide +kernel
theorem tokens_law (s : ByteArray) (hs : s.size ≤ 9223372036854775807) (w : World) (hm : lk.maxAt w) :
    Calls Tryd.prog 3 #[.string s] w fun e w' => e = .returned (.bool true) ∧ Ext w w' := by
  refine enter Tryd.func3 rfl Tryd.ntmps3 rfl (Cls.start w) ?_
  have hml : 0 < w.heap.size := hm.elim fun m h => cell_lt h
  (simp only [argEnv, Nat.zero_add, Nat.reduceAdd])
  apply W.sr
  apply oas; rfl; rfl
  apply OL.nx
  apply W.seq
  apply W.sr
  refine OL.callE (α := Option Addr × Nat × Option Addr × Nat) (fun z => .tuple #[.slice z.1 (scanR ⟨#[120, 43, 49]⟩).1.length z.2.1, .slice z.2.2.1 (scanR ⟨#[120, 43, 49]⟩).2.1.length z.2.2.2, .int .i64 (scanR ⟨#[120, 43, 49]⟩).2.2]) (fun _ => True) (fun _ => Cls [] [w]) rfl rfl (by exact Args.au) (fun w2 hw2 => (Scan_calls ⟨#[120, 43, 49]⟩ (by decide) w2 (lk.maxAt_keep hw2 (.head _) .nil hm)).mono fun e w3 ⟨q1, c1, q2, c2, h1, _, _, h4⟩ => ⟨(q1, c1, q2, c2), h1, trivial, hw2.ext h4⟩) ?_
  rintro ⟨q1, c1, q2, c2⟩ _
  rw [scan_three.1, scan_three.2]
  apply omv; rfl; rfl
  apply oex; rfl; rfl; rfl
  apply oex; rfl; rfl; rfl
  apply oex; rfl; rfl; rfl
  apply oas; rfl; rfl
  apply oas; rfl; rfl
  apply oas; rfl; rfl
  apply OL.nsr
  apply omv; rfl; rfl
  apply oop; rfl; apply Pev.len_slice; rfl; exact yes; rfl
  apply obn; rfl; rfl; rfl; apply Bin.neq
  apply omv; rfl; rfl
  apply ono; rfl; rfl; rfl; apply Pev.move; rfl; exact yes
  apply ono; rfl; rfl; rfl; apply Pev.bin; rfl; exact yes; rfl; exact yes; intro hcond; apply Bin.neq
  apply oop; rfl; apply Pev.pick_or; rfl; exact yes; rfl; exact yes
  apply OL.nx
  refine W.cond rfl (fun hb => by simp at hb) (fun _ => ?_)
  apply W.sk
  apply W.sr
  apply omv; rfl; rfl
  refine OL.callE (α := (Option Addr × Nat × Option Addr × Nat) × World) (fun z => .tuple #[.slice z.1.1 (scanR s).1.length z.1.2.1, .slice z.1.2.2.1 (scanR s).2.1.length z.1.2.2.2, .int .i64 (scanR s).2.2]) (fun z => SlAt z.2 z.2.heap.size z.1.1 (cat tokC (scanR s).1) ∧ SlAt z.2 z.2.heap.size z.1.2.2.1 (cat badC (scanR s).2.1) ∧ w.heap.size ≤ z.2.heap.size) (fun z => Cls [] [z.2, w]) rfl rfl (by exact Args.au) (fun w2 hw2 => (Scan_calls s hs w2 (lk.maxAt_keep hw2 (.head _) .nil hm)).mono fun e w3 ⟨q1, c1, q2, c2, h1, h2, h3, h4⟩ => ⟨((q1, c1, q2, c2), w3), h1, ⟨h2, h3, (hw2.ext h4).kp w (.head _) |>.size⟩, (hw2.ext h4).note⟩) ?_
  rintro ⟨⟨q1, c1, q2, c2⟩, w1⟩ ⟨hT, hB, hsz⟩
  simp only at hT hB hsz ⊢
  apply omv; rfl; rfl
  apply oex; rfl; rfl; rfl
  apply oex; rfl; rfl; rfl
  apply oex; rfl; rfl; rfl
  apply oas; rfl; rfl
  apply oas; rfl; rfl
  apply oas; rfl; rfl
  apply OL.nx
  apply W.seq
  apply W.sr
  apply omv; rfl; rfl
  (((first | (with_reducible apply OL.op) | (with_reducible apply QL.op)); (exact Guard.au); rfl; rfl); (exact Pev.call (v := .int .i64 (chk s)) rfl (by exact Args.au) (fun _ w2 hw2 => (sp.TextError_calls s hs w2).mono (fun e w3 h => ⟨h.1, hw2.ext h.2⟩))))
  apply oas; rfl; rfl
  apply OL.nsr
  apply omv; rfl; rfl
  apply obn; rfl; rfl; rfl; apply Bin.neq
  apply OL.nx
  (refine W.cnd (fun hchk => ?_) (fun hchk => ?_)) <;> (try (exfalso; first | omega | exact hchk trivial | contradiction))
  · have he : scanR s = ([], [], chk s) := by unfold scanR; rw [if_pos (by simpa using hchk)]
    rw [he]
    apply W.sr
    apply omv; rfl; rfl
    apply omv; rfl; rfl
    apply obn; rfl; rfl; rfl; apply Bin.eql
    apply omv; rfl; rfl
    apply oy; rfl; rfl; rfl; apply Pev.move; rfl; exact yes
    apply oy; rfl; rfl; rfl; apply Pev.len_slice; rfl; exact fun h => h; rfl
    apply oy; rfl; rfl; rfl; apply Pev.bin; rfl; exact fun h => h; rfl; exact yes; intro hcond; apply Bin.eql
    apply oop; rfl; apply Pev.pick_and; rfl; exact yes; rfl; exact fun h => h
    apply omv; rfl; rfl
    apply oy; rfl; rfl; rfl; apply Pev.move; rfl; exact yes
    apply oy; rfl; rfl; rfl; apply Pev.len_slice; rfl; exact fun h => h; rfl
    apply oy; rfl; rfl; rfl; apply Pev.bin; rfl; exact fun h => h; rfl; exact yes; intro hcond; apply Bin.eql
    apply oop; rfl; apply Pev.pick_and; rfl; exact yes; rfl; exact fun h => h
    apply oas; rfl; rfl
    apply OL.nx
    refine W.rt ?_
    ((with_reducible apply At.fin1); rfl; rfl; intro w' hw')
    exact ⟨by simp, hw'.fr (by exact mau)⟩
  have hchk : chk s = 0 := by simpa using hchk
  have hsz2 : s.size ≤ 8192 := by
    unfold chk at hchk
    by_cases h : 8192 < s.size
    · rw [if_pos h] at hchk
      cases hchk
    · omega
  apply W.sk
  apply W.sr
  apply omv; rfl; rfl
  refine OL.callE (α := SS) (fun z => .tuple #[.slice z.q1 z.toks.length z.c1, .slice z.q2 z.bads.length z.c2]) (fun z => z.toks.length ≤ 100000000 ∧ z.bads.length ≤ 100000000 ∧ z.bads = (scan Kw.kw true s.data.toList 1 1).bads ∧ ((scan Kw.kw true s.data.toList 1 1).bads = [] → z.toks = (scan Kw.kw true s.data.toList 1 1).toks ++ [⟨9, [], 0, (scan Kw.kw true s.data.toList 1 1).line, (scan Kw.kw true s.data.toList 1 1).col⟩])) (fun z => Cls (ltI w1.heap.size z) [w1, w]) rfl rfl (by exact Args.au) (fun w2 hw2 => ?_) ?_
  · refine (Tokens_calls s hsz2 w2 (lk.maxAt_keep hw2 (.tail _ (.head _)) .nil hm)).mono ?_
    rintro e w3 ⟨z, h1, h2, h3, h4, h5, h6⟩
    exact ⟨{ z with O1 := fun k => w2.heap.size ≤ k ∧ z.O1 k, O2 := fun k => w2.heap.size ≤ k ∧ z.O2 k }, h1, ⟨h2, h3, h4, h5⟩, callee2 hw2 h6 (hw2.kp w1 (.head _)).size⟩
  rintro ⟨zat, zline, zcol, toks, bads, O1, p1, d1, O2, p2, d2⟩ ⟨z1, z2, z3, z4⟩
  simp only at z1 z2 z3 z4
  unfold ltI
  simp only
  have hno : ∀ k, k < w1.heap.size → NotOwned [row w1.heap.size O1 p1 toks.length d1 35 5 (cat tokC toks), row w1.heap.size O2 p2 bads.length d2 32 4 (cat badC bads)] k := fun k hk => NotOwned.row hk (NotOwned.row hk .nil)
  apply omv; rfl; rfl
  apply oex; rfl; rfl; rfl
  apply oex; rfl; rfl; rfl
  apply oas; rfl; rfl
  apply oas; rfl; rfl
  apply OL.nx
  apply W.seq
  apply W.sr
  apply omv; rfl; rfl
  apply oop; rfl; apply Pev.len_slice; rfl; exact yes; rfl
  apply obn; rfl; rfl; rfl; apply Bin.gtr
  apply OL.nx
  (refine W.cnd (fun hbad => ?_) (fun hbad => ?_)) <;> (try (exfalso; first | omega | exact hbad trivial | contradiction))
  · obtain ⟨b, rb, hbr⟩ : ∃ b rb, bads = b :: rb := by
      cases hx : bads with
      | nil => rw [hx] at hbad; simp at hbad
      | cons b r => exact ⟨b, r, rfl⟩
    have he : scanR s = ([], bads, b.code) := by
      unfold scanR
      rw [if_neg (by simpa using hchk), ← z3, hbr]
    rw [he] at hB ⊢
    simp only at hB ⊢
    subst hbr
    refine W.fact (φ := ∃ g0, p2 = some ⟨g0, 0, none⟩) (fun w' hw' => row_some (hw'.item (.tail _ (.head _))) (by simp)) (fun hq => ?_)
    obtain ⟨g0, rfl⟩ := hq
    apply W.sr
    apply omv; rfl; rfl
    apply oop; rfl; apply Pev.len_slice; rfl; exact yes; rfl
    apply obn; rfl; rfl; rfl; apply Bin.eql
    apply omv; rfl; rfl
    apply oy; rfl; rfl; rfl; apply Pev.move; rfl; exact yes
    apply oy; rfl; rfl; rfl; apply Pev.move; rfl; exact yes
    (((first | (with_reducible apply OL.op) | (with_reducible apply QL.op)); (exact Guard.au); rfl; rfl); (refine Pev.call (v := .bool true) rfl (by exact Args.au) (fun _ w2 hw2 => (EqualD_calls q2 (some ⟨g0, 0, none⟩) c2 d2 (b :: rb) w2 (by omega) (at_W hB hw2 (.head _) hno) (SlAt.of_row (hw2.item (.tail _ (.head _))))).mono (fun e w3 h => ⟨h.1, hw2.ext h.2⟩))))
    apply oop; rfl; apply Pev.pick_and; rfl; exact yes; rfl; exact yes
    apply omv; rfl; rfl
    apply oy; rfl; rfl; rfl; apply Pev.move; rfl; exact yes
    apply oy; rfl; rfl; rfl; apply Pev.move; rfl; exact yes
    apply oy; rfl; rfl; rfl; apply Pev.idxB; rfl; exact yes; rfl; exact yes; rfl; intro hcond; omega; rfl
    apply oy; rfl; rfl; rfl; apply Pev.fld; rfl; exact yes; rfl
    (((first | (with_reducible apply OL.op) | (with_reducible apply QL.op)); (exact Guard.au); rfl; rfl); (refine Pev.load_row rfl (by (first | exact fun _ => rfl | exact fun h => h | (intro h; simp_all; done))) (.tail _ (.head _)) rfl (v := .int .i64 b.code) rfl))
    apply oy; rfl; rfl; rfl; apply Pev.bin; rfl; exact yes; rfl; exact yes; intro hcond; apply Bin.eql
    apply oop; rfl; apply Pev.pick_and; rfl; exact yes; rfl; exact yes
    apply oas; rfl; rfl
    apply OL.nx
    refine W.rt ?_
    ((with_reducible apply At.fin1); rfl; rfl; intro w' hw')
    exact ⟨by simp, (hw'.thin (.any (fun k hk => ⟨hk.1, Nat.le_trans hsz hk.1, trivial⟩) (.any (fun k hk => ⟨hk.1, Nat.le_trans hsz hk.1, trivial⟩) .nil))).fr (by exact mau)⟩
  · have hnb : bads = [] := by
      cases hx : bads with
      | nil => rfl
      | cons b r => rw [hx] at hbad; simp at hbad; omega
    rw [hnb] at z3
    have he : scanR s = (toks, [], 0) := by
      unfold scanR
      rw [if_neg (by simpa using hchk), ← z3, z4 z3.symm]
    rw [he] at hT ⊢
    simp only at hT ⊢
    apply W.sk
    apply W.sr
    apply omv; rfl; rfl
    apply obn; rfl; rfl; rfl; apply Bin.eql
    apply omv; rfl; rfl
    apply oy; rfl; rfl; rfl; apply Pev.move; rfl; exact yes
    apply oy; rfl; rfl; rfl; apply Pev.len_slice; rfl; exact yes; rfl
    apply oy; rfl; rfl; rfl; apply Pev.bin; rfl; exact yes; rfl; exact yes; intro hcond; apply Bin.eql
    apply oop; rfl; apply Pev.pick_and; rfl; exact yes; rfl; exact yes
    apply omv; rfl; rfl
    apply oy; rfl; rfl; rfl; apply Pev.move; rfl; exact yes
    apply oy; rfl; rfl; rfl; apply Pev.move; rfl; exact yes
    (((first | (with_reducible apply OL.op) | (with_reducible apply QL.op)); (exact Guard.au); rfl; rfl); (refine Pev.call (v := .bool true) rfl (by exact Args.au) (fun _ w2 hw2 => (EqualT_calls q1 p1 c1 d1 toks w2 (by omega) (at_W hT hw2 (.head _) hno) (SlAt.of_row (hw2.item (.head _)))).mono (fun e w3 h => ⟨h.1, hw2.ext h.2⟩))))
    apply oop; rfl; apply Pev.pick_and; rfl; exact yes; rfl; exact yes
    apply oas; rfl; rfl
    apply OL.nx
    apply W.ret
    ((with_reducible apply At.fin1); rfl; rfl; intro w' hw')
    exact ⟨by simp, (hw'.thin (.any (fun k hk => ⟨hk.1, Nat.le_trans hsz hk.1, trivial⟩) (.any (fun k hk => ⟨hk.1, Nat.le_trans hsz hk.1, trivial⟩) .nil))).fr (by exact mau)⟩
end Go.Proofs.YtnnpheacekieaaaDoor.lt

/- Readings with the reach: what a slice's and a struct's parts are, and how much they weigh at most. General. No condition. -/
namespace Go.Eng
open Go.RowKit Go.ChangeShapes Go.WideShapes Go.ChangeAt
section
variable {H : Type} {enc : TypeId × Value → H} {P : Program} {w : World} {spare : Nat → Bool} {held : Bool}
/-- a datum within reach -/
def Lt (P : Program) (t : TypeId) (d : DataW H) : Prop := ∀ n ∈ d.weights P t, n ≤ reachBytes
theorem weightsAll_mem {e : TypeId} : ∀ {ds : List (DataW H)} {d : DataW H}, d ∈ ds → ∀ n ∈ d.weights P e, n ∈ DataW.weightsAll P e ds
  | x :: ds, d, hd, n, hn => by
    simp only [DataW.weightsAll, List.mem_append]
    rcases List.mem_cons.1 hd with rfl | hd
    · exact .inl hn
    · exact .inr (weightsAll_mem hd n hn)
theorem Lt.arg {ts : List TypeId} {ds : List (DataW H)} (h : (DataW.weightsEach P ts ds).all (· ≤ reachBytes) = true) {j : Nat} {t : TypeId} {d : DataW H} (ht : ts[j]? = some t) (hd : ds[j]? = some d) : Lt P t d := fun n hn => by
  have := List.all_eq_true.1 h _ (DataW.weights_mem_each ht hd n hn)
  simpa using this
theorem Lt.str {t : TypeId} {b : List UInt8} (h : Lt (H := H) P t (.lit (.string b))) : b.length ≤ reachBytes := h b.length (by simp [DataW.weights])
/-- a struct that reads -/
theorem rd_struct {t : TypeId} {fs : Array Field} {fuel : Nat} {cs : List Value} {x : DataW H × List MemPlace} (ht : P.underlying t = some (.struct fs)) (h : DataW.trod enc P w 0 spare held fuel t cs = some x) (hw : Lt P t x.1) :
    cs.length = P.cellsOf t ∧ ∃ n, n < fuel ∧ ∀ (i : Nat) (f : Field), fs[i]? = some f → ∃ y, DataW.trod enc P w 0 spare held n f.type ((cs.drop f.offset).take (P.cellsOf f.type)) = some y ∧ Lt P f.type y.1 := by
  obtain ⟨xs, n, hfu, rfl, hlen, hxl, hf⟩ := DataW.trod_struct ht h
  refine ⟨hlen, n, by omega, fun i f hi => ?_⟩
  have hlt : i < xs.length := by rw [hxl]; exact (Array.getElem?_eq_some_iff.1 hi).1
  refine ⟨xs[i], by rw [hf i f hi, List.getElem?_eq_getElem hlt], fun k hk => hw k ?_⟩
  simp only [DataW.weights, ht]
  exact DataW.weights_mem_each (j := i) (t := f.type) (d := xs[i].1) (by simpa using ⟨f, by simpa using hi, rfl⟩) (by simp [hlt]) k hk
/-- a slice that reads -/
theorem rd_slice0 {t e : TypeId} {sz fuel : Nat} {cs : List Value} {x : DataW H × List MemPlace} (ht : P.underlying t = some (.slice e)) (hs : P.cellsOf e = sz) (h : DataW.trod enc P w 0 spare held fuel t cs = some x) (hw : Lt P t x.1) :
    ∃ (q : Option Addr) (len cap : Nat), cs = [.slice q len cap] ∧ len ≤ cap ∧ cap ≤ maxLen ∧ len * P.bytesOf e ≤ reachBytes ∧ (q = none → len = 0) ∧
      ∃ n, n < fuel ∧ ∀ a, q = some a → ∀ i, i < len → ∃ cs' y, CellsAt w (a.add (i * sz)) cs' ∧ cs'.length = sz ∧ DataW.trod enc P w 0 spare held n e cs' = some y ∧ Lt P e y.1 := by
  rcases DataW.trod_slice ht h with ⟨rfl, _⟩ | ⟨a, len, cap, elems, rest, n, hf, rfl, rfl, _, hl, hm, hlen, hel, _, _⟩
  · refine ⟨none, 0, 0, rfl, Nat.le_refl _, by simp [maxLen], by simp, fun _ => rfl, 0, ?_, fun a ha => by cases ha⟩
    cases fuel with
    | zero => simp [DataW.trod] at h
    | succ n => omega
  · have hwt : len * P.bytesOf e ≤ reachBytes := by
      have h1 := hw ((elems.map (·.1)).length * P.bytesOf e + (rest.map (·.1)).length * P.bytesOf e) (by simp [DataW.weights, ht, Nat.add_mul])
      rw [List.length_map, hlen] at h1
      omega
    refine ⟨some a, len, cap, rfl, hl, hm, hwt, (fun hn => by cases hn), n, by omega, fun a' ha i hi => ?_⟩
    obtain rfl := Option.some.inj ha
    have h1 := hel i hi
    rw [List.getElem?_eq_getElem (by omega)] at h1
    rw [hs] at h1
    obtain ⟨cs', hc, ht'⟩ := Option.bind_eq_some_iff.1 h1
    obtain ⟨h2, h3⟩ := cellsAt_of hc
    refine ⟨cs', _, h2, h3, ht', fun k hk => hw k ?_⟩
    simp only [DataW.weights, ht]
    exact List.mem_cons_of_mem _ (List.mem_append_left _ (weightsAll_mem (d := elems[i].1) (List.mem_map.2 ⟨_, List.getElem_mem (by omega), rfl⟩) k hk))
variable {α : Type} {f : α → List Value} {sz : Nat} {R : α → Prop}
/-- a slice whose elements read, as a list -/
theorem rd_slice {t e : TypeId} {fuel : Nat} {cs : List Value} {x : DataW H × List MemPlace} (ht : P.underlying t = some (.slice e)) (hs : P.cellsOf e = sz) (hsz : 0 < sz) (hf : ∀ x, (f x).length = sz)
    (he : ∀ (n : Nat) (cs' : List Value) (y : DataW H × List MemPlace), n < fuel → DataW.trod enc P w 0 spare held n e cs' = some y → Lt P e y.1 → ∃ u : α, cs' = f u ∧ R u)
    (h : DataW.trod enc P w 0 spare held fuel t cs = some x) (hw : Lt P t x.1) :
    ∃ (q : Option Addr) (l : List α) (cap : Nat), cs = [.slice q l.length cap] ∧ l.length ≤ cap ∧ cap ≤ maxLen ∧ l.length * P.bytesOf e ≤ reachBytes ∧ SlAt w w.heap.size q (cat f l) ∧ ∀ u ∈ l, R u := by
  obtain ⟨q, len, cap, rfl, hle, hcap, hwt, hq0, m, hm, hel⟩ := rd_slice0 ht hs h hw
  cases q with
  | none =>
    obtain rfl := hq0 rfl
    exact ⟨none, [], cap, rfl, hle, hcap, by simp, SlAt.nil, fun u hu => by cases hu⟩
  | some a =>
    obtain ⟨l, hl, hr⟩ := list_of (fun i (u : α) => CellsAt w (a.add (i * sz)) (f u) ∧ R u) len (fun i hi => by
      obtain ⟨cs', y, hc, hl1, ht', hy⟩ := hel a rfl i hi
      obtain ⟨u, rfl, hR⟩ := he m cs' y hm ht' hy
      exact ⟨u, hc, hR⟩)
    subst hl
    refine ⟨some a, l, cap, rfl, hle, hcap, hwt, fun hv => ⟨a, rfl, ?_, fun j v hj => ?_⟩, fun u hu => ?_⟩
    · rw [cat_length hf] at hv
      have hl0 : 0 < l.length := Nat.pos_of_mul_pos_right hv
      have h0 := (hr 0 _ (List.getElem?_eq_getElem hl0)).1
      rw [Nat.zero_mul, add_zero_] at h0
      have hz : 0 < (f l[0]).length := by rw [hf]; exact hsz
      have := h0 0 _ (List.getElem?_eq_getElem hz)
      rw [add_zero_] at this
      exact cell_lt this
    · have hjl := (List.getElem?_eq_some_iff.1 hj).1
      rw [cat_length hf] at hjl
      have hi : j / sz < l.length := Nat.div_lt_of_lt_mul (by rwa [Nat.mul_comm] at hjl)
      have h0 := (hr (j / sz) _ (List.getElem?_eq_getElem hi)).1
      have hm' : j % sz < (f l[j / sz]).length := by rw [hf]; exact Nat.mod_lt _ hsz
      have h1 := cat_get hf (List.getElem?_eq_getElem hi) (j % sz) _ (List.getElem?_eq_getElem hm')
      have ej : j / sz * sz + j % sz = j := by rw [Nat.mul_comm]; exact Nat.div_add_mod j sz
      rw [ej, hj] at h1
      have h2 := h0 (j % sz) _ (List.getElem?_eq_getElem hm')
      rw [add_add, ej] at h2
      rw [h2, h1]
    · obtain ⟨i, hi, rfl⟩ := List.getElem_of_mem hu
      exact (hr i _ (List.getElem?_eq_getElem hi)).2
end
end Go.Eng
