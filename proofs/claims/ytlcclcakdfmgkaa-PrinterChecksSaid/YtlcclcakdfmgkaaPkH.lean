/- The walk of the reference's search for a fit. Conditions: none. -/
import Derived.Test.YtlcclcakdfmgkaaPkG
import Derived.Test.YtlcclcakdfmgkaaPkN
namespace Go.Pk
open Go.Eng Go.RowKit
set_option linter.unusedVariables false
set_option linter.unusedSimpArgs false
section
variable {P : Program} {n : Nat} {l : Env} {C : World → Prop} {c : Bool} {d : Option Nat} {ty : TypeId} {pos : String} {af : Array Edge} {g : Option (Nat × Bool)}
variable {t : TypeId} {x y z : Operand} {cx cy cz : Bool}
theorem sliceE {b : UInt8} {s : List UInt8} {kl : IntKind} (hx : evl l x = some (cx, .string (E (b :: s)))) (hcx : c = true → cx = true) (hy : evl l y = some (cy, .int kl 1)) (hcy : c = true → cy = true) (hu : strB P t = true) :
    Pev P n l C ⟨d, .slice t x (some y) none none, ty, pos, af, g⟩ c (.string (E s)) := by
  have h := Pev.slice_str_lo (C := C) (n := n) (d := d) (ty := ty) (pos := pos) (af := af) (g := g) 1 hx hcx hy hcy hu (fun _ => ⟨rfl, by rw [E_size]; simp⟩)
  rw [E_tail] at h
  exact h
theorem sliceE1 {b : UInt8} {s : List UInt8} {kh : IntKind} (hx : evl l x = some (cx, .string (E (b :: s)))) (hcx : c = true → cx = true) (hz : evl l z = some (cz, .int kh 1)) (hcz : c = true → cz = true) (hu : strB P t = true) :
    Pev P n l C ⟨d, .slice t x none (some z) none, ty, pos, af, g⟩ c (.string (E [b])) := by
  have h := Pev.slice_str_hi (C := C) (n := n) (d := d) (ty := ty) (pos := pos) (af := af) (g := g) 1 hx hcx hz hcz hu (fun _ => ⟨rfl, by rw [E_size]; simp⟩)
  rw [E_head] at h
  exact h
theorem indexE {b : UInt8} {s : List UInt8} {ki : IntKind} (hx : evl l x = some (cx, .string (E (b :: s)))) (hcx : c = true → cx = true) (hy : evl l y = some (cy, .int ki 0)) (hcy : c = true → cy = true) (hu : strB P t = true) :
    Pev P n l C ⟨d, .index t x y, ty, pos, af, g⟩ c (.int .u8 (b.toNat : Int)) := by
  have h := Pev.index_str (C := C) (n := n) (d := d) (ty := ty) (pos := pos) (af := af) (g := g) (m := 0) hx hcx hy hcy hu (fun _ => ⟨rfl, by rw [E_size]; simp⟩)
  rw [E_bt] at h
  exact h
theorem addE {a b : List UInt8} (h : a.length + b.length ≤ 1000) : Bin P .add t (.string (E a)) (.string (E b)) (.string (E (a ++ b))) := by
  have h2 := Bin.str_add (P := P) (t := t) (s := E a) (u := E b) (by rw [E_size, E_size]; omega)
  rw [E_append] at h2
  exact h2
end
/-- a letter is no mark -/
theorem no_mark {d : UInt8} (h : d ∈ letters) : Lib.indexByte [42, 43, 63] ((d.toNat : Int)).toNat.toUInt8 = -1 := by
  simp only [letters, List.mem_cons, List.not_mem_nil, or_false] at h
  rcases h with rfl | rfl | rfl | rfl | rfl | rfl | rfl | rfl | rfl | rfl | rfl | rfl | rfl | rfl | rfl | rfl | rfl | rfl <;> decide
theorem E_no (c : UInt8) (l : List UInt8) : decide (E (c :: l) = { data := #[] }) = false := by
  rw [decide_eq_false_iff_not]
  intro e
  have := congrArg ByteArray.size e
  rw [E_size] at this
  simp [ByteArray.size] at this
theorem E_no0 : decide (E [] = { data := #[] }) = true := decide_eq_true rfl
end Go.Pk
namespace Go.Proofs.Ytlcclcakdfmgkaa.pk
open Go.RowKit Go.Eng Go.Pk Go.Shelf
set_option linter.unusedVariables false
set_option linter.unusedSimpArgs false
set_option maxRecDepth 100000

def FitsText (n : Nat) : Prop := ∀ (r : Sh) (l : List Int) (q : Option Addr) (cap : Nat) (w : World), r.length + l.length ≤ n → (enc r).length ≤ 100 → (∀ p ∈ r, p.1 ∈ letters) → l.length ≤ cap → SlAt w w.heap.size q (ins l) →
    Calls Try.prog 61 #[.string (E (enc r)), .slice q l.length cap] w fun e w' => e = .returned (.bool (Pk.mt r l)) ∧ Ext w w'
theorem fitsText_nil (l : List Int) (q : Option Addr) (cap : Nat) (w : World) :
    Calls Try.prog 61 #[.string (E (enc [])), .slice q l.length cap] w fun e w' => e = .returned (.bool (Pk.mt [] l)) ∧ Ext w w' := by
  refine enter Try.func61 rfl Try.ntmps61 rfl (Cls.start w) ?_
  (simp only [argEnv, Nat.zero_add, Nat.reduceAdd])
  apply W.seq
  apply W.reg
  apply oas; rfl; rfl
  apply OL.nil
  with_reducible apply At.next
  apply W.seq
  apply W.seq
  apply W.reg
  apply omv; rfl; rfl
  apply obn; rfl; rfl; rfl; apply Bin.str_eql
  apply OL.nil
  with_reducible apply At.next
  refine W.cond rfl (fun _ => ?_) (fun hb => ?_)
  case refine_2 => exact absurd rfl (of_decide_eq_false hb)
  apply W.seq
  apply W.reg
  apply omv; rfl; rfl
  apply OL.op; exact Guard.none; rfl; rfl; apply Pev.len_slice; rfl; exact yes; rfl
  apply obn; rfl; rfl; rfl; apply Bin.eql
  apply oas; rfl; rfl
  apply OL.nil
  with_reducible apply At.next
  apply W.ret
  with_reducible apply At.then_ret
  ((with_reducible apply At.fin1); rfl; rfl; intro w' hw')
  exact ⟨congrArg (fun b => Ending.returned (Value.bool b)) (by cases l <;> simp [Pk.mt]; omega), by (exact hw'.toExt (by (repeat (first | exact List.Mem.head _ | apply List.Mem.tail))) (fun k hk => by (focus ((try simp only [add_block]); (repeat (first | exact NotOwned.nil | exact hno _ (by omega) | refine NotOwned.nothing ?_ | refine NotOwned.nds (hlow _ (by omega)) ?_ | refine NotOwned.mapS (by omega) ?_ | apply NotOwned.bif | refine NotOwned.blk (by omega) ?_ | refine NotOwned.row (by omega) ?_ | refine NotOwned.grid (by assumption) (by omega) ?_)); done))))⟩
/- printed: fitsText -/
theorem fitsText_one0_nil (n : Nat) (ih : FitsText n) (c : UInt8) (q : Option Addr) (cap : Nat) (w : World) (hn : [(c, Mk.one)].length + ([] : List Int).length ≤ n + 1) (hz : (enc [(c, Mk.one)]).length ≤ 100) (hl : ∀ p ∈ [(c, Mk.one)], p.1 ∈ letters) (hcap : ([] : List Int).length ≤ cap) (hs : SlAt w w.heap.size q (ins [])) :
    Calls Try.prog 61 #[.string (E (enc [(c, Mk.one)])), .slice q ([] : List Int).length cap] w fun e w' => e = .returned (.bool (Pk.mt [(c, Mk.one)] [])) ∧ Ext w w' := by
  have hc : c ∈ letters := hl _ (.head _)
  have hr' : ∀ p ∈ ([] : Sh), p.1 ∈ letters := fun p h => by cases h
  have e0 : E (enc [(c, Mk.one)]) = E [c] := by simp [enc, markB]
  have hz2 := hz
  simp only [enc, markB, List.length_cons, List.length_append, List.length_nil] at hz2
  rw [e0]
  clear e0
  refine enter Try.func61 rfl Try.ntmps61 rfl (Cls.start w) ?_
  (simp only [argEnv, Nat.zero_add, Nat.reduceAdd])
  apply W.seq
  apply W.reg
  apply oas; rfl; rfl
  apply OL.nil
  with_reducible apply At.next
  apply W.seq
  apply W.seq
  apply W.reg
  apply omv; rfl; rfl
  apply obn; rfl; rfl; rfl; apply Bin.str_eql
  apply OL.nil
  with_reducible apply At.next
  refine W.cond rfl (fun hb => ?_) (fun _ => ?_)
  · rw [E_no] at hb; cases hb
  apply W.skip
  with_reducible apply At.next
  apply W.seq
  apply W.reg
  apply oas; rfl; rfl
  apply OL.nil
  with_reducible apply At.next
  apply W.seq
  apply W.reg
  apply omv; rfl; rfl
  apply OL.op; exact Guard.none; rfl; rfl; apply Go.Pk.sliceE; rfl; exact yes; rfl; exact yes; rfl
  apply oas; rfl; rfl
  apply OL.nil
  with_reducible apply At.next
  apply W.seq
  apply W.seq
  apply W.reg
  apply omv; rfl; rfl
  apply obn; rfl; rfl; rfl; apply Bin.str_neq
  apply omv; rfl; rfl
  apply OL.op; exact Guard.yes rfl rfl; rfl; rfl; apply Pev.move; rfl; exact yes
  apply OL.gateOff; exact Guard.yes rfl rfl; rfl; rfl
  apply OL.gateOff; exact Guard.yes rfl rfl; rfl; rfl
  apply OL.gateOff; exact Guard.yes rfl rfl; rfl; rfl
  apply OL.op; exact Guard.none; rfl; rfl; apply Pev.pick_off; rfl; exact yes; (intro hcond; rfl); rfl; exact yes
  apply OL.nil
  with_reducible apply At.next
  rw [E_no0]
  skip
  refine W.cond rfl (fun hb => ?_) (fun _ => ?_)
  · simp at hb
  apply W.skip
  with_reducible apply At.next
  apply W.seq
  apply W.regd0; decide +kernel; kernel_rfl; decide +kernel; exact fun w hw => hw.drew
  apply qmv; rfl; rfl
  apply QL.op; exact Guard.none; rfl; rfl; apply Pev.len_slice; rfl; exact yes; rfl
  apply qbn; rfl; rfl; rfl; apply Bin.gtr
  apply qmv; rfl; rfl
  apply QL.op; exact Guard.yes rfl rfl; rfl; rfl; apply Pev.move; rfl; exact yes
  apply QL.op; exact Guard.yes rfl rfl; rfl; rfl; apply Go.Pk.indexE; rfl; exact fun h => h; rfl; exact yes; rfl
  apply QL.op; exact Guard.yes rfl rfl; rfl; rfl; apply Pev.move; rfl; exact yes
  apply QL.gateOff; exact Guard.yes rfl rfl; rfl; rfl
  apply QL.gateOff; exact Guard.yes rfl rfl; rfl; rfl
  apply QL.gateOff; exact Guard.yes rfl rfl; rfl; rfl
  apply QL.op; exact Guard.none; rfl; rfl; apply Pev.pick_off; rfl; exact yes; (intro hcond; rfl); rfl; exact yes
  apply qas; rfl; rfl
  apply QL.nil
  with_reducible apply At.next
  apply W.seq
  apply W.seq
  apply W.reg
  apply omv; rfl; rfl
  apply OL.nil
  with_reducible apply At.next
  apply W.block
  apply W.seq
  apply W.reg
  apply obn; rfl; rfl; rfl; apply Bin.eql
  apply oas; rfl; rfl
  apply OL.nil
  with_reducible apply At.next
  (refine W.cond rfl (fun h0 => ?_) (fun h0 => ?_)) <;> (try (simp only [Bool.and_eq_true, Bool.or_eq_true, Bool.not_eq_true', Bool.and_eq_false_iff, Bool.or_eq_false_iff, Bool.not_eq_false', decide_eq_true_eq, decide_eq_false_iff_not, Int.not_lt, Int.not_le] at h0)) <;> (try (exfalso; first | omega | exact h0 trivial | contradiction))
  · apply W.seq
    apply W.reg
    apply omv; rfl; rfl
    apply omv; rfl; rfl
    apply OL.op; exact Guard.yes rfl rfl; rfl; rfl; apply Pev.move; rfl; exact yes
    apply OL.op; exact Guard.yes rfl rfl; rfl; rfl; apply Pev.move; rfl; exact yes
    apply OL.gateOff; exact Guard.yes rfl rfl; rfl; rfl
    apply OL.gateOff; exact Guard.yes rfl rfl; rfl; rfl
    apply OL.op; exact Guard.none; rfl; rfl; apply Pev.pick_off; rfl; exact yes; (intro hcond; rfl); rfl; exact yes
    apply oas; rfl; rfl
    apply OL.nil
    with_reducible apply At.next
    apply W.ret
    with_reducible apply At.in_ret
    with_reducible apply At.then_ret
    ((with_reducible apply At.fin1); rfl; rfl; intro w' hw')
    exact ⟨congrArg (fun b => Ending.returned (Value.bool b)) (by simp [Pk.mt]), by (exact hw'.toExt (by (repeat (first | exact List.Mem.head _ | apply List.Mem.tail))) (fun k hk => by (focus ((try simp only [add_block]); (repeat (first | exact NotOwned.nil | exact hno _ (by omega) | refine NotOwned.nothing ?_ | refine NotOwned.nds (hlow _ (by omega)) ?_ | refine NotOwned.mapS (by omega) ?_ | apply NotOwned.bif | refine NotOwned.blk (by omega) ?_ | refine NotOwned.row (by omega) ?_ | refine NotOwned.grid (by assumption) (by omega) ?_)); done))))⟩
theorem fitsText_one0_cons (n : Nat) (ih : FitsText n) (c : UInt8) (x : Int) (l : List Int) (q : Option Addr) (cap : Nat) (w : World) (hn : [(c, Mk.one)].length + ((x :: l) : List Int).length ≤ n + 1) (hz : (enc [(c, Mk.one)]).length ≤ 100) (hl : ∀ p ∈ [(c, Mk.one)], p.1 ∈ letters) (hcap : ((x :: l) : List Int).length ≤ cap) (hs : SlAt w w.heap.size q (ins (x :: l))) :
    Calls Try.prog 61 #[.string (E (enc [(c, Mk.one)])), .slice q ((x :: l) : List Int).length cap] w fun e w' => e = .returned (.bool (Pk.mt [(c, Mk.one)] (x :: l))) ∧ Ext w w' := by
  have hc : c ∈ letters := hl _ (.head _)
  have hr' : ∀ p ∈ ([] : Sh), p.1 ∈ letters := fun p h => by cases h
  have htl : SlAt w w.heap.size (cutq q cap 1 1) (ins l) := hs.cut (by rw [ins_length]; omega)
  obtain ⟨a, x', rfl, hab, hx, hcell⟩ := SlAt.int hs (i := 0) (by simp)
  obtain rfl : x = x' := by simpa using hx
  clear hx
  have e0 : E (enc [(c, Mk.one)]) = E [c] := by simp [enc, markB]
  have hz2 := hz
  simp only [enc, markB, List.length_cons, List.length_append, List.length_nil] at hz2
  rw [e0]
  clear e0
  refine enter Try.func61 rfl Try.ntmps61 rfl (Cls.start w) ?_
  (simp only [argEnv, Nat.zero_add, Nat.reduceAdd])
  apply W.seq
  apply W.reg
  apply oas; rfl; rfl
  apply OL.nil
  with_reducible apply At.next
  apply W.seq
  apply W.seq
  apply W.reg
  apply omv; rfl; rfl
  apply obn; rfl; rfl; rfl; apply Bin.str_eql
  apply OL.nil
  with_reducible apply At.next
  refine W.cond rfl (fun hb => ?_) (fun _ => ?_)
  · rw [E_no] at hb; cases hb
  apply W.skip
  with_reducible apply At.next
  apply W.seq
  apply W.reg
  apply oas; rfl; rfl
  apply OL.nil
  with_reducible apply At.next
  apply W.seq
  apply W.reg
  apply omv; rfl; rfl
  apply OL.op; exact Guard.none; rfl; rfl; apply Go.Pk.sliceE; rfl; exact yes; rfl; exact yes; rfl
  apply oas; rfl; rfl
  apply OL.nil
  with_reducible apply At.next
  apply W.seq
  apply W.seq
  apply W.reg
  apply omv; rfl; rfl
  apply obn; rfl; rfl; rfl; apply Bin.str_neq
  apply omv; rfl; rfl
  apply OL.op; exact Guard.yes rfl rfl; rfl; rfl; apply Pev.move; rfl; exact yes
  apply OL.gateOff; exact Guard.yes rfl rfl; rfl; rfl
  apply OL.gateOff; exact Guard.yes rfl rfl; rfl; rfl
  apply OL.gateOff; exact Guard.yes rfl rfl; rfl; rfl
  apply OL.op; exact Guard.none; rfl; rfl; apply Pev.pick_off; rfl; exact yes; (intro hcond; rfl); rfl; exact yes
  apply OL.nil
  with_reducible apply At.next
  rw [E_no0]
  skip
  refine W.cond rfl (fun hb => ?_) (fun _ => ?_)
  · simp at hb
  apply W.skip
  with_reducible apply At.next
  apply W.seq
  apply W.regd0; decide +kernel; kernel_rfl; decide +kernel; exact fun w hw => hw.drew
  apply qmv; rfl; rfl
  apply QL.op; exact Guard.none; rfl; rfl; apply Pev.len_slice; rfl; exact yes; rfl
  apply qbn; rfl; rfl; rfl; apply Bin.gtr
  apply qmv; rfl; rfl
  apply QL.op; exact Guard.yes rfl rfl; rfl; rfl; apply Pev.move; rfl; exact yes
  apply QL.op; exact Guard.yes rfl rfl; rfl; rfl; apply Go.Pk.indexE; rfl; exact fun h => h; rfl; exact yes; rfl
  apply QL.op; exact Guard.yes rfl rfl; rfl; rfl; apply Pev.move; rfl; exact yes
  apply QL.op; exact Guard.yes rfl rfl; rfl; rfl; apply Pev.idx; rfl; exact fun h => h; rfl; exact yes; rfl; rfl; intro hcond; (simp only [Bool.and_eq_true, Bool.or_eq_true, Bool.not_eq_true', decide_eq_true_eq, decide_eq_false_iff_not] at *; omega)
  apply QL.op; exact Guard.yes rfl rfl; rfl; rfl; apply Pev.load_kept; rfl; exact fun h => h; exact .head _; rfl; intro hcond; assumption; intro hcond; assumption; intro hcond; exact NotOwned.nil
  (((first | (with_reducible apply OL.op) | (with_reducible apply QL.op)); ((first | exact Guard.none | exact Guard.yes rfl rfl | exact Guard.no rfl rfl | exact Guard.cyes rfl rfl | exact Guard.cno rfl rfl)); rfl; rfl); (exact Pev.call rfl (by (repeat (first | exact Args.nil | (apply Args.cons rfl; ((first | exact fun _ => rfl | exact fun h => h | (intro h; simp_all; done))))))) (fun _ w2 hw2 => (isOf_calls c x w2 hc).mono (fun e w3 h => ⟨h.1, hw2.ext h.2⟩))))
  apply QL.op; exact Guard.none; rfl; rfl; apply Pev.pick_and; rfl; exact yes; rfl; exact fun h => h
  apply qas; rfl; rfl
  apply QL.nil
  with_reducible apply At.next
  apply W.seq
  apply W.seq
  apply W.reg
  apply omv; rfl; rfl
  apply OL.nil
  with_reducible apply At.next
  apply W.block
  apply W.seq
  apply W.reg
  apply obn; rfl; rfl; rfl; apply Bin.eql
  apply oas; rfl; rfl
  apply OL.nil
  with_reducible apply At.next
  (refine W.cond rfl (fun h0 => ?_) (fun h0 => ?_)) <;> (try (simp only [Bool.and_eq_true, Bool.or_eq_true, Bool.not_eq_true', Bool.and_eq_false_iff, Bool.or_eq_false_iff, Bool.not_eq_false', decide_eq_true_eq, decide_eq_false_iff_not, Int.not_lt, Int.not_le] at h0)) <;> (try (exfalso; first | omega | exact h0 trivial | contradiction))
  · apply W.seq
    apply W.reg
    apply omv; rfl; rfl
    apply omv; rfl; rfl
    apply OL.op; exact Guard.yes rfl rfl; rfl; rfl; apply Pev.move; rfl; exact yes
    apply OL.op; exact Guard.yes rfl rfl; rfl; rfl; apply Pev.move; rfl; exact yes
    apply OL.op; exact Guard.yes rfl rfl; rfl; rfl; apply Pev.slice_lo; rfl; exact fun h => h; rfl; exact yes; rfl; rfl; intro hcond; (simp only [Bool.and_eq_true, Bool.or_eq_true, Bool.not_eq_true', decide_eq_true_eq, decide_eq_false_iff_not] at *; omega)
    (((first | (with_reducible apply OL.op) | (with_reducible apply QL.op)); ((first | exact Guard.none | exact Guard.yes rfl rfl | exact Guard.no rfl rfl | exact Guard.cyes rfl rfl | exact Guard.cno rfl rfl)); rfl; rfl); (exact Pev.call rfl (by (repeat (first | exact Args.nil | (apply Args.cons rfl; ((first | exact fun _ => rfl | exact fun h => h | (intro h; simp_all; done))))))) (fun _ w2 hw2 => (ih [] l _ _ w2 (by simp only [List.length_cons, List.length_nil] at hn ⊢; omega) (by simp only [enc, markB, List.length_cons, List.length_append, List.length_nil] at hz ⊢; omega) (hr') (by show l.length ≤ cap - 1; simp only [List.length_cons] at hcap; omega) (htl.ext (hw2.toExt (by (repeat (first | exact List.Mem.head _ | apply List.Mem.tail))) (fun k hk => by (focus ((try simp only [add_block]); (repeat (first | exact NotOwned.nil | exact hno _ (by omega) | refine NotOwned.nothing ?_ | refine NotOwned.nds (hlow _ (by omega)) ?_ | refine NotOwned.mapS (by omega) ?_ | apply NotOwned.bif | refine NotOwned.blk (by omega) ?_ | refine NotOwned.row (by omega) ?_ | refine NotOwned.grid (by assumption) (by omega) ?_)); done)))) (Nat.le_refl _))).mono (fun e w3 h => ⟨h.1, hw2.ext h.2⟩))))
    apply OL.op; exact Guard.none; rfl; rfl; apply Pev.pick_and; rfl; exact yes; rfl; exact fun h => h
    apply oas; rfl; rfl
    apply OL.nil
    with_reducible apply At.next
    apply W.ret
    with_reducible apply At.in_ret
    with_reducible apply At.then_ret
    ((with_reducible apply At.fin1); rfl; rfl; intro w' hw')
    exact ⟨congrArg (fun b => Ending.returned (Value.bool b)) (by simp [Pk.mt]), by (exact hw'.toExt (by (repeat (first | exact List.Mem.head _ | apply List.Mem.tail))) (fun k hk => by (focus ((try simp only [add_block]); (repeat (first | exact NotOwned.nil | exact hno _ (by omega) | refine NotOwned.nothing ?_ | refine NotOwned.nds (hlow _ (by omega)) ?_ | refine NotOwned.mapS (by omega) ?_ | apply NotOwned.bif | refine NotOwned.blk (by omega) ?_ | refine NotOwned.row (by omega) ?_ | refine NotOwned.grid (by assumption) (by omega) ?_)); done))))⟩
theorem fitsText_one1_nil (n : Nat) (ih : FitsText n) (c : UInt8) (d : UInt8) (md : Mk) (r : Sh) (q : Option Addr) (cap : Nat) (w : World) (hn : ((c, Mk.one) :: (d, md) :: r).length + ([] : List Int).length ≤ n + 1) (hz : (enc ((c, Mk.one) :: (d, md) :: r)).length ≤ 100) (hl : ∀ p ∈ ((c, Mk.one) :: (d, md) :: r), p.1 ∈ letters) (hcap : ([] : List Int).length ≤ cap) (hs : SlAt w w.heap.size q (ins [])) :
    Calls Try.prog 61 #[.string (E (enc ((c, Mk.one) :: (d, md) :: r))), .slice q ([] : List Int).length cap] w fun e w' => e = .returned (.bool (Pk.mt ((c, Mk.one) :: (d, md) :: r) [])) ∧ Ext w w' := by
  have hc : c ∈ letters := hl _ (.head _)
  have hr' : ∀ p ∈ ((d, md) :: r), p.1 ∈ letters := fun p h => hl p (.tail _ h)
  have hd : d ∈ letters := hr' _ (.head _)
  have e0 : E (enc ((c, Mk.one) :: (d, md) :: r)) = E (c :: d :: (markB md ++ enc r)) := by simp [enc, markB]
  have hz2 := hz
  simp only [enc, markB, List.length_cons, List.length_append, List.length_nil] at hz2
  have e1 : E (d :: (markB md ++ enc r)) = E (enc ((d, md) :: r)) := rfl
  rw [e0]
  clear e0
  refine enter Try.func61 rfl Try.ntmps61 rfl (Cls.start w) ?_
  (simp only [argEnv, Nat.zero_add, Nat.reduceAdd])
  apply W.seq
  apply W.reg
  apply oas; rfl; rfl
  apply OL.nil
  with_reducible apply At.next
  apply W.seq
  apply W.seq
  apply W.reg
  apply omv; rfl; rfl
  apply obn; rfl; rfl; rfl; apply Bin.str_eql
  apply OL.nil
  with_reducible apply At.next
  refine W.cond rfl (fun hb => ?_) (fun _ => ?_)
  · rw [E_no] at hb; cases hb
  apply W.skip
  with_reducible apply At.next
  apply W.seq
  apply W.reg
  apply oas; rfl; rfl
  apply OL.nil
  with_reducible apply At.next
  apply W.seq
  apply W.reg
  apply omv; rfl; rfl
  apply OL.op; exact Guard.none; rfl; rfl; apply Go.Pk.sliceE; rfl; exact yes; rfl; exact yes; rfl
  apply oas; rfl; rfl
  apply OL.nil
  with_reducible apply At.next
  apply W.seq
  apply W.seq
  apply W.reg
  apply omv; rfl; rfl
  apply obn; rfl; rfl; rfl; apply Bin.str_neq
  apply omv; rfl; rfl
  apply OL.op; exact Guard.yes rfl rfl; rfl; rfl; apply Pev.move; rfl; exact yes
  apply OL.op; exact Guard.yes rfl rfl; rfl; rfl; apply Go.Pk.indexE; rfl; exact yes; rfl; exact yes; rfl
  rw [E_no]
  skip
  (((first | (with_reducible apply OL.op) | (with_reducible apply QL.op)); ((first | exact Guard.none | exact Guard.yes rfl rfl | exact Guard.no rfl rfl | exact Guard.cyes rfl rfl | exact Guard.cno rfl rfl)); rfl; rfl); (refine Pev.call (v := .int .i64 (-1)) rfl (by (repeat (first | exact Args.nil | (apply Args.cons rfl; ((first | exact fun _ => rfl | exact fun h => h | (intro h; simp_all; done))))))) (fun _ w2 hw2 => (indexByte_calls _ _ w2).mono (fun e w3 h => ⟨by rw [h.1]; exact congrArg (fun b => Ending.returned (Value.int .i64 b)) (no_mark hd), by rw [h.2]; exact hw2⟩))))
  apply OL.op; exact Guard.yes rfl rfl; rfl; rfl; apply Pev.bin; rfl; exact yes; rfl; exact yes; intro hcond; apply Bin.geq
  apply OL.op; exact Guard.none; rfl; rfl; apply Pev.pick_and; rfl; exact yes; rfl; exact yes
  apply OL.nil
  with_reducible apply At.next
  refine W.cond rfl (fun hb => ?_) (fun _ => ?_)
  · simp at hb
  apply W.skip
  with_reducible apply At.next
  apply W.seq
  apply W.regd0; decide +kernel; kernel_rfl; decide +kernel; exact fun w hw => hw.drew
  apply qmv; rfl; rfl
  apply QL.op; exact Guard.none; rfl; rfl; apply Pev.len_slice; rfl; exact yes; rfl
  apply qbn; rfl; rfl; rfl; apply Bin.gtr
  apply qmv; rfl; rfl
  apply QL.op; exact Guard.yes rfl rfl; rfl; rfl; apply Pev.move; rfl; exact yes
  apply QL.op; exact Guard.yes rfl rfl; rfl; rfl; apply Go.Pk.indexE; rfl; exact fun h => h; rfl; exact yes; rfl
  apply QL.op; exact Guard.yes rfl rfl; rfl; rfl; apply Pev.move; rfl; exact yes
  apply QL.gateOff; exact Guard.yes rfl rfl; rfl; rfl
  apply QL.gateOff; exact Guard.yes rfl rfl; rfl; rfl
  apply QL.gateOff; exact Guard.yes rfl rfl; rfl; rfl
  apply QL.op; exact Guard.none; rfl; rfl; apply Pev.pick_off; rfl; exact yes; (intro hcond; rfl); rfl; exact yes
  apply qas; rfl; rfl
  apply QL.nil
  with_reducible apply At.next
  apply W.seq
  apply W.seq
  apply W.reg
  apply omv; rfl; rfl
  apply OL.nil
  with_reducible apply At.next
  apply W.block
  apply W.seq
  apply W.reg
  apply obn; rfl; rfl; rfl; apply Bin.eql
  apply oas; rfl; rfl
  apply OL.nil
  with_reducible apply At.next
  rw [e1]
  (refine W.cond rfl (fun h0 => ?_) (fun h0 => ?_)) <;> (try (simp only [Bool.and_eq_true, Bool.or_eq_true, Bool.not_eq_true', Bool.and_eq_false_iff, Bool.or_eq_false_iff, Bool.not_eq_false', decide_eq_true_eq, decide_eq_false_iff_not, Int.not_lt, Int.not_le] at h0)) <;> (try (exfalso; first | omega | exact h0 trivial | contradiction))
  · apply W.seq
    apply W.reg
    apply omv; rfl; rfl
    apply omv; rfl; rfl
    apply OL.op; exact Guard.yes rfl rfl; rfl; rfl; apply Pev.move; rfl; exact yes
    apply OL.op; exact Guard.yes rfl rfl; rfl; rfl; apply Pev.move; rfl; exact yes
    apply OL.gateOff; exact Guard.yes rfl rfl; rfl; rfl
    apply OL.gateOff; exact Guard.yes rfl rfl; rfl; rfl
    apply OL.op; exact Guard.none; rfl; rfl; apply Pev.pick_off; rfl; exact yes; (intro hcond; rfl); rfl; exact yes
    apply oas; rfl; rfl
    apply OL.nil
    with_reducible apply At.next
    apply W.ret
    with_reducible apply At.in_ret
    with_reducible apply At.then_ret
    ((with_reducible apply At.fin1); rfl; rfl; intro w' hw')
    exact ⟨congrArg (fun b => Ending.returned (Value.bool b)) (by simp [Pk.mt]), by (exact hw'.toExt (by (repeat (first | exact List.Mem.head _ | apply List.Mem.tail))) (fun k hk => by (focus ((try simp only [add_block]); (repeat (first | exact NotOwned.nil | exact hno _ (by omega) | refine NotOwned.nothing ?_ | refine NotOwned.nds (hlow _ (by omega)) ?_ | refine NotOwned.mapS (by omega) ?_ | apply NotOwned.bif | refine NotOwned.blk (by omega) ?_ | refine NotOwned.row (by omega) ?_ | refine NotOwned.grid (by assumption) (by omega) ?_)); done))))⟩
theorem fitsText_one1_cons (n : Nat) (ih : FitsText n) (c : UInt8) (d : UInt8) (md : Mk) (r : Sh) (x : Int) (l : List Int) (q : Option Addr) (cap : Nat) (w : World) (hn : ((c, Mk.one) :: (d, md) :: r).length + ((x :: l) : List Int).length ≤ n + 1) (hz : (enc ((c, Mk.one) :: (d, md) :: r)).length ≤ 100) (hl : ∀ p ∈ ((c, Mk.one) :: (d, md) :: r), p.1 ∈ letters) (hcap : ((x :: l) : List Int).length ≤ cap) (hs : SlAt w w.heap.size q (ins (x :: l))) :
    Calls Try.prog 61 #[.string (E (enc ((c, Mk.one) :: (d, md) :: r))), .slice q ((x :: l) : List Int).length cap] w fun e w' => e = .returned (.bool (Pk.mt ((c, Mk.one) :: (d, md) :: r) (x :: l))) ∧ Ext w w' := by
  have hc : c ∈ letters := hl _ (.head _)
  have hr' : ∀ p ∈ ((d, md) :: r), p.1 ∈ letters := fun p h => hl p (.tail _ h)
  have hd : d ∈ letters := hr' _ (.head _)
  have htl : SlAt w w.heap.size (cutq q cap 1 1) (ins l) := hs.cut (by rw [ins_length]; omega)
  obtain ⟨a, x', rfl, hab, hx, hcell⟩ := SlAt.int hs (i := 0) (by simp)
  obtain rfl : x = x' := by simpa using hx
  clear hx
  have e0 : E (enc ((c, Mk.one) :: (d, md) :: r)) = E (c :: d :: (markB md ++ enc r)) := by simp [enc, markB]
  have hz2 := hz
  simp only [enc, markB, List.length_cons, List.length_append, List.length_nil] at hz2
  have e1 : E (d :: (markB md ++ enc r)) = E (enc ((d, md) :: r)) := rfl
  rw [e0]
  clear e0
  refine enter Try.func61 rfl Try.ntmps61 rfl (Cls.start w) ?_
  (simp only [argEnv, Nat.zero_add, Nat.reduceAdd])
  apply W.seq
  apply W.reg
  apply oas; rfl; rfl
  apply OL.nil
  with_reducible apply At.next
  apply W.seq
  apply W.seq
  apply W.reg
  apply omv; rfl; rfl
  apply obn; rfl; rfl; rfl; apply Bin.str_eql
  apply OL.nil
  with_reducible apply At.next
  refine W.cond rfl (fun hb => ?_) (fun _ => ?_)
  · rw [E_no] at hb; cases hb
  apply W.skip
  with_reducible apply At.next
  apply W.seq
  apply W.reg
  apply oas; rfl; rfl
  apply OL.nil
  with_reducible apply At.next
  apply W.seq
  apply W.reg
  apply omv; rfl; rfl
  apply OL.op; exact Guard.none; rfl; rfl; apply Go.Pk.sliceE; rfl; exact yes; rfl; exact yes; rfl
  apply oas; rfl; rfl
  apply OL.nil
  with_reducible apply At.next
  apply W.seq
  apply W.seq
  apply W.reg
  apply omv; rfl; rfl
  apply obn; rfl; rfl; rfl; apply Bin.str_neq
  apply omv; rfl; rfl
  apply OL.op; exact Guard.yes rfl rfl; rfl; rfl; apply Pev.move; rfl; exact yes
  apply OL.op; exact Guard.yes rfl rfl; rfl; rfl; apply Go.Pk.indexE; rfl; exact yes; rfl; exact yes; rfl
  rw [E_no]
  skip
  (((first | (with_reducible apply OL.op) | (with_reducible apply QL.op)); ((first | exact Guard.none | exact Guard.yes rfl rfl | exact Guard.no rfl rfl | exact Guard.cyes rfl rfl | exact Guard.cno rfl rfl)); rfl; rfl); (refine Pev.call (v := .int .i64 (-1)) rfl (by (repeat (first | exact Args.nil | (apply Args.cons rfl; ((first | exact fun _ => rfl | exact fun h => h | (intro h; simp_all; done))))))) (fun _ w2 hw2 => (indexByte_calls _ _ w2).mono (fun e w3 h => ⟨by rw [h.1]; exact congrArg (fun b => Ending.returned (Value.int .i64 b)) (no_mark hd), by rw [h.2]; exact hw2⟩))))
  apply OL.op; exact Guard.yes rfl rfl; rfl; rfl; apply Pev.bin; rfl; exact yes; rfl; exact yes; intro hcond; apply Bin.geq
  apply OL.op; exact Guard.none; rfl; rfl; apply Pev.pick_and; rfl; exact yes; rfl; exact yes
  apply OL.nil
  with_reducible apply At.next
  refine W.cond rfl (fun hb => ?_) (fun _ => ?_)
  · simp at hb
  apply W.skip
  with_reducible apply At.next
  apply W.seq
  apply W.regd0; decide +kernel; kernel_rfl; decide +kernel; exact fun w hw => hw.drew
  apply qmv; rfl; rfl
  apply QL.op; exact Guard.none; rfl; rfl; apply Pev.len_slice; rfl; exact yes; rfl
  apply qbn; rfl; rfl; rfl; apply Bin.gtr
  apply qmv; rfl; rfl
  apply QL.op; exact Guard.yes rfl rfl; rfl; rfl; apply Pev.move; rfl; exact yes
  apply QL.op; exact Guard.yes rfl rfl; rfl; rfl; apply Go.Pk.indexE; rfl; exact fun h => h; rfl; exact yes; rfl
  apply QL.op; exact Guard.yes rfl rfl; rfl; rfl; apply Pev.move; rfl; exact yes
  apply QL.op; exact Guard.yes rfl rfl; rfl; rfl; apply Pev.idx; rfl; exact fun h => h; rfl; exact yes; rfl; rfl; intro hcond; (simp only [Bool.and_eq_true, Bool.or_eq_true, Bool.not_eq_true', decide_eq_true_eq, decide_eq_false_iff_not] at *; omega)
  apply QL.op; exact Guard.yes rfl rfl; rfl; rfl; apply Pev.load_kept; rfl; exact fun h => h; exact .head _; rfl; intro hcond; assumption; intro hcond; assumption; intro hcond; exact NotOwned.nil
  rw [e1]
  (((first | (with_reducible apply OL.op) | (with_reducible apply QL.op)); ((first | exact Guard.none | exact Guard.yes rfl rfl | exact Guard.no rfl rfl | exact Guard.cyes rfl rfl | exact Guard.cno rfl rfl)); rfl; rfl); (exact Pev.call rfl (by (repeat (first | exact Args.nil | (apply Args.cons rfl; ((first | exact fun _ => rfl | exact fun h => h | (intro h; simp_all; done))))))) (fun _ w2 hw2 => (isOf_calls c x w2 hc).mono (fun e w3 h => ⟨h.1, hw2.ext h.2⟩))))
  apply QL.op; exact Guard.none; rfl; rfl; apply Pev.pick_and; rfl; exact yes; rfl; exact fun h => h
  apply qas; rfl; rfl
  apply QL.nil
  with_reducible apply At.next
  apply W.seq
  apply W.seq
  apply W.reg
  apply omv; rfl; rfl
  apply OL.nil
  with_reducible apply At.next
  apply W.block
  apply W.seq
  apply W.reg
  apply obn; rfl; rfl; rfl; apply Bin.eql
  apply oas; rfl; rfl
  apply OL.nil
  with_reducible apply At.next
  (refine W.cond rfl (fun h0 => ?_) (fun h0 => ?_)) <;> (try (simp only [Bool.and_eq_true, Bool.or_eq_true, Bool.not_eq_true', Bool.and_eq_false_iff, Bool.or_eq_false_iff, Bool.not_eq_false', decide_eq_true_eq, decide_eq_false_iff_not, Int.not_lt, Int.not_le] at h0)) <;> (try (exfalso; first | omega | exact h0 trivial | contradiction))
  · apply W.seq
    apply W.reg
    apply omv; rfl; rfl
    apply omv; rfl; rfl
    apply OL.op; exact Guard.yes rfl rfl; rfl; rfl; apply Pev.move; rfl; exact yes
    apply OL.op; exact Guard.yes rfl rfl; rfl; rfl; apply Pev.move; rfl; exact yes
    apply OL.op; exact Guard.yes rfl rfl; rfl; rfl; apply Pev.slice_lo; rfl; exact fun h => h; rfl; exact yes; rfl; rfl; intro hcond; (simp only [Bool.and_eq_true, Bool.or_eq_true, Bool.not_eq_true', decide_eq_true_eq, decide_eq_false_iff_not] at *; omega)
    (((first | (with_reducible apply OL.op) | (with_reducible apply QL.op)); ((first | exact Guard.none | exact Guard.yes rfl rfl | exact Guard.no rfl rfl | exact Guard.cyes rfl rfl | exact Guard.cno rfl rfl)); rfl; rfl); (exact Pev.call rfl (by (repeat (first | exact Args.nil | (apply Args.cons rfl; ((first | exact fun _ => rfl | exact fun h => h | (intro h; simp_all; done))))))) (fun _ w2 hw2 => (ih ((d, md) :: r) l _ _ w2 (by simp only [List.length_cons, List.length_nil] at hn ⊢; omega) (by simp only [enc, markB, List.length_cons, List.length_append, List.length_nil] at hz ⊢; omega) (hr') (by show l.length ≤ cap - 1; simp only [List.length_cons] at hcap; omega) (htl.ext (hw2.toExt (by (repeat (first | exact List.Mem.head _ | apply List.Mem.tail))) (fun k hk => by (focus ((try simp only [add_block]); (repeat (first | exact NotOwned.nil | exact hno _ (by omega) | refine NotOwned.nothing ?_ | refine NotOwned.nds (hlow _ (by omega)) ?_ | refine NotOwned.mapS (by omega) ?_ | apply NotOwned.bif | refine NotOwned.blk (by omega) ?_ | refine NotOwned.row (by omega) ?_ | refine NotOwned.grid (by assumption) (by omega) ?_)); done)))) (Nat.le_refl _))).mono (fun e w3 h => ⟨h.1, hw2.ext h.2⟩))))
    apply OL.op; exact Guard.none; rfl; rfl; apply Pev.pick_and; rfl; exact yes; rfl; exact fun h => h
    apply oas; rfl; rfl
    apply OL.nil
    with_reducible apply At.next
    apply W.ret
    with_reducible apply At.in_ret
    with_reducible apply At.then_ret
    ((with_reducible apply At.fin1); rfl; rfl; intro w' hw')
    exact ⟨congrArg (fun b => Ending.returned (Value.bool b)) (by simp [Pk.mt]), by (exact hw'.toExt (by (repeat (first | exact List.Mem.head _ | apply List.Mem.tail))) (fun k hk => by (focus ((try simp only [add_block]); (repeat (first | exact NotOwned.nil | exact hno _ (by omega) | refine NotOwned.nothing ?_ | refine NotOwned.nds (hlow _ (by omega)) ?_ | refine NotOwned.mapS (by omega) ?_ | apply NotOwned.bif | refine NotOwned.blk (by omega) ?_ | refine NotOwned.row (by omega) ?_ | refine NotOwned.grid (by assumption) (by omega) ?_)); done))))⟩
theorem fitsText_star_nil (n : Nat) (ih : FitsText n) (c : UInt8) (r : Sh) (q : Option Addr) (cap : Nat) (w : World) (hn : ((c, Mk.star) :: r).length + ([] : List Int).length ≤ n + 1) (hz : (enc ((c, Mk.star) :: r)).length ≤ 100) (hl : ∀ p ∈ ((c, Mk.star) :: r), p.1 ∈ letters) (hcap : ([] : List Int).length ≤ cap) (hs : SlAt w w.heap.size q (ins [])) :
    Calls Try.prog 61 #[.string (E (enc ((c, Mk.star) :: r))), .slice q ([] : List Int).length cap] w fun e w' => e = .returned (.bool (Pk.mt ((c, Mk.star) :: r) [])) ∧ Ext w w' := by
  have hc : c ∈ letters := hl _ (.head _)
  have hr' : ∀ p ∈ r, p.1 ∈ letters := fun p h => hl p (.tail _ h)
  have hrs := hl
  have e0 : E (enc ((c, Mk.star) :: r)) = E (c :: 42 :: enc r) := by simp [enc, markB]
  have hz2 := hz
  simp only [enc, markB, List.length_cons, List.length_append, List.length_nil] at hz2
  rw [e0]
  clear e0
  refine enter Try.func61 rfl Try.ntmps61 rfl (Cls.start w) ?_
  (simp only [argEnv, Nat.zero_add, Nat.reduceAdd])
  apply W.seq
  apply W.reg
  apply oas; rfl; rfl
  apply OL.nil
  with_reducible apply At.next
  apply W.seq
  apply W.seq
  apply W.reg
  apply omv; rfl; rfl
  apply obn; rfl; rfl; rfl; apply Bin.str_eql
  apply OL.nil
  with_reducible apply At.next
  refine W.cond rfl (fun hb => ?_) (fun _ => ?_)
  · rw [E_no] at hb; cases hb
  apply W.skip
  with_reducible apply At.next
  apply W.seq
  apply W.reg
  apply oas; rfl; rfl
  apply OL.nil
  with_reducible apply At.next
  apply W.seq
  apply W.reg
  apply omv; rfl; rfl
  apply OL.op; exact Guard.none; rfl; rfl; apply Go.Pk.sliceE; rfl; exact yes; rfl; exact yes; rfl
  apply oas; rfl; rfl
  apply OL.nil
  with_reducible apply At.next
  apply W.seq
  apply W.seq
  apply W.reg
  apply omv; rfl; rfl
  apply obn; rfl; rfl; rfl; apply Bin.str_neq
  apply omv; rfl; rfl
  apply OL.op; exact Guard.yes rfl rfl; rfl; rfl; apply Pev.move; rfl; exact yes
  apply OL.op; exact Guard.yes rfl rfl; rfl; rfl; apply Go.Pk.indexE; rfl; exact yes; rfl; exact yes; rfl
  rw [E_no]
  skip
  (((first | (with_reducible apply OL.op) | (with_reducible apply QL.op)); ((first | exact Guard.none | exact Guard.yes rfl rfl | exact Guard.no rfl rfl | exact Guard.cyes rfl rfl | exact Guard.cno rfl rfl)); rfl; rfl); (refine Pev.call (v := .int .i64 0) rfl (by (repeat (first | exact Args.nil | (apply Args.cons rfl; ((first | exact fun _ => rfl | exact fun h => h | (intro h; simp_all; done))))))) (fun _ w2 hw2 => (indexByte_calls _ _ w2).mono (fun e w3 h => ⟨by rw [h.1]; exact rfl, by rw [h.2]; exact hw2⟩))))
  apply OL.op; exact Guard.yes rfl rfl; rfl; rfl; apply Pev.bin; rfl; exact yes; rfl; exact yes; intro hcond; apply Bin.geq
  apply OL.op; exact Guard.none; rfl; rfl; apply Pev.pick_and; rfl; exact yes; rfl; exact yes
  apply OL.nil
  with_reducible apply At.next
  refine W.cond rfl (fun _ => ?_) (fun hb => ?_)
  case refine_2 => simp at hb
  apply W.regd0; decide +kernel; kernel_rfl; decide +kernel; exact fun w hw => hw.drew
  apply qmv; rfl; rfl
  apply QL.op; exact Guard.none; rfl; rfl; apply Go.Pk.indexE; rfl; exact yes; rfl; exact yes; rfl
  apply qmv; rfl; rfl
  apply QL.op; exact Guard.none; rfl; rfl; apply Go.Pk.sliceE; rfl; exact yes; rfl; exact yes; rfl
  apply qas; rfl; rfl
  apply qas; rfl; rfl
  apply QL.nil
  with_reducible apply At.next
  apply W.seq
  apply W.regd0; decide +kernel; kernel_rfl; decide +kernel; exact fun w hw => hw.drew
  apply qmv; rfl; rfl
  apply QL.op; exact Guard.none; rfl; rfl; apply Pev.len_slice; rfl; exact yes; rfl
  apply qbn; rfl; rfl; rfl; apply Bin.gtr
  apply qmv; rfl; rfl
  apply QL.op; exact Guard.yes rfl rfl; rfl; rfl; apply Pev.move; rfl; exact yes
  apply QL.op; exact Guard.yes rfl rfl; rfl; rfl; apply Go.Pk.indexE; rfl; exact fun h => h; rfl; exact yes; rfl
  apply QL.op; exact Guard.yes rfl rfl; rfl; rfl; apply Pev.move; rfl; exact yes
  apply QL.gateOff; exact Guard.yes rfl rfl; rfl; rfl
  apply QL.gateOff; exact Guard.yes rfl rfl; rfl; rfl
  apply QL.gateOff; exact Guard.yes rfl rfl; rfl; rfl
  apply QL.op; exact Guard.none; rfl; rfl; apply Pev.pick_off; rfl; exact yes; (intro hcond; rfl); rfl; exact yes
  apply qas; rfl; rfl
  apply QL.nil
  with_reducible apply At.next
  apply W.seq
  apply W.seq
  apply W.reg
  apply omv; rfl; rfl
  apply OL.nil
  with_reducible apply At.next
  apply W.block
  apply W.seq
  apply W.reg
  apply obn; rfl; rfl; rfl; apply Bin.eql
  apply oas; rfl; rfl
  apply OL.nil
  with_reducible apply At.next
  (refine W.cond rfl (fun h0 => ?_) (fun h0 => ?_)) <;> (try (simp only [Bool.and_eq_true, Bool.or_eq_true, Bool.not_eq_true', Bool.and_eq_false_iff, Bool.or_eq_false_iff, Bool.not_eq_false', decide_eq_true_eq, decide_eq_false_iff_not, Int.not_lt, Int.not_le] at h0)) <;> (try (exfalso; first | omega | exact h0 trivial | contradiction))
  apply W.seq
  apply W.reg
  apply obn; rfl; rfl; rfl; apply Bin.eql
  apply oas; rfl; rfl
  apply OL.nil
  with_reducible apply At.next
  (refine W.cond rfl (fun h43 => ?_) (fun h43 => ?_)) <;> (try (simp only [Bool.and_eq_true, Bool.or_eq_true, Bool.not_eq_true', Bool.and_eq_false_iff, Bool.or_eq_false_iff, Bool.not_eq_false', decide_eq_true_eq, decide_eq_false_iff_not, Int.not_lt, Int.not_le] at h43)) <;> (try (exfalso; first | omega | exact h43 trivial | contradiction))
  apply W.seq
  apply W.reg
  apply obn; rfl; rfl; rfl; apply Bin.eql
  apply oas; rfl; rfl
  apply OL.nil
  with_reducible apply At.next
  (refine W.cond rfl (fun h63 => ?_) (fun h63 => ?_)) <;> (try (simp only [Bool.and_eq_true, Bool.or_eq_true, Bool.not_eq_true', Bool.and_eq_false_iff, Bool.or_eq_false_iff, Bool.not_eq_false', decide_eq_true_eq, decide_eq_false_iff_not, Int.not_lt, Int.not_le] at h63)) <;> (try (exfalso; first | omega | exact h63 trivial | contradiction))
  apply W.skip
  with_reducible apply At.in_normal
  with_reducible apply At.next
  apply W.seq
  apply W.reg
  apply omv; rfl; rfl
  apply omv; rfl; rfl
  (((first | (with_reducible apply OL.op) | (with_reducible apply QL.op)); ((first | exact Guard.none | exact Guard.yes rfl rfl | exact Guard.no rfl rfl | exact Guard.cyes rfl rfl | exact Guard.cno rfl rfl)); rfl; rfl); (exact Pev.call rfl (by (repeat (first | exact Args.nil | (apply Args.cons rfl; ((first | exact fun _ => rfl | exact fun h => h | (intro h; simp_all; done))))))) (fun _ w2 hw2 => (ih r [] _ _ w2 (by simp only [List.length_cons, List.length_nil] at hn ⊢; omega) (by simp only [enc, markB, List.length_cons, List.length_append, List.length_nil] at hz ⊢; omega) (hr') (Nat.zero_le _) (SlAt.nil)).mono (fun e w3 h => ⟨h.1, hw2.ext h.2⟩))))
  apply omv; rfl; rfl
  apply OL.op; exact Guard.no rfl rfl; rfl; rfl; apply Pev.move; rfl; exact yes
  apply OL.op; exact Guard.no rfl rfl; rfl; rfl; apply Pev.move; rfl; exact fun h => h
  apply OL.op; exact Guard.cyes rfl rfl; rfl; rfl; apply Pev.move; rfl; exact yes
  apply OL.op; exact Guard.cyes rfl rfl; rfl; rfl; apply Pev.move; rfl; exact yes
  apply OL.gateOff; exact Guard.cyes rfl rfl; (focus (simp; done)); rfl
  apply OL.gateOff; exact Guard.cyes rfl rfl; (focus (simp; done)); rfl
  apply OL.op; exact Guard.no rfl rfl; rfl; rfl; apply Pev.pick_off; rfl; exact fun h => h; (intro hcond; rfl); rfl; exact yes
  apply OL.op; exact Guard.none; rfl; rfl; apply Pev.pick_or; rfl; exact yes; rfl; exact fun h => h
  apply oas; rfl; rfl
  apply OL.nil
  with_reducible apply At.next
  apply W.ret
  ((with_reducible apply At.fin1); rfl; rfl; intro w' hw')
  exact ⟨congrArg (fun b => Ending.returned (Value.bool b)) (by simp [Pk.mt]), by (exact hw'.toExt (by (repeat (first | exact List.Mem.head _ | apply List.Mem.tail))) (fun k hk => by (focus ((try simp only [add_block]); (repeat (first | exact NotOwned.nil | exact hno _ (by omega) | refine NotOwned.nothing ?_ | refine NotOwned.nds (hlow _ (by omega)) ?_ | refine NotOwned.mapS (by omega) ?_ | apply NotOwned.bif | refine NotOwned.blk (by omega) ?_ | refine NotOwned.row (by omega) ?_ | refine NotOwned.grid (by assumption) (by omega) ?_)); done))))⟩
theorem fitsText_star_cons (n : Nat) (ih : FitsText n) (c : UInt8) (r : Sh) (x : Int) (l : List Int) (q : Option Addr) (cap : Nat) (w : World) (hn : ((c, Mk.star) :: r).length + ((x :: l) : List Int).length ≤ n + 1) (hz : (enc ((c, Mk.star) :: r)).length ≤ 100) (hl : ∀ p ∈ ((c, Mk.star) :: r), p.1 ∈ letters) (hcap : ((x :: l) : List Int).length ≤ cap) (hs : SlAt w w.heap.size q (ins (x :: l))) :
    Calls Try.prog 61 #[.string (E (enc ((c, Mk.star) :: r))), .slice q ((x :: l) : List Int).length cap] w fun e w' => e = .returned (.bool (Pk.mt ((c, Mk.star) :: r) (x :: l))) ∧ Ext w w' := by
  have hc : c ∈ letters := hl _ (.head _)
  have hr' : ∀ p ∈ r, p.1 ∈ letters := fun p h => hl p (.tail _ h)
  have hrs := hl
  have htl : SlAt w w.heap.size (cutq q cap 1 1) (ins l) := hs.cut (by rw [ins_length]; omega)
  obtain ⟨a, x', rfl, hab, hx, hcell⟩ := SlAt.int hs (i := 0) (by simp)
  obtain rfl : x = x' := by simpa using hx
  clear hx
  have e0 : E (enc ((c, Mk.star) :: r)) = E (c :: 42 :: enc r) := by simp [enc, markB]
  have hz2 := hz
  simp only [enc, markB, List.length_cons, List.length_append, List.length_nil] at hz2
  rw [e0]
  clear e0
  refine enter Try.func61 rfl Try.ntmps61 rfl (Cls.start w) ?_
  (simp only [argEnv, Nat.zero_add, Nat.reduceAdd])
  apply W.seq
  apply W.reg
  apply oas; rfl; rfl
  apply OL.nil
  with_reducible apply At.next
  apply W.seq
  apply W.seq
  apply W.reg
  apply omv; rfl; rfl
  apply obn; rfl; rfl; rfl; apply Bin.str_eql
  apply OL.nil
  with_reducible apply At.next
  refine W.cond rfl (fun hb => ?_) (fun _ => ?_)
  · rw [E_no] at hb; cases hb
  apply W.skip
  with_reducible apply At.next
  apply W.seq
  apply W.reg
  apply oas; rfl; rfl
  apply OL.nil
  with_reducible apply At.next
  apply W.seq
  apply W.reg
  apply omv; rfl; rfl
  apply OL.op; exact Guard.none; rfl; rfl; apply Go.Pk.sliceE; rfl; exact yes; rfl; exact yes; rfl
  apply oas; rfl; rfl
  apply OL.nil
  with_reducible apply At.next
  apply W.seq
  apply W.seq
  apply W.reg
  apply omv; rfl; rfl
  apply obn; rfl; rfl; rfl; apply Bin.str_neq
  apply omv; rfl; rfl
  apply OL.op; exact Guard.yes rfl rfl; rfl; rfl; apply Pev.move; rfl; exact yes
  apply OL.op; exact Guard.yes rfl rfl; rfl; rfl; apply Go.Pk.indexE; rfl; exact yes; rfl; exact yes; rfl
  rw [E_no]
  skip
  (((first | (with_reducible apply OL.op) | (with_reducible apply QL.op)); ((first | exact Guard.none | exact Guard.yes rfl rfl | exact Guard.no rfl rfl | exact Guard.cyes rfl rfl | exact Guard.cno rfl rfl)); rfl; rfl); (refine Pev.call (v := .int .i64 0) rfl (by (repeat (first | exact Args.nil | (apply Args.cons rfl; ((first | exact fun _ => rfl | exact fun h => h | (intro h; simp_all; done))))))) (fun _ w2 hw2 => (indexByte_calls _ _ w2).mono (fun e w3 h => ⟨by rw [h.1]; exact rfl, by rw [h.2]; exact hw2⟩))))
  apply OL.op; exact Guard.yes rfl rfl; rfl; rfl; apply Pev.bin; rfl; exact yes; rfl; exact yes; intro hcond; apply Bin.geq
  apply OL.op; exact Guard.none; rfl; rfl; apply Pev.pick_and; rfl; exact yes; rfl; exact yes
  apply OL.nil
  with_reducible apply At.next
  refine W.cond rfl (fun _ => ?_) (fun hb => ?_)
  case refine_2 => simp at hb
  apply W.regd0; decide +kernel; kernel_rfl; decide +kernel; exact fun w hw => hw.drew
  apply qmv; rfl; rfl
  apply QL.op; exact Guard.none; rfl; rfl; apply Go.Pk.indexE; rfl; exact yes; rfl; exact yes; rfl
  apply qmv; rfl; rfl
  apply QL.op; exact Guard.none; rfl; rfl; apply Go.Pk.sliceE; rfl; exact yes; rfl; exact yes; rfl
  apply qas; rfl; rfl
  apply qas; rfl; rfl
  apply QL.nil
  with_reducible apply At.next
  apply W.seq
  apply W.regd0; decide +kernel; kernel_rfl; decide +kernel; exact fun w hw => hw.drew
  apply qmv; rfl; rfl
  apply QL.op; exact Guard.none; rfl; rfl; apply Pev.len_slice; rfl; exact yes; rfl
  apply qbn; rfl; rfl; rfl; apply Bin.gtr
  apply qmv; rfl; rfl
  apply QL.op; exact Guard.yes rfl rfl; rfl; rfl; apply Pev.move; rfl; exact yes
  apply QL.op; exact Guard.yes rfl rfl; rfl; rfl; apply Go.Pk.indexE; rfl; exact fun h => h; rfl; exact yes; rfl
  apply QL.op; exact Guard.yes rfl rfl; rfl; rfl; apply Pev.move; rfl; exact yes
  apply QL.op; exact Guard.yes rfl rfl; rfl; rfl; apply Pev.idx; rfl; exact fun h => h; rfl; exact yes; rfl; rfl; intro hcond; (simp only [Bool.and_eq_true, Bool.or_eq_true, Bool.not_eq_true', decide_eq_true_eq, decide_eq_false_iff_not] at *; omega)
  apply QL.op; exact Guard.yes rfl rfl; rfl; rfl; apply Pev.load_kept; rfl; exact fun h => h; exact .head _; rfl; intro hcond; assumption; intro hcond; assumption; intro hcond; exact NotOwned.nil
  (((first | (with_reducible apply OL.op) | (with_reducible apply QL.op)); ((first | exact Guard.none | exact Guard.yes rfl rfl | exact Guard.no rfl rfl | exact Guard.cyes rfl rfl | exact Guard.cno rfl rfl)); rfl; rfl); (exact Pev.call rfl (by (repeat (first | exact Args.nil | (apply Args.cons rfl; ((first | exact fun _ => rfl | exact fun h => h | (intro h; simp_all; done))))))) (fun _ w2 hw2 => (isOf_calls c x w2 hc).mono (fun e w3 h => ⟨h.1, hw2.ext h.2⟩))))
  apply QL.op; exact Guard.none; rfl; rfl; apply Pev.pick_and; rfl; exact yes; rfl; exact fun h => h
  apply qas; rfl; rfl
  apply QL.nil
  with_reducible apply At.next
  apply W.seq
  apply W.seq
  apply W.reg
  apply omv; rfl; rfl
  apply OL.nil
  with_reducible apply At.next
  apply W.block
  apply W.seq
  apply W.reg
  apply obn; rfl; rfl; rfl; apply Bin.eql
  apply oas; rfl; rfl
  apply OL.nil
  with_reducible apply At.next
  (refine W.cond rfl (fun h0 => ?_) (fun h0 => ?_)) <;> (try (simp only [Bool.and_eq_true, Bool.or_eq_true, Bool.not_eq_true', Bool.and_eq_false_iff, Bool.or_eq_false_iff, Bool.not_eq_false', decide_eq_true_eq, decide_eq_false_iff_not, Int.not_lt, Int.not_le] at h0)) <;> (try (exfalso; first | omega | exact h0 trivial | contradiction))
  apply W.seq
  apply W.reg
  apply obn; rfl; rfl; rfl; apply Bin.eql
  apply oas; rfl; rfl
  apply OL.nil
  with_reducible apply At.next
  (refine W.cond rfl (fun h43 => ?_) (fun h43 => ?_)) <;> (try (simp only [Bool.and_eq_true, Bool.or_eq_true, Bool.not_eq_true', Bool.and_eq_false_iff, Bool.or_eq_false_iff, Bool.not_eq_false', decide_eq_true_eq, decide_eq_false_iff_not, Int.not_lt, Int.not_le] at h43)) <;> (try (exfalso; first | omega | exact h43 trivial | contradiction))
  apply W.seq
  apply W.reg
  apply obn; rfl; rfl; rfl; apply Bin.eql
  apply oas; rfl; rfl
  apply OL.nil
  with_reducible apply At.next
  (refine W.cond rfl (fun h63 => ?_) (fun h63 => ?_)) <;> (try (simp only [Bool.and_eq_true, Bool.or_eq_true, Bool.not_eq_true', Bool.and_eq_false_iff, Bool.or_eq_false_iff, Bool.not_eq_false', decide_eq_true_eq, decide_eq_false_iff_not, Int.not_lt, Int.not_le] at h63)) <;> (try (exfalso; first | omega | exact h63 trivial | contradiction))
  apply W.skip
  with_reducible apply At.in_normal
  with_reducible apply At.next
  apply W.seq
  apply W.reg
  apply omv; rfl; rfl
  apply omv; rfl; rfl
  (((first | (with_reducible apply OL.op) | (with_reducible apply QL.op)); ((first | exact Guard.none | exact Guard.yes rfl rfl | exact Guard.no rfl rfl | exact Guard.cyes rfl rfl | exact Guard.cno rfl rfl)); rfl; rfl); (exact Pev.call rfl (by (repeat (first | exact Args.nil | (apply Args.cons rfl; ((first | exact fun _ => rfl | exact fun h => h | (intro h; simp_all; done))))))) (fun _ w2 hw2 => (ih r (x :: l) _ _ w2 (by simp only [List.length_cons, List.length_nil] at hn ⊢; omega) (by simp only [enc, markB, List.length_cons, List.length_append, List.length_nil] at hz ⊢; omega) (hr') (hcap) (hs.ext (hw2.toExt (by (repeat (first | exact List.Mem.head _ | apply List.Mem.tail))) (fun k hk => by (focus ((try simp only [add_block]); (repeat (first | exact NotOwned.nil | exact hno _ (by omega) | refine NotOwned.nothing ?_ | refine NotOwned.nds (hlow _ (by omega)) ?_ | refine NotOwned.mapS (by omega) ?_ | apply NotOwned.bif | refine NotOwned.blk (by omega) ?_ | refine NotOwned.row (by omega) ?_ | refine NotOwned.grid (by assumption) (by omega) ?_)); done)))) (Nat.le_refl _))).mono (fun e w3 h => ⟨h.1, hw2.ext h.2⟩))))
  apply omv; rfl; rfl
  apply OL.op; exact Guard.no rfl rfl; rfl; rfl; apply Pev.move; rfl; exact yes
  apply OL.op; exact Guard.no rfl rfl; rfl; rfl; apply Pev.move; rfl; exact fun h => h
  apply OL.op; exact Guard.cyes rfl rfl; rfl; rfl; apply Pev.move; rfl; exact yes
  apply OL.op; exact Guard.cyes rfl rfl; rfl; rfl; apply Pev.move; rfl; exact yes
  apply OL.op; exact Guard.cyes rfl rfl; rfl; rfl; apply Pev.slice_lo; rfl; exact fun h => h; rfl; exact yes; rfl; rfl; intro hcond; (simp only [Bool.and_eq_true, Bool.or_eq_true, Bool.not_eq_true', decide_eq_true_eq, decide_eq_false_iff_not] at *; omega)
  (((first | (with_reducible apply OL.op) | (with_reducible apply QL.op)); ((first | exact Guard.none | exact Guard.yes rfl rfl | exact Guard.no rfl rfl | exact Guard.cyes rfl rfl | exact Guard.cno rfl rfl)); rfl; rfl); (exact Pev.call rfl (by (repeat (first | exact Args.nil | (apply Args.cons rfl; ((first | exact fun _ => rfl | exact fun h => h | (intro h; simp_all; done))))))) (fun _ w2 hw2 => (ih ((c, Mk.star) :: r) l _ _ w2 (by simp only [List.length_cons, List.length_nil] at hn ⊢; omega) (by simp only [enc, markB, List.length_cons, List.length_append, List.length_nil] at hz ⊢; omega) (hrs) (by show l.length ≤ cap - 1; simp only [List.length_cons] at hcap; omega) (htl.ext (hw2.toExt (by (repeat (first | exact List.Mem.head _ | apply List.Mem.tail))) (fun k hk => by (focus ((try simp only [add_block]); (repeat (first | exact NotOwned.nil | exact hno _ (by omega) | refine NotOwned.nothing ?_ | refine NotOwned.nds (hlow _ (by omega)) ?_ | refine NotOwned.mapS (by omega) ?_ | apply NotOwned.bif | refine NotOwned.blk (by omega) ?_ | refine NotOwned.row (by omega) ?_ | refine NotOwned.grid (by assumption) (by omega) ?_)); done)))) (Nat.le_refl _))).mono (fun e w3 h => ⟨h.1, hw2.ext h.2⟩))))
  apply OL.op; exact Guard.no rfl rfl; rfl; rfl; apply Pev.pick_and; rfl; exact fun h => h; rfl; exact fun h => h
  apply OL.op; exact Guard.none; rfl; rfl; apply Pev.pick_or; rfl; exact yes; rfl; exact fun h => h
  apply oas; rfl; rfl
  apply OL.nil
  with_reducible apply At.next
  apply W.ret
  ((with_reducible apply At.fin1); rfl; rfl; intro w' hw')
  exact ⟨congrArg (fun b => Ending.returned (Value.bool b)) (by simp [Pk.mt]), by (exact hw'.toExt (by (repeat (first | exact List.Mem.head _ | apply List.Mem.tail))) (fun k hk => by (focus ((try simp only [add_block]); (repeat (first | exact NotOwned.nil | exact hno _ (by omega) | refine NotOwned.nothing ?_ | refine NotOwned.nds (hlow _ (by omega)) ?_ | refine NotOwned.mapS (by omega) ?_ | apply NotOwned.bif | refine NotOwned.blk (by omega) ?_ | refine NotOwned.row (by omega) ?_ | refine NotOwned.grid (by assumption) (by omega) ?_)); done))))⟩
theorem fitsText_plus_nil (n : Nat) (ih : FitsText n) (c : UInt8) (r : Sh) (q : Option Addr) (cap : Nat) (w : World) (hn : ((c, Mk.plus) :: r).length + ([] : List Int).length ≤ n + 1) (hz : (enc ((c, Mk.plus) :: r)).length ≤ 100) (hl : ∀ p ∈ ((c, Mk.plus) :: r), p.1 ∈ letters) (hcap : ([] : List Int).length ≤ cap) (hs : SlAt w w.heap.size q (ins [])) :
    Calls Try.prog 61 #[.string (E (enc ((c, Mk.plus) :: r))), .slice q ([] : List Int).length cap] w fun e w' => e = .returned (.bool (Pk.mt ((c, Mk.plus) :: r) [])) ∧ Ext w w' := by
  have hc : c ∈ letters := hl _ (.head _)
  have hr' : ∀ p ∈ r, p.1 ∈ letters := fun p h => hl p (.tail _ h)
  have hrs : ∀ p ∈ (c, Mk.star) :: r, p.1 ∈ letters := fun p h => by
    rcases List.mem_cons.1 h with rfl | h
    · exact hc
    · exact hr' _ h
  have e0 : E (enc ((c, Mk.plus) :: r)) = E (c :: 43 :: enc r) := by simp [enc, markB]
  have hz2 := hz
  simp only [enc, markB, List.length_cons, List.length_append, List.length_nil] at hz2
  rw [e0]
  clear e0
  refine enter Try.func61 rfl Try.ntmps61 rfl (Cls.start w) ?_
  (simp only [argEnv, Nat.zero_add, Nat.reduceAdd])
  apply W.seq
  apply W.reg
  apply oas; rfl; rfl
  apply OL.nil
  with_reducible apply At.next
  apply W.seq
  apply W.seq
  apply W.reg
  apply omv; rfl; rfl
  apply obn; rfl; rfl; rfl; apply Bin.str_eql
  apply OL.nil
  with_reducible apply At.next
  refine W.cond rfl (fun hb => ?_) (fun _ => ?_)
  · rw [E_no] at hb; cases hb
  apply W.skip
  with_reducible apply At.next
  apply W.seq
  apply W.reg
  apply oas; rfl; rfl
  apply OL.nil
  with_reducible apply At.next
  apply W.seq
  apply W.reg
  apply omv; rfl; rfl
  apply OL.op; exact Guard.none; rfl; rfl; apply Go.Pk.sliceE; rfl; exact yes; rfl; exact yes; rfl
  apply oas; rfl; rfl
  apply OL.nil
  with_reducible apply At.next
  apply W.seq
  apply W.seq
  apply W.reg
  apply omv; rfl; rfl
  apply obn; rfl; rfl; rfl; apply Bin.str_neq
  apply omv; rfl; rfl
  apply OL.op; exact Guard.yes rfl rfl; rfl; rfl; apply Pev.move; rfl; exact yes
  apply OL.op; exact Guard.yes rfl rfl; rfl; rfl; apply Go.Pk.indexE; rfl; exact yes; rfl; exact yes; rfl
  rw [E_no]
  skip
  (((first | (with_reducible apply OL.op) | (with_reducible apply QL.op)); ((first | exact Guard.none | exact Guard.yes rfl rfl | exact Guard.no rfl rfl | exact Guard.cyes rfl rfl | exact Guard.cno rfl rfl)); rfl; rfl); (refine Pev.call (v := .int .i64 1) rfl (by (repeat (first | exact Args.nil | (apply Args.cons rfl; ((first | exact fun _ => rfl | exact fun h => h | (intro h; simp_all; done))))))) (fun _ w2 hw2 => (indexByte_calls _ _ w2).mono (fun e w3 h => ⟨by rw [h.1]; exact rfl, by rw [h.2]; exact hw2⟩))))
  apply OL.op; exact Guard.yes rfl rfl; rfl; rfl; apply Pev.bin; rfl; exact yes; rfl; exact yes; intro hcond; apply Bin.geq
  apply OL.op; exact Guard.none; rfl; rfl; apply Pev.pick_and; rfl; exact yes; rfl; exact yes
  apply OL.nil
  with_reducible apply At.next
  refine W.cond rfl (fun _ => ?_) (fun hb => ?_)
  case refine_2 => simp at hb
  apply W.regd0; decide +kernel; kernel_rfl; decide +kernel; exact fun w hw => hw.drew
  apply qmv; rfl; rfl
  apply QL.op; exact Guard.none; rfl; rfl; apply Go.Pk.indexE; rfl; exact yes; rfl; exact yes; rfl
  apply qmv; rfl; rfl
  apply QL.op; exact Guard.none; rfl; rfl; apply Go.Pk.sliceE; rfl; exact yes; rfl; exact yes; rfl
  apply qas; rfl; rfl
  apply qas; rfl; rfl
  apply QL.nil
  with_reducible apply At.next
  apply W.seq
  apply W.regd0; decide +kernel; kernel_rfl; decide +kernel; exact fun w hw => hw.drew
  apply qmv; rfl; rfl
  apply QL.op; exact Guard.none; rfl; rfl; apply Pev.len_slice; rfl; exact yes; rfl
  apply qbn; rfl; rfl; rfl; apply Bin.gtr
  apply qmv; rfl; rfl
  apply QL.op; exact Guard.yes rfl rfl; rfl; rfl; apply Pev.move; rfl; exact yes
  apply QL.op; exact Guard.yes rfl rfl; rfl; rfl; apply Go.Pk.indexE; rfl; exact fun h => h; rfl; exact yes; rfl
  apply QL.op; exact Guard.yes rfl rfl; rfl; rfl; apply Pev.move; rfl; exact yes
  apply QL.gateOff; exact Guard.yes rfl rfl; rfl; rfl
  apply QL.gateOff; exact Guard.yes rfl rfl; rfl; rfl
  apply QL.gateOff; exact Guard.yes rfl rfl; rfl; rfl
  apply QL.op; exact Guard.none; rfl; rfl; apply Pev.pick_off; rfl; exact yes; (intro hcond; rfl); rfl; exact yes
  apply qas; rfl; rfl
  apply QL.nil
  with_reducible apply At.next
  apply W.seq
  apply W.seq
  apply W.reg
  apply omv; rfl; rfl
  apply OL.nil
  with_reducible apply At.next
  apply W.block
  apply W.seq
  apply W.reg
  apply obn; rfl; rfl; rfl; apply Bin.eql
  apply oas; rfl; rfl
  apply OL.nil
  with_reducible apply At.next
  (refine W.cond rfl (fun h0 => ?_) (fun h0 => ?_)) <;> (try (simp only [Bool.and_eq_true, Bool.or_eq_true, Bool.not_eq_true', Bool.and_eq_false_iff, Bool.or_eq_false_iff, Bool.not_eq_false', decide_eq_true_eq, decide_eq_false_iff_not, Int.not_lt, Int.not_le] at h0)) <;> (try (exfalso; first | omega | exact h0 trivial | contradiction))
  apply W.seq
  apply W.reg
  apply obn; rfl; rfl; rfl; apply Bin.eql
  apply oas; rfl; rfl
  apply OL.nil
  with_reducible apply At.next
  (refine W.cond rfl (fun h43 => ?_) (fun h43 => ?_)) <;> (try (simp only [Bool.and_eq_true, Bool.or_eq_true, Bool.not_eq_true', Bool.and_eq_false_iff, Bool.or_eq_false_iff, Bool.not_eq_false', decide_eq_true_eq, decide_eq_false_iff_not, Int.not_lt, Int.not_le] at h43)) <;> (try (exfalso; first | omega | exact h43 trivial | contradiction))
  · apply W.seq
    apply W.regd0; decide +kernel; kernel_rfl; decide +kernel; exact fun w hw => hw.drew
    apply qmv; rfl; rfl
    apply qmv; rfl; rfl
    apply QL.op; exact Guard.yes rfl rfl; rfl; rfl; apply Pev.move; rfl; exact yes
    apply QL.op; exact Guard.yes rfl rfl; rfl; rfl; apply Go.Pk.sliceE1; rfl; exact fun h => h; rfl; exact yes; rfl
    apply QL.op; exact Guard.yes rfl rfl; rfl; rfl; apply Pev.bin; rfl; exact fun h => h; rfl; exact yes; intro hcond; apply Go.Pk.addE; (simp only [List.length_cons, List.length_nil, List.length_append]; omega)
    apply QL.op; exact Guard.yes rfl rfl; rfl; rfl; apply Pev.move; rfl; exact yes
    apply QL.op; exact Guard.yes rfl rfl; rfl; rfl; apply Pev.bin; rfl; exact fun h => h; rfl; exact fun h => h; intro hcond; apply Go.Pk.addE; (simp only [List.length_cons, List.length_nil, List.length_append]; omega)
    apply QL.op; exact Guard.yes rfl rfl; rfl; rfl; apply Pev.move; rfl; exact yes
    apply QL.gateOff; exact Guard.yes rfl rfl; rfl; rfl
    apply QL.gateOff; exact Guard.yes rfl rfl; rfl; rfl
    apply QL.op; exact Guard.none; rfl; rfl; apply Pev.pick_off; rfl; exact yes; (intro hcond; rfl); rfl; exact yes
    apply qas; rfl; rfl
    apply QL.nil
    with_reducible apply At.next
    apply W.ret
    with_reducible apply At.in_ret
    with_reducible apply At.then_ret
    ((with_reducible apply At.fin1); rfl; rfl; intro w' hw')
    exact ⟨congrArg (fun b => Ending.returned (Value.bool b)) (by simp [Pk.mt]), by (exact hw'.toExt (by (repeat (first | exact List.Mem.head _ | apply List.Mem.tail))) (fun k hk => by (focus ((try simp only [add_block]); (repeat (first | exact NotOwned.nil | exact hno _ (by omega) | refine NotOwned.nothing ?_ | refine NotOwned.nds (hlow _ (by omega)) ?_ | refine NotOwned.mapS (by omega) ?_ | apply NotOwned.bif | refine NotOwned.blk (by omega) ?_ | refine NotOwned.row (by omega) ?_ | refine NotOwned.grid (by assumption) (by omega) ?_)); done))))⟩
theorem fitsText_plus_cons (n : Nat) (ih : FitsText n) (c : UInt8) (r : Sh) (x : Int) (l : List Int) (q : Option Addr) (cap : Nat) (w : World) (hn : ((c, Mk.plus) :: r).length + ((x :: l) : List Int).length ≤ n + 1) (hz : (enc ((c, Mk.plus) :: r)).length ≤ 100) (hl : ∀ p ∈ ((c, Mk.plus) :: r), p.1 ∈ letters) (hcap : ((x :: l) : List Int).length ≤ cap) (hs : SlAt w w.heap.size q (ins (x :: l))) :
    Calls Try.prog 61 #[.string (E (enc ((c, Mk.plus) :: r))), .slice q ((x :: l) : List Int).length cap] w fun e w' => e = .returned (.bool (Pk.mt ((c, Mk.plus) :: r) (x :: l))) ∧ Ext w w' := by
  have hc : c ∈ letters := hl _ (.head _)
  have hr' : ∀ p ∈ r, p.1 ∈ letters := fun p h => hl p (.tail _ h)
  have hrs : ∀ p ∈ (c, Mk.star) :: r, p.1 ∈ letters := fun p h => by
    rcases List.mem_cons.1 h with rfl | h
    · exact hc
    · exact hr' _ h
  have htl : SlAt w w.heap.size (cutq q cap 1 1) (ins l) := hs.cut (by rw [ins_length]; omega)
  obtain ⟨a, x', rfl, hab, hx, hcell⟩ := SlAt.int hs (i := 0) (by simp)
  obtain rfl : x = x' := by simpa using hx
  clear hx
  have e0 : E (enc ((c, Mk.plus) :: r)) = E (c :: 43 :: enc r) := by simp [enc, markB]
  have hz2 := hz
  simp only [enc, markB, List.length_cons, List.length_append, List.length_nil] at hz2
  rw [e0]
  clear e0
  refine enter Try.func61 rfl Try.ntmps61 rfl (Cls.start w) ?_
  (simp only [argEnv, Nat.zero_add, Nat.reduceAdd])
  apply W.seq
  apply W.reg
  apply oas; rfl; rfl
  apply OL.nil
  with_reducible apply At.next
  apply W.seq
  apply W.seq
  apply W.reg
  apply omv; rfl; rfl
  apply obn; rfl; rfl; rfl; apply Bin.str_eql
  apply OL.nil
  with_reducible apply At.next
  refine W.cond rfl (fun hb => ?_) (fun _ => ?_)
  · rw [E_no] at hb; cases hb
  apply W.skip
  with_reducible apply At.next
  apply W.seq
  apply W.reg
  apply oas; rfl; rfl
  apply OL.nil
  with_reducible apply At.next
  apply W.seq
  apply W.reg
  apply omv; rfl; rfl
  apply OL.op; exact Guard.none; rfl; rfl; apply Go.Pk.sliceE; rfl; exact yes; rfl; exact yes; rfl
  apply oas; rfl; rfl
  apply OL.nil
  with_reducible apply At.next
  apply W.seq
  apply W.seq
  apply W.reg
  apply omv; rfl; rfl
  apply obn; rfl; rfl; rfl; apply Bin.str_neq
  apply omv; rfl; rfl
  apply OL.op; exact Guard.yes rfl rfl; rfl; rfl; apply Pev.move; rfl; exact yes
  apply OL.op; exact Guard.yes rfl rfl; rfl; rfl; apply Go.Pk.indexE; rfl; exact yes; rfl; exact yes; rfl
  rw [E_no]
  skip
  (((first | (with_reducible apply OL.op) | (with_reducible apply QL.op)); ((first | exact Guard.none | exact Guard.yes rfl rfl | exact Guard.no rfl rfl | exact Guard.cyes rfl rfl | exact Guard.cno rfl rfl)); rfl; rfl); (refine Pev.call (v := .int .i64 1) rfl (by (repeat (first | exact Args.nil | (apply Args.cons rfl; ((first | exact fun _ => rfl | exact fun h => h | (intro h; simp_all; done))))))) (fun _ w2 hw2 => (indexByte_calls _ _ w2).mono (fun e w3 h => ⟨by rw [h.1]; exact rfl, by rw [h.2]; exact hw2⟩))))
  apply OL.op; exact Guard.yes rfl rfl; rfl; rfl; apply Pev.bin; rfl; exact yes; rfl; exact yes; intro hcond; apply Bin.geq
  apply OL.op; exact Guard.none; rfl; rfl; apply Pev.pick_and; rfl; exact yes; rfl; exact yes
  apply OL.nil
  with_reducible apply At.next
  refine W.cond rfl (fun _ => ?_) (fun hb => ?_)
  case refine_2 => simp at hb
  apply W.regd0; decide +kernel; kernel_rfl; decide +kernel; exact fun w hw => hw.drew
  apply qmv; rfl; rfl
  apply QL.op; exact Guard.none; rfl; rfl; apply Go.Pk.indexE; rfl; exact yes; rfl; exact yes; rfl
  apply qmv; rfl; rfl
  apply QL.op; exact Guard.none; rfl; rfl; apply Go.Pk.sliceE; rfl; exact yes; rfl; exact yes; rfl
  apply qas; rfl; rfl
  apply qas; rfl; rfl
  apply QL.nil
  with_reducible apply At.next
  apply W.seq
  apply W.regd0; decide +kernel; kernel_rfl; decide +kernel; exact fun w hw => hw.drew
  apply qmv; rfl; rfl
  apply QL.op; exact Guard.none; rfl; rfl; apply Pev.len_slice; rfl; exact yes; rfl
  apply qbn; rfl; rfl; rfl; apply Bin.gtr
  apply qmv; rfl; rfl
  apply QL.op; exact Guard.yes rfl rfl; rfl; rfl; apply Pev.move; rfl; exact yes
  apply QL.op; exact Guard.yes rfl rfl; rfl; rfl; apply Go.Pk.indexE; rfl; exact fun h => h; rfl; exact yes; rfl
  apply QL.op; exact Guard.yes rfl rfl; rfl; rfl; apply Pev.move; rfl; exact yes
  apply QL.op; exact Guard.yes rfl rfl; rfl; rfl; apply Pev.idx; rfl; exact fun h => h; rfl; exact yes; rfl; rfl; intro hcond; (simp only [Bool.and_eq_true, Bool.or_eq_true, Bool.not_eq_true', decide_eq_true_eq, decide_eq_false_iff_not] at *; omega)
  apply QL.op; exact Guard.yes rfl rfl; rfl; rfl; apply Pev.load_kept; rfl; exact fun h => h; exact .head _; rfl; intro hcond; assumption; intro hcond; assumption; intro hcond; exact NotOwned.nil
  (((first | (with_reducible apply OL.op) | (with_reducible apply QL.op)); ((first | exact Guard.none | exact Guard.yes rfl rfl | exact Guard.no rfl rfl | exact Guard.cyes rfl rfl | exact Guard.cno rfl rfl)); rfl; rfl); (exact Pev.call rfl (by (repeat (first | exact Args.nil | (apply Args.cons rfl; ((first | exact fun _ => rfl | exact fun h => h | (intro h; simp_all; done))))))) (fun _ w2 hw2 => (isOf_calls c x w2 hc).mono (fun e w3 h => ⟨h.1, hw2.ext h.2⟩))))
  apply QL.op; exact Guard.none; rfl; rfl; apply Pev.pick_and; rfl; exact yes; rfl; exact fun h => h
  apply qas; rfl; rfl
  apply QL.nil
  with_reducible apply At.next
  apply W.seq
  apply W.seq
  apply W.reg
  apply omv; rfl; rfl
  apply OL.nil
  with_reducible apply At.next
  apply W.block
  apply W.seq
  apply W.reg
  apply obn; rfl; rfl; rfl; apply Bin.eql
  apply oas; rfl; rfl
  apply OL.nil
  with_reducible apply At.next
  (refine W.cond rfl (fun h0 => ?_) (fun h0 => ?_)) <;> (try (simp only [Bool.and_eq_true, Bool.or_eq_true, Bool.not_eq_true', Bool.and_eq_false_iff, Bool.or_eq_false_iff, Bool.not_eq_false', decide_eq_true_eq, decide_eq_false_iff_not, Int.not_lt, Int.not_le] at h0)) <;> (try (exfalso; first | omega | exact h0 trivial | contradiction))
  apply W.seq
  apply W.reg
  apply obn; rfl; rfl; rfl; apply Bin.eql
  apply oas; rfl; rfl
  apply OL.nil
  with_reducible apply At.next
  (refine W.cond rfl (fun h43 => ?_) (fun h43 => ?_)) <;> (try (simp only [Bool.and_eq_true, Bool.or_eq_true, Bool.not_eq_true', Bool.and_eq_false_iff, Bool.or_eq_false_iff, Bool.not_eq_false', decide_eq_true_eq, decide_eq_false_iff_not, Int.not_lt, Int.not_le] at h43)) <;> (try (exfalso; first | omega | exact h43 trivial | contradiction))
  · apply W.seq
    apply W.regd0; decide +kernel; kernel_rfl; decide +kernel; exact fun w hw => hw.drew
    apply qmv; rfl; rfl
    apply qmv; rfl; rfl
    apply QL.op; exact Guard.yes rfl rfl; rfl; rfl; apply Pev.move; rfl; exact yes
    apply QL.op; exact Guard.yes rfl rfl; rfl; rfl; apply Go.Pk.sliceE1; rfl; exact fun h => h; rfl; exact yes; rfl
    apply QL.op; exact Guard.yes rfl rfl; rfl; rfl; apply Pev.bin; rfl; exact fun h => h; rfl; exact yes; intro hcond; apply Go.Pk.addE; (simp only [List.length_cons, List.length_nil, List.length_append]; omega)
    apply QL.op; exact Guard.yes rfl rfl; rfl; rfl; apply Pev.move; rfl; exact yes
    apply QL.op; exact Guard.yes rfl rfl; rfl; rfl; apply Pev.bin; rfl; exact fun h => h; rfl; exact fun h => h; intro hcond; apply Go.Pk.addE; (simp only [List.length_cons, List.length_nil, List.length_append]; omega)
    apply QL.op; exact Guard.yes rfl rfl; rfl; rfl; apply Pev.move; rfl; exact yes
    apply QL.op; exact Guard.yes rfl rfl; rfl; rfl; apply Pev.slice_lo; rfl; exact fun h => h; rfl; exact yes; rfl; rfl; intro hcond; (simp only [Bool.and_eq_true, Bool.or_eq_true, Bool.not_eq_true', decide_eq_true_eq, decide_eq_false_iff_not] at *; omega)
    (((first | (with_reducible apply OL.op) | (with_reducible apply QL.op)); ((first | exact Guard.none | exact Guard.yes rfl rfl | exact Guard.no rfl rfl | exact Guard.cyes rfl rfl | exact Guard.cno rfl rfl)); rfl; rfl); (exact Pev.call rfl (by (repeat (first | exact Args.nil | (apply Args.cons rfl; ((first | exact fun _ => rfl | exact fun h => h | (intro h; simp_all; done))))))) (fun _ w2 hw2 => (ih ((c, Mk.star) :: r) l _ _ w2 (by simp only [List.length_cons, List.length_nil] at hn ⊢; omega) (by simp only [enc, markB, List.length_cons, List.length_append, List.length_nil] at hz ⊢; omega) (hrs) (by show l.length ≤ cap - 1; simp only [List.length_cons] at hcap; omega) (htl.ext (hw2.toExt (by (repeat (first | exact List.Mem.head _ | apply List.Mem.tail))) (fun k hk => by (focus ((try simp only [add_block]); (repeat (first | exact NotOwned.nil | exact hno _ (by omega) | refine NotOwned.nothing ?_ | refine NotOwned.nds (hlow _ (by omega)) ?_ | refine NotOwned.mapS (by omega) ?_ | apply NotOwned.bif | refine NotOwned.blk (by omega) ?_ | refine NotOwned.row (by omega) ?_ | refine NotOwned.grid (by assumption) (by omega) ?_)); done)))) (Nat.le_refl _))).mono (fun e w3 h => ⟨h.1, hw2.ext h.2⟩))))
    apply QL.op; exact Guard.none; rfl; rfl; apply Pev.pick_and; rfl; exact yes; rfl; exact fun h => h
    apply qas; rfl; rfl
    apply QL.nil
    with_reducible apply At.next
    apply W.ret
    with_reducible apply At.in_ret
    with_reducible apply At.then_ret
    ((with_reducible apply At.fin1); rfl; rfl; intro w' hw')
    exact ⟨congrArg (fun b => Ending.returned (Value.bool b)) (by simp [Pk.mt]), by (exact hw'.toExt (by (repeat (first | exact List.Mem.head _ | apply List.Mem.tail))) (fun k hk => by (focus ((try simp only [add_block]); (repeat (first | exact NotOwned.nil | exact hno _ (by omega) | refine NotOwned.nothing ?_ | refine NotOwned.nds (hlow _ (by omega)) ?_ | refine NotOwned.mapS (by omega) ?_ | apply NotOwned.bif | refine NotOwned.blk (by omega) ?_ | refine NotOwned.row (by omega) ?_ | refine NotOwned.grid (by assumption) (by omega) ?_)); done))))⟩
theorem fitsText_opt_nil (n : Nat) (ih : FitsText n) (c : UInt8) (r : Sh) (q : Option Addr) (cap : Nat) (w : World) (hn : ((c, Mk.opt) :: r).length + ([] : List Int).length ≤ n + 1) (hz : (enc ((c, Mk.opt) :: r)).length ≤ 100) (hl : ∀ p ∈ ((c, Mk.opt) :: r), p.1 ∈ letters) (hcap : ([] : List Int).length ≤ cap) (hs : SlAt w w.heap.size q (ins [])) :
    Calls Try.prog 61 #[.string (E (enc ((c, Mk.opt) :: r))), .slice q ([] : List Int).length cap] w fun e w' => e = .returned (.bool (Pk.mt ((c, Mk.opt) :: r) [])) ∧ Ext w w' := by
  have hc : c ∈ letters := hl _ (.head _)
  have hr' : ∀ p ∈ r, p.1 ∈ letters := fun p h => hl p (.tail _ h)
  have e0 : E (enc ((c, Mk.opt) :: r)) = E (c :: 63 :: enc r) := by simp [enc, markB]
  have hz2 := hz
  simp only [enc, markB, List.length_cons, List.length_append, List.length_nil] at hz2
  rw [e0]
  clear e0
  refine enter Try.func61 rfl Try.ntmps61 rfl (Cls.start w) ?_
  (simp only [argEnv, Nat.zero_add, Nat.reduceAdd])
  apply W.seq
  apply W.reg
  apply oas; rfl; rfl
  apply OL.nil
  with_reducible apply At.next
  apply W.seq
  apply W.seq
  apply W.reg
  apply omv; rfl; rfl
  apply obn; rfl; rfl; rfl; apply Bin.str_eql
  apply OL.nil
  with_reducible apply At.next
  refine W.cond rfl (fun hb => ?_) (fun _ => ?_)
  · rw [E_no] at hb; cases hb
  apply W.skip
  with_reducible apply At.next
  apply W.seq
  apply W.reg
  apply oas; rfl; rfl
  apply OL.nil
  with_reducible apply At.next
  apply W.seq
  apply W.reg
  apply omv; rfl; rfl
  apply OL.op; exact Guard.none; rfl; rfl; apply Go.Pk.sliceE; rfl; exact yes; rfl; exact yes; rfl
  apply oas; rfl; rfl
  apply OL.nil
  with_reducible apply At.next
  apply W.seq
  apply W.seq
  apply W.reg
  apply omv; rfl; rfl
  apply obn; rfl; rfl; rfl; apply Bin.str_neq
  apply omv; rfl; rfl
  apply OL.op; exact Guard.yes rfl rfl; rfl; rfl; apply Pev.move; rfl; exact yes
  apply OL.op; exact Guard.yes rfl rfl; rfl; rfl; apply Go.Pk.indexE; rfl; exact yes; rfl; exact yes; rfl
  rw [E_no]
  skip
  (((first | (with_reducible apply OL.op) | (with_reducible apply QL.op)); ((first | exact Guard.none | exact Guard.yes rfl rfl | exact Guard.no rfl rfl | exact Guard.cyes rfl rfl | exact Guard.cno rfl rfl)); rfl; rfl); (refine Pev.call (v := .int .i64 2) rfl (by (repeat (first | exact Args.nil | (apply Args.cons rfl; ((first | exact fun _ => rfl | exact fun h => h | (intro h; simp_all; done))))))) (fun _ w2 hw2 => (indexByte_calls _ _ w2).mono (fun e w3 h => ⟨by rw [h.1]; exact rfl, by rw [h.2]; exact hw2⟩))))
  apply OL.op; exact Guard.yes rfl rfl; rfl; rfl; apply Pev.bin; rfl; exact yes; rfl; exact yes; intro hcond; apply Bin.geq
  apply OL.op; exact Guard.none; rfl; rfl; apply Pev.pick_and; rfl; exact yes; rfl; exact yes
  apply OL.nil
  with_reducible apply At.next
  refine W.cond rfl (fun _ => ?_) (fun hb => ?_)
  case refine_2 => simp at hb
  apply W.regd0; decide +kernel; kernel_rfl; decide +kernel; exact fun w hw => hw.drew
  apply qmv; rfl; rfl
  apply QL.op; exact Guard.none; rfl; rfl; apply Go.Pk.indexE; rfl; exact yes; rfl; exact yes; rfl
  apply qmv; rfl; rfl
  apply QL.op; exact Guard.none; rfl; rfl; apply Go.Pk.sliceE; rfl; exact yes; rfl; exact yes; rfl
  apply qas; rfl; rfl
  apply qas; rfl; rfl
  apply QL.nil
  with_reducible apply At.next
  apply W.seq
  apply W.regd0; decide +kernel; kernel_rfl; decide +kernel; exact fun w hw => hw.drew
  apply qmv; rfl; rfl
  apply QL.op; exact Guard.none; rfl; rfl; apply Pev.len_slice; rfl; exact yes; rfl
  apply qbn; rfl; rfl; rfl; apply Bin.gtr
  apply qmv; rfl; rfl
  apply QL.op; exact Guard.yes rfl rfl; rfl; rfl; apply Pev.move; rfl; exact yes
  apply QL.op; exact Guard.yes rfl rfl; rfl; rfl; apply Go.Pk.indexE; rfl; exact fun h => h; rfl; exact yes; rfl
  apply QL.op; exact Guard.yes rfl rfl; rfl; rfl; apply Pev.move; rfl; exact yes
  apply QL.gateOff; exact Guard.yes rfl rfl; rfl; rfl
  apply QL.gateOff; exact Guard.yes rfl rfl; rfl; rfl
  apply QL.gateOff; exact Guard.yes rfl rfl; rfl; rfl
  apply QL.op; exact Guard.none; rfl; rfl; apply Pev.pick_off; rfl; exact yes; (intro hcond; rfl); rfl; exact yes
  apply qas; rfl; rfl
  apply QL.nil
  with_reducible apply At.next
  apply W.seq
  apply W.seq
  apply W.reg
  apply omv; rfl; rfl
  apply OL.nil
  with_reducible apply At.next
  apply W.block
  apply W.seq
  apply W.reg
  apply obn; rfl; rfl; rfl; apply Bin.eql
  apply oas; rfl; rfl
  apply OL.nil
  with_reducible apply At.next
  (refine W.cond rfl (fun h0 => ?_) (fun h0 => ?_)) <;> (try (simp only [Bool.and_eq_true, Bool.or_eq_true, Bool.not_eq_true', Bool.and_eq_false_iff, Bool.or_eq_false_iff, Bool.not_eq_false', decide_eq_true_eq, decide_eq_false_iff_not, Int.not_lt, Int.not_le] at h0)) <;> (try (exfalso; first | omega | exact h0 trivial | contradiction))
  apply W.seq
  apply W.reg
  apply obn; rfl; rfl; rfl; apply Bin.eql
  apply oas; rfl; rfl
  apply OL.nil
  with_reducible apply At.next
  (refine W.cond rfl (fun h43 => ?_) (fun h43 => ?_)) <;> (try (simp only [Bool.and_eq_true, Bool.or_eq_true, Bool.not_eq_true', Bool.and_eq_false_iff, Bool.or_eq_false_iff, Bool.not_eq_false', decide_eq_true_eq, decide_eq_false_iff_not, Int.not_lt, Int.not_le] at h43)) <;> (try (exfalso; first | omega | exact h43 trivial | contradiction))
  apply W.seq
  apply W.reg
  apply obn; rfl; rfl; rfl; apply Bin.eql
  apply oas; rfl; rfl
  apply OL.nil
  with_reducible apply At.next
  (refine W.cond rfl (fun h63 => ?_) (fun h63 => ?_)) <;> (try (simp only [Bool.and_eq_true, Bool.or_eq_true, Bool.not_eq_true', Bool.and_eq_false_iff, Bool.or_eq_false_iff, Bool.not_eq_false', decide_eq_true_eq, decide_eq_false_iff_not, Int.not_lt, Int.not_le] at h63)) <;> (try (exfalso; first | omega | exact h63 trivial | contradiction))
  · apply W.seq
    apply W.reg
    apply omv; rfl; rfl
    apply omv; rfl; rfl
    (((first | (with_reducible apply OL.op) | (with_reducible apply QL.op)); ((first | exact Guard.none | exact Guard.yes rfl rfl | exact Guard.no rfl rfl | exact Guard.cyes rfl rfl | exact Guard.cno rfl rfl)); rfl; rfl); (exact Pev.call rfl (by (repeat (first | exact Args.nil | (apply Args.cons rfl; ((first | exact fun _ => rfl | exact fun h => h | (intro h; simp_all; done))))))) (fun _ w2 hw2 => (ih r [] _ _ w2 (by simp only [List.length_cons, List.length_nil] at hn ⊢; omega) (by simp only [enc, markB, List.length_cons, List.length_append, List.length_nil] at hz ⊢; omega) (hr') (Nat.zero_le _) (SlAt.nil)).mono (fun e w3 h => ⟨h.1, hw2.ext h.2⟩))))
    apply omv; rfl; rfl
    apply OL.op; exact Guard.no rfl rfl; rfl; rfl; apply Pev.move; rfl; exact yes
    apply OL.op; exact Guard.no rfl rfl; rfl; rfl; apply Pev.move; rfl; exact fun h => h
    apply OL.op; exact Guard.cyes rfl rfl; rfl; rfl; apply Pev.move; rfl; exact yes
    apply OL.op; exact Guard.cyes rfl rfl; rfl; rfl; apply Pev.move; rfl; exact yes
    apply OL.gateOff; exact Guard.cyes rfl rfl; (focus (simp; done)); rfl
    apply OL.gateOff; exact Guard.cyes rfl rfl; (focus (simp; done)); rfl
    apply OL.op; exact Guard.no rfl rfl; rfl; rfl; apply Pev.pick_off; rfl; exact fun h => h; (intro hcond; rfl); rfl; exact yes
    apply OL.op; exact Guard.none; rfl; rfl; apply Pev.pick_or; rfl; exact yes; rfl; exact fun h => h
    apply oas; rfl; rfl
    apply OL.nil
    with_reducible apply At.next
    apply W.ret
    with_reducible apply At.in_ret
    with_reducible apply At.then_ret
    ((with_reducible apply At.fin1); rfl; rfl; intro w' hw')
    exact ⟨congrArg (fun b => Ending.returned (Value.bool b)) (by simp [Pk.mt]), by (exact hw'.toExt (by (repeat (first | exact List.Mem.head _ | apply List.Mem.tail))) (fun k hk => by (focus ((try simp only [add_block]); (repeat (first | exact NotOwned.nil | exact hno _ (by omega) | refine NotOwned.nothing ?_ | refine NotOwned.nds (hlow _ (by omega)) ?_ | refine NotOwned.mapS (by omega) ?_ | apply NotOwned.bif | refine NotOwned.blk (by omega) ?_ | refine NotOwned.row (by omega) ?_ | refine NotOwned.grid (by assumption) (by omega) ?_)); done))))⟩
theorem fitsText_opt_cons (n : Nat) (ih : FitsText n) (c : UInt8) (r : Sh) (x : Int) (l : List Int) (q : Option Addr) (cap : Nat) (w : World) (hn : ((c, Mk.opt) :: r).length + ((x :: l) : List Int).length ≤ n + 1) (hz : (enc ((c, Mk.opt) :: r)).length ≤ 100) (hl : ∀ p ∈ ((c, Mk.opt) :: r), p.1 ∈ letters) (hcap : ((x :: l) : List Int).length ≤ cap) (hs : SlAt w w.heap.size q (ins (x :: l))) :
    Calls Try.prog 61 #[.string (E (enc ((c, Mk.opt) :: r))), .slice q ((x :: l) : List Int).length cap] w fun e w' => e = .returned (.bool (Pk.mt ((c, Mk.opt) :: r) (x :: l))) ∧ Ext w w' := by
  have hc : c ∈ letters := hl _ (.head _)
  have hr' : ∀ p ∈ r, p.1 ∈ letters := fun p h => hl p (.tail _ h)
  have htl : SlAt w w.heap.size (cutq q cap 1 1) (ins l) := hs.cut (by rw [ins_length]; omega)
  obtain ⟨a, x', rfl, hab, hx, hcell⟩ := SlAt.int hs (i := 0) (by simp)
  obtain rfl : x = x' := by simpa using hx
  clear hx
  have e0 : E (enc ((c, Mk.opt) :: r)) = E (c :: 63 :: enc r) := by simp [enc, markB]
  have hz2 := hz
  simp only [enc, markB, List.length_cons, List.length_append, List.length_nil] at hz2
  rw [e0]
  clear e0
  refine enter Try.func61 rfl Try.ntmps61 rfl (Cls.start w) ?_
  (simp only [argEnv, Nat.zero_add, Nat.reduceAdd])
  apply W.seq
  apply W.reg
  apply oas; rfl; rfl
  apply OL.nil
  with_reducible apply At.next
  apply W.seq
  apply W.seq
  apply W.reg
  apply omv; rfl; rfl
  apply obn; rfl; rfl; rfl; apply Bin.str_eql
  apply OL.nil
  with_reducible apply At.next
  refine W.cond rfl (fun hb => ?_) (fun _ => ?_)
  · rw [E_no] at hb; cases hb
  apply W.skip
  with_reducible apply At.next
  apply W.seq
  apply W.reg
  apply oas; rfl; rfl
  apply OL.nil
  with_reducible apply At.next
  apply W.seq
  apply W.reg
  apply omv; rfl; rfl
  apply OL.op; exact Guard.none; rfl; rfl; apply Go.Pk.sliceE; rfl; exact yes; rfl; exact yes; rfl
  apply oas; rfl; rfl
  apply OL.nil
  with_reducible apply At.next
  apply W.seq
  apply W.seq
  apply W.reg
  apply omv; rfl; rfl
  apply obn; rfl; rfl; rfl; apply Bin.str_neq
  apply omv; rfl; rfl
  apply OL.op; exact Guard.yes rfl rfl; rfl; rfl; apply Pev.move; rfl; exact yes
  apply OL.op; exact Guard.yes rfl rfl; rfl; rfl; apply Go.Pk.indexE; rfl; exact yes; rfl; exact yes; rfl
  rw [E_no]
  skip
  (((first | (with_reducible apply OL.op) | (with_reducible apply QL.op)); ((first | exact Guard.none | exact Guard.yes rfl rfl | exact Guard.no rfl rfl | exact Guard.cyes rfl rfl | exact Guard.cno rfl rfl)); rfl; rfl); (refine Pev.call (v := .int .i64 2) rfl (by (repeat (first | exact Args.nil | (apply Args.cons rfl; ((first | exact fun _ => rfl | exact fun h => h | (intro h; simp_all; done))))))) (fun _ w2 hw2 => (indexByte_calls _ _ w2).mono (fun e w3 h => ⟨by rw [h.1]; exact rfl, by rw [h.2]; exact hw2⟩))))
  apply OL.op; exact Guard.yes rfl rfl; rfl; rfl; apply Pev.bin; rfl; exact yes; rfl; exact yes; intro hcond; apply Bin.geq
  apply OL.op; exact Guard.none; rfl; rfl; apply Pev.pick_and; rfl; exact yes; rfl; exact yes
  apply OL.nil
  with_reducible apply At.next
  refine W.cond rfl (fun _ => ?_) (fun hb => ?_)
  case refine_2 => simp at hb
  apply W.regd0; decide +kernel; kernel_rfl; decide +kernel; exact fun w hw => hw.drew
  apply qmv; rfl; rfl
  apply QL.op; exact Guard.none; rfl; rfl; apply Go.Pk.indexE; rfl; exact yes; rfl; exact yes; rfl
  apply qmv; rfl; rfl
  apply QL.op; exact Guard.none; rfl; rfl; apply Go.Pk.sliceE; rfl; exact yes; rfl; exact yes; rfl
  apply qas; rfl; rfl
  apply qas; rfl; rfl
  apply QL.nil
  with_reducible apply At.next
  apply W.seq
  apply W.regd0; decide +kernel; kernel_rfl; decide +kernel; exact fun w hw => hw.drew
  apply qmv; rfl; rfl
  apply QL.op; exact Guard.none; rfl; rfl; apply Pev.len_slice; rfl; exact yes; rfl
  apply qbn; rfl; rfl; rfl; apply Bin.gtr
  apply qmv; rfl; rfl
  apply QL.op; exact Guard.yes rfl rfl; rfl; rfl; apply Pev.move; rfl; exact yes
  apply QL.op; exact Guard.yes rfl rfl; rfl; rfl; apply Go.Pk.indexE; rfl; exact fun h => h; rfl; exact yes; rfl
  apply QL.op; exact Guard.yes rfl rfl; rfl; rfl; apply Pev.move; rfl; exact yes
  apply QL.op; exact Guard.yes rfl rfl; rfl; rfl; apply Pev.idx; rfl; exact fun h => h; rfl; exact yes; rfl; rfl; intro hcond; (simp only [Bool.and_eq_true, Bool.or_eq_true, Bool.not_eq_true', decide_eq_true_eq, decide_eq_false_iff_not] at *; omega)
  apply QL.op; exact Guard.yes rfl rfl; rfl; rfl; apply Pev.load_kept; rfl; exact fun h => h; exact .head _; rfl; intro hcond; assumption; intro hcond; assumption; intro hcond; exact NotOwned.nil
  (((first | (with_reducible apply OL.op) | (with_reducible apply QL.op)); ((first | exact Guard.none | exact Guard.yes rfl rfl | exact Guard.no rfl rfl | exact Guard.cyes rfl rfl | exact Guard.cno rfl rfl)); rfl; rfl); (exact Pev.call rfl (by (repeat (first | exact Args.nil | (apply Args.cons rfl; ((first | exact fun _ => rfl | exact fun h => h | (intro h; simp_all; done))))))) (fun _ w2 hw2 => (isOf_calls c x w2 hc).mono (fun e w3 h => ⟨h.1, hw2.ext h.2⟩))))
  apply QL.op; exact Guard.none; rfl; rfl; apply Pev.pick_and; rfl; exact yes; rfl; exact fun h => h
  apply qas; rfl; rfl
  apply QL.nil
  with_reducible apply At.next
  apply W.seq
  apply W.seq
  apply W.reg
  apply omv; rfl; rfl
  apply OL.nil
  with_reducible apply At.next
  apply W.block
  apply W.seq
  apply W.reg
  apply obn; rfl; rfl; rfl; apply Bin.eql
  apply oas; rfl; rfl
  apply OL.nil
  with_reducible apply At.next
  (refine W.cond rfl (fun h0 => ?_) (fun h0 => ?_)) <;> (try (simp only [Bool.and_eq_true, Bool.or_eq_true, Bool.not_eq_true', Bool.and_eq_false_iff, Bool.or_eq_false_iff, Bool.not_eq_false', decide_eq_true_eq, decide_eq_false_iff_not, Int.not_lt, Int.not_le] at h0)) <;> (try (exfalso; first | omega | exact h0 trivial | contradiction))
  apply W.seq
  apply W.reg
  apply obn; rfl; rfl; rfl; apply Bin.eql
  apply oas; rfl; rfl
  apply OL.nil
  with_reducible apply At.next
  (refine W.cond rfl (fun h43 => ?_) (fun h43 => ?_)) <;> (try (simp only [Bool.and_eq_true, Bool.or_eq_true, Bool.not_eq_true', Bool.and_eq_false_iff, Bool.or_eq_false_iff, Bool.not_eq_false', decide_eq_true_eq, decide_eq_false_iff_not, Int.not_lt, Int.not_le] at h43)) <;> (try (exfalso; first | omega | exact h43 trivial | contradiction))
  apply W.seq
  apply W.reg
  apply obn; rfl; rfl; rfl; apply Bin.eql
  apply oas; rfl; rfl
  apply OL.nil
  with_reducible apply At.next
  (refine W.cond rfl (fun h63 => ?_) (fun h63 => ?_)) <;> (try (simp only [Bool.and_eq_true, Bool.or_eq_true, Bool.not_eq_true', Bool.and_eq_false_iff, Bool.or_eq_false_iff, Bool.not_eq_false', decide_eq_true_eq, decide_eq_false_iff_not, Int.not_lt, Int.not_le] at h63)) <;> (try (exfalso; first | omega | exact h63 trivial | contradiction))
  · apply W.seq
    apply W.reg
    apply omv; rfl; rfl
    apply omv; rfl; rfl
    (((first | (with_reducible apply OL.op) | (with_reducible apply QL.op)); ((first | exact Guard.none | exact Guard.yes rfl rfl | exact Guard.no rfl rfl | exact Guard.cyes rfl rfl | exact Guard.cno rfl rfl)); rfl; rfl); (exact Pev.call rfl (by (repeat (first | exact Args.nil | (apply Args.cons rfl; ((first | exact fun _ => rfl | exact fun h => h | (intro h; simp_all; done))))))) (fun _ w2 hw2 => (ih r (x :: l) _ _ w2 (by simp only [List.length_cons, List.length_nil] at hn ⊢; omega) (by simp only [enc, markB, List.length_cons, List.length_append, List.length_nil] at hz ⊢; omega) (hr') (hcap) (hs.ext (hw2.toExt (by (repeat (first | exact List.Mem.head _ | apply List.Mem.tail))) (fun k hk => by (focus ((try simp only [add_block]); (repeat (first | exact NotOwned.nil | exact hno _ (by omega) | refine NotOwned.nothing ?_ | refine NotOwned.nds (hlow _ (by omega)) ?_ | refine NotOwned.mapS (by omega) ?_ | apply NotOwned.bif | refine NotOwned.blk (by omega) ?_ | refine NotOwned.row (by omega) ?_ | refine NotOwned.grid (by assumption) (by omega) ?_)); done)))) (Nat.le_refl _))).mono (fun e w3 h => ⟨h.1, hw2.ext h.2⟩))))
    apply omv; rfl; rfl
    apply OL.op; exact Guard.no rfl rfl; rfl; rfl; apply Pev.move; rfl; exact yes
    apply OL.op; exact Guard.no rfl rfl; rfl; rfl; apply Pev.move; rfl; exact fun h => h
    apply OL.op; exact Guard.cyes rfl rfl; rfl; rfl; apply Pev.move; rfl; exact yes
    apply OL.op; exact Guard.cyes rfl rfl; rfl; rfl; apply Pev.move; rfl; exact yes
    apply OL.op; exact Guard.cyes rfl rfl; rfl; rfl; apply Pev.slice_lo; rfl; exact fun h => h; rfl; exact yes; rfl; rfl; intro hcond; (simp only [Bool.and_eq_true, Bool.or_eq_true, Bool.not_eq_true', decide_eq_true_eq, decide_eq_false_iff_not] at *; omega)
    (((first | (with_reducible apply OL.op) | (with_reducible apply QL.op)); ((first | exact Guard.none | exact Guard.yes rfl rfl | exact Guard.no rfl rfl | exact Guard.cyes rfl rfl | exact Guard.cno rfl rfl)); rfl; rfl); (exact Pev.call rfl (by (repeat (first | exact Args.nil | (apply Args.cons rfl; ((first | exact fun _ => rfl | exact fun h => h | (intro h; simp_all; done))))))) (fun _ w2 hw2 => (ih r l _ _ w2 (by simp only [List.length_cons, List.length_nil] at hn ⊢; omega) (by simp only [enc, markB, List.length_cons, List.length_append, List.length_nil] at hz ⊢; omega) (hr') (by show l.length ≤ cap - 1; simp only [List.length_cons] at hcap; omega) (htl.ext (hw2.toExt (by (repeat (first | exact List.Mem.head _ | apply List.Mem.tail))) (fun k hk => by (focus ((try simp only [add_block]); (repeat (first | exact NotOwned.nil | exact hno _ (by omega) | refine NotOwned.nothing ?_ | refine NotOwned.nds (hlow _ (by omega)) ?_ | refine NotOwned.mapS (by omega) ?_ | apply NotOwned.bif | refine NotOwned.blk (by omega) ?_ | refine NotOwned.row (by omega) ?_ | refine NotOwned.grid (by assumption) (by omega) ?_)); done)))) (Nat.le_refl _))).mono (fun e w3 h => ⟨h.1, hw2.ext h.2⟩))))
    apply OL.op; exact Guard.no rfl rfl; rfl; rfl; apply Pev.pick_and; rfl; exact fun h => h; rfl; exact fun h => h
    apply OL.op; exact Guard.none; rfl; rfl; apply Pev.pick_or; rfl; exact yes; rfl; exact fun h => h
    apply oas; rfl; rfl
    apply OL.nil
    with_reducible apply At.next
    apply W.ret
    with_reducible apply At.in_ret
    with_reducible apply At.then_ret
    ((with_reducible apply At.fin1); rfl; rfl; intro w' hw')
    exact ⟨congrArg (fun b => Ending.returned (Value.bool b)) (by simp [Pk.mt]), by (exact hw'.toExt (by (repeat (first | exact List.Mem.head _ | apply List.Mem.tail))) (fun k hk => by (focus ((try simp only [add_block]); (repeat (first | exact NotOwned.nil | exact hno _ (by omega) | refine NotOwned.nothing ?_ | refine NotOwned.nds (hlow _ (by omega)) ?_ | refine NotOwned.mapS (by omega) ?_ | apply NotOwned.bif | refine NotOwned.blk (by omega) ?_ | refine NotOwned.row (by omega) ?_ | refine NotOwned.grid (by assumption) (by omega) ?_)); done))))⟩
theorem fitsText_all : ∀ n, FitsText n
  | 0, [], [], q, cap, w, _, _, hl, hcap, hs => fitsText_nil [] q cap w
  | 0, [], x :: l, q, cap, w, hn, hz, hl, hcap, hs => fitsText_nil (x :: l) q cap w
  | 0, p :: r, l, q, cap, w, hn, hz, hl, hcap, hs => by simp at hn
  | n + 1, [], l, q, cap, w, hn, hz, hl, hcap, hs => fitsText_nil l q cap w
  | n + 1, [(c, Mk.one)], [], q, cap, w, hn, hz, hl, hcap, hs => fitsText_one0_nil n (fitsText_all n) c q cap w hn hz hl hcap hs
  | n + 1, [(c, Mk.one)], x :: l, q, cap, w, hn, hz, hl, hcap, hs => fitsText_one0_cons n (fitsText_all n) c x l q cap w hn hz hl hcap hs
  | n + 1, (c, Mk.one) :: (d, md) :: r, [], q, cap, w, hn, hz, hl, hcap, hs => fitsText_one1_nil n (fitsText_all n) c d md r q cap w hn hz hl hcap hs
  | n + 1, (c, Mk.one) :: (d, md) :: r, x :: l, q, cap, w, hn, hz, hl, hcap, hs => fitsText_one1_cons n (fitsText_all n) c d md r x l q cap w hn hz hl hcap hs
  | n + 1, (c, Mk.star) :: r, [], q, cap, w, hn, hz, hl, hcap, hs => fitsText_star_nil n (fitsText_all n) c r q cap w hn hz hl hcap hs
  | n + 1, (c, Mk.star) :: r, x :: l, q, cap, w, hn, hz, hl, hcap, hs => fitsText_star_cons n (fitsText_all n) c r x l q cap w hn hz hl hcap hs
  | n + 1, (c, Mk.plus) :: r, [], q, cap, w, hn, hz, hl, hcap, hs => fitsText_plus_nil n (fitsText_all n) c r q cap w hn hz hl hcap hs
  | n + 1, (c, Mk.plus) :: r, x :: l, q, cap, w, hn, hz, hl, hcap, hs => fitsText_plus_cons n (fitsText_all n) c r x l q cap w hn hz hl hcap hs
  | n + 1, (c, Mk.opt) :: r, [], q, cap, w, hn, hz, hl, hcap, hs => fitsText_opt_nil n (fitsText_all n) c r q cap w hn hz hl hcap hs
  | n + 1, (c, Mk.opt) :: r, x :: l, q, cap, w, hn, hz, hl, hcap, hs => fitsText_opt_cons n (fitsText_all n) c r x l q cap w hn hz hl hcap hs
/- end of print -/
end Go.Proofs.Ytlcclcakdfmgkaa.pk
