/- Texts of the proof of UsageSays, part 4: rules of a calculus for walking, plain laws, and walks of the functions that the law reaches. No condition. -/
import Derived.ArgAppend
import Derived.Test.YtlboppiogeaicaaDoorUsageSays3
/- The walks of the reference's inside, kidsOf, goodAlts, goodForm, goodKids. Conditions: none. (Printed by cra.py.) -/
namespace Go.Proofs.YtlboppiogeaicaaDoor.co
open Go.RowKit Go.Eng Go.Co
set_option linter.unusedVariables false
set_option linter.unusedSimpArgs false
set_option maxRecDepth 100000
theorem inside_calls (n lo hi : Int) (w : World) : Calls Tryd.prog 106 [.int .i64 n, .int .i64 lo, .int .i64 hi].toArray w fun e w' => e = .returned (.bool (decide (lo ≤ n) && decide (n ≤ hi))) ∧ Ext w w' := by
  refine enter Tryd.func106 rfl Tryd.ntmps106 rfl (Cls.start w) ?_
  (simp only [argEnv, Nat.zero_add, Nat.reduceAdd])
  apply W.sr
  apply oas; rfl; rfl
  apply OL.nsr
  apply omv; rfl; rfl
  apply omv; rfl; rfl
  apply obn; rfl; rfl; rfl; apply Bin.geq
  apply omv; rfl; rfl
  apply oy; rfl; rfl; rfl; apply Pev.move; rfl; exact yes
  apply oy; rfl; rfl; rfl; apply Pev.move; rfl; exact yes
  apply oy; rfl; rfl; rfl; apply Pev.bin; rfl; exact fun h => h; rfl; exact fun h => h; intro hcond; apply Bin.leq
  apply oop; rfl; apply Pev.pick_and; rfl; exact yes; rfl; exact fun h => h
  apply oas; rfl; rfl
  apply OL.nx
  apply W.ret
  ((with_reducible apply At.fin1); rfl; rfl; intro w' hw')
  exact ⟨by simp, by (exact hw'.fr)⟩
theorem kidsOf_calls (x : Ex) (y : ExY) (w : World) (h : ExOk w (low w) x y) :
    Calls Tryd.prog 104 [.agg (exC x y).toArray].toArray w fun e w' => e = .returned (.tuple #[.int .i64 (kidsR x).1, .bool (kidsR x).2]) ∧ Ext w w' := by
  have hal := h.al
  have hkl := h.kl
  have hbl := h.bl
  refine enter Tryd.func104 rfl Tryd.ntmps104 rfl (Cls.start w) ?_
  (simp only [argEnv, Nat.zero_add, Nat.reduceAdd])
  simp only [exC]
  apply W.sr
  apply OL.box; rfl; rfl; exact CellsL.agg; (intro bk hbk; simp only [AllLe, and_true] at hbk)
  apply oas; rfl; rfl
  apply oas; rfl; rfl
  apply OL.nx
  apply W.seq
  apply W.sr
  apply ofa; rfl; rfl; rfl
  apply old; rfl; rfl; exact .head _; rfl; rfl
  apply OL.nx
  refine W.joinx (G := Unit) (fun _ => kidsR x = (-1, false)) (fun _ => []) (fun _ => Cls [blk bk 28 [.int .i64 x.op, .int .i64 x.n, .slice y.b.1 x.binds.length y.b.2, .slice y.k.1 x.kids.length y.k.2, .slice y.a.1 x.alts.length y.a.2]] [w]) ?_ ?_
  · skip
    apply W.block
    apply W.seq
    apply W.sr
    apply obn; rfl; rfl; rfl; apply Bin.eql
    apply oas; rfl; rfl
    apply OL.nx
    (refine W.cnd (fun k1 => ?_) (fun k1 => ?_)) <;> (try (exfalso; first | omega | exact k1 trivial | contradiction))
    · apply W.sk
      (refine W.cnd (fun kb1 => ?_) (fun kb1 => ?_)) <;> (try (exfalso; first | omega | exact kb1 trivial | contradiction))
      apply W.sr
      apply oas; rfl; rfl
      apply oas; rfl; rfl
      apply OL.nx
      refine W.rt ?_
      ((with_reducible apply At.fin2); rfl; rfl; rfl; intro w' hw')
      have hk : kidsR x = (0, true) := by unfold kidsR; grind
      exact ⟨by rw [hk], by (exact hw'.fr)⟩
    apply W.sr
    apply obn; rfl; rfl; rfl; apply Bin.eql
    apply oas; rfl; rfl
    apply OL.nx
    (refine W.cnd (fun k2 => ?_) (fun k2 => ?_)) <;> (try (exfalso; first | omega | exact k2 trivial | contradiction))
    · apply W.sk
      (refine W.cnd (fun kb2 => ?_) (fun kb2 => ?_)) <;> (try (exfalso; first | omega | exact kb2 trivial | contradiction))
      apply W.sr
      apply oas; rfl; rfl
      apply oas; rfl; rfl
      apply OL.nx
      refine W.rt ?_
      ((with_reducible apply At.fin2); rfl; rfl; rfl; intro w' hw')
      have hk : kidsR x = (0, true) := by unfold kidsR; grind
      exact ⟨by rw [hk], by (exact hw'.fr)⟩
    apply W.reg
    apply obn; rfl; rfl; rfl; apply Bin.eql
    apply oas; rfl; rfl
    apply OL.nx
    (refine W.cnd (fun k3 => ?_) (fun k3 => ?_)) <;> (try (exfalso; first | omega | exact k3 trivial | contradiction))
    · apply W.sr
      apply oas; rfl; rfl
      apply oas; rfl; rfl
      apply OL.nx
      refine W.rt ?_
      ((with_reducible apply At.fin2); rfl; rfl; rfl; intro w' hw')
      have hk : kidsR x = (0, true) := by unfold kidsR; grind
      exact ⟨by rw [hk], by (exact hw'.fr)⟩
    apply W.sr
    apply obn; rfl; rfl; rfl; apply Bin.eql
    apply oas; rfl; rfl
    apply OL.nx
    (refine W.cnd (fun k4 => ?_) (fun k4 => ?_)) <;> (try (exfalso; first | omega | exact k4 trivial | contradiction))
    · apply W.sr
      apply oas; rfl; rfl
      apply oas; rfl; rfl
      apply OL.nx
      refine W.rt ?_
      ((with_reducible apply At.fin2); rfl; rfl; rfl; intro w' hw')
      have hk : kidsR x = (1, false) := by unfold kidsR; grind
      exact ⟨by rw [hk], by (exact hw'.fr)⟩
    apply W.sr
    apply obn; rfl; rfl; rfl; apply Bin.eql
    apply oas; rfl; rfl
    apply OL.nx
    (refine W.cnd (fun k5 => ?_) (fun k5 => ?_)) <;> (try (exfalso; first | omega | exact k5 trivial | contradiction))
    · apply W.sr
      apply oas; rfl; rfl
      apply oas; rfl; rfl
      apply OL.nx
      refine W.rt ?_
      ((with_reducible apply At.fin2); rfl; rfl; rfl; intro w' hw')
      have hk : kidsR x = (2, false) := by unfold kidsR; grind
      exact ⟨by rw [hk], by (exact hw'.fr)⟩
    apply W.sr
    apply obn; rfl; rfl; rfl; apply Bin.eql
    apply oas; rfl; rfl
    apply OL.nx
    (refine W.cnd (fun k6 => ?_) (fun k6 => ?_)) <;> (try (exfalso; first | omega | exact k6 trivial | contradiction))
    · apply W.sr
      apply ofa; rfl; rfl; rfl
      apply old; rfl; rfl; exact .head _; rfl; rfl
      apply oop; rfl; apply Pev.len_slice; rfl; exact yes; rfl
      apply oop; rfl; apply Pev.max2; rfl; exact yes; rfl; exact yes
      apply oas; rfl; rfl
      apply oas; rfl; rfl
      apply OL.nx
      refine W.rt ?_
      have em : (if (1 : Int) < (x.kids.length : Int) then (x.kids.length : Int) else 1) = ((max x.kids.length 1 : Nat) : Int) := by rw [Nat.max_def]; split <;> split <;> omega
      have em2 : (if (x.kids.length : Int) < (1 : Int) then (1 : Int) else (x.kids.length : Int)) = ((max x.kids.length 1 : Nat) : Int) := by rw [Nat.max_def]; split <;> split <;> omega
      first | rw [em] | rw [em2]
      skip
      ((with_reducible apply At.fin2); rfl; rfl; rfl; intro w' hw')
      have hk : kidsR x = (((max x.kids.length 1 : Nat) : Int), false) := by unfold kidsR; grind
      exact ⟨by rw [hk], by (exact hw'.fr)⟩
    apply W.sr
    apply obn; rfl; rfl; rfl; apply Bin.eql
    apply oas; rfl; rfl
    apply OL.nx
    (refine W.cnd (fun k7 => ?_) (fun k7 => ?_)) <;> (try (exfalso; first | omega | exact k7 trivial | contradiction))
    · apply W.sr
      apply ofa; rfl; rfl; rfl
      apply old; rfl; rfl; exact .head _; rfl; rfl
      apply oop; rfl; apply Pev.len_slice; rfl; exact yes; rfl
      apply obn; rfl; rfl; rfl; apply Bin.add_in; omega
      apply oas; rfl; rfl
      apply oas; rfl; rfl
      apply OL.nx
      refine W.rt ?_
      ((with_reducible apply At.fin2); rfl; rfl; rfl; intro w' hw')
      have hk : kidsR x = ((x.binds.length : Int) + 1, false) := by unfold kidsR; grind
      exact ⟨by rw [hk], by (exact hw'.fr)⟩
    apply W.seq
    apply W.sr
    apply obn; rfl; rfl; rfl; apply Bin.eql
    apply oas; rfl; rfl
    apply OL.nx
    (refine W.cnd (fun k8 => ?_) (fun k8 => ?_)) <;> (try (exfalso; first | omega | exact k8 trivial | contradiction))
    · apply W.sk
      (refine W.cnd (fun kb8 => ?_) (fun kb8 => ?_)) <;> (try (exfalso; first | omega | exact kb8 trivial | contradiction))
      apply W.sr
      apply ofa; rfl; rfl; rfl
      apply old; rfl; rfl; exact .head _; rfl; rfl
      apply oop; rfl; apply Pev.len_slice; rfl; exact yes; rfl
      apply obn; rfl; rfl; rfl; apply Bin.add_in; omega
      apply oas; rfl; rfl
      apply oas; rfl; rfl
      apply OL.nx
      refine W.rt ?_
      ((with_reducible apply At.fin2); rfl; rfl; rfl; intro w' hw')
      have hk : kidsR x = ((x.alts.length : Int) + 1, false) := by unfold kidsR; grind
      exact ⟨by rw [hk], by (exact hw'.fr)⟩
    apply W.reg
    apply obn; rfl; rfl; rfl; apply Bin.eql
    apply oas; rfl; rfl
    apply OL.nx
    (refine W.cnd (fun k9 => ?_) (fun k9 => ?_)) <;> (try (exfalso; first | omega | exact k9 trivial | contradiction))
    · apply W.sr
      apply ofa; rfl; rfl; rfl
      apply old; rfl; rfl; exact .head _; rfl; rfl
      apply oop; rfl; apply Pev.len_slice; rfl; exact yes; rfl
      apply obn; rfl; rfl; rfl; apply Bin.add_in; omega
      apply oas; rfl; rfl
      apply oas; rfl; rfl
      apply OL.nx
      refine W.rt ?_
      ((with_reducible apply At.fin2); rfl; rfl; rfl; intro w' hw')
      have hk : kidsR x = ((x.alts.length : Int) + 1, false) := by unfold kidsR; grind
      exact ⟨by rw [hk], by (exact hw'.fr)⟩
    apply W.sr
    apply obn; rfl; rfl; rfl; apply Bin.eql
    apply oas; rfl; rfl
    apply OL.nx
    (refine W.cnd (fun k10 => ?_) (fun k10 => ?_)) <;> (try (exfalso; first | omega | exact k10 trivial | contradiction))
    · apply W.sr
      apply ofa; rfl; rfl; rfl
      apply old; rfl; rfl; exact .head _; rfl; rfl
      apply oop; rfl; apply Pev.len_slice; rfl; exact yes; rfl
      apply oas; rfl; rfl
      apply oas; rfl; rfl
      apply OL.nx
      refine W.rt ?_
      ((with_reducible apply At.fin2); rfl; rfl; rfl; intro w' hw')
      have hk : kidsR x = ((x.binds.length : Int), false) := by unfold kidsR; grind
      exact ⟨by rw [hk], by (exact hw'.fr)⟩
    apply W.seq
    apply W.sr
    apply obn; rfl; rfl; rfl; apply Bin.eql
    apply oas; rfl; rfl
    apply OL.nx
    (refine W.cnd (fun k11 => ?_) (fun k11 => ?_)) <;> (try (exfalso; first | omega | exact k11 trivial | contradiction))
    · apply W.sk
      (refine W.cnd (fun kb11 => ?_) (fun kb11 => ?_)) <;> (try (exfalso; first | omega | exact kb11 trivial | contradiction))
      apply W.sr
      apply oas; rfl; rfl
      apply oas; rfl; rfl
      apply OL.nx
      refine W.rt ?_
      ((with_reducible apply At.fin2); rfl; rfl; rfl; intro w' hw')
      have hk : kidsR x = (1, true) := by unfold kidsR; grind
      exact ⟨by rw [hk], by (exact hw'.fr)⟩
    apply W.sr
    apply obn; rfl; rfl; rfl; apply Bin.eql
    apply oas; rfl; rfl
    apply OL.nx
    (refine W.cnd (fun k12 => ?_) (fun k12 => ?_)) <;> (try (exfalso; first | omega | exact k12 trivial | contradiction))
    · apply W.sk
      (refine W.cnd (fun kb12 => ?_) (fun kb12 => ?_)) <;> (try (exfalso; first | omega | exact kb12 trivial | contradiction))
      apply W.sr
      apply oas; rfl; rfl
      apply oas; rfl; rfl
      apply OL.nx
      refine W.rt ?_
      ((with_reducible apply At.fin2); rfl; rfl; rfl; intro w' hw')
      have hk : kidsR x = (1, true) := by unfold kidsR; grind
      exact ⟨by rw [hk], by (exact hw'.fr)⟩
    apply W.reg
    apply obn; rfl; rfl; rfl; apply Bin.eql
    apply oas; rfl; rfl
    apply OL.nx
    (refine W.cnd (fun k13 => ?_) (fun k13 => ?_)) <;> (try (exfalso; first | omega | exact k13 trivial | contradiction))
    · apply W.sr
      apply oas; rfl; rfl
      apply oas; rfl; rfl
      apply OL.nx
      refine W.rt ?_
      ((with_reducible apply At.fin2); rfl; rfl; rfl; intro w' hw')
      have hk : kidsR x = (1, true) := by unfold kidsR; grind
      exact ⟨by rw [hk], by (exact hw'.fr)⟩
    apply W.sr
    apply obn; rfl; rfl; rfl; apply Bin.eql
    apply oas; rfl; rfl
    apply OL.nx
    (refine W.cnd (fun k14 => ?_) (fun k14 => ?_)) <;> (try (exfalso; first | omega | exact k14 trivial | contradiction))
    · apply W.sr
      apply oas; rfl; rfl
      apply oas; rfl; rfl
      apply OL.nx
      refine W.rt ?_
      ((with_reducible apply At.fin2); rfl; rfl; rfl; intro w' hw')
      have hk : kidsR x = (2, true) := by unfold kidsR; grind
      exact ⟨by rw [hk], by (exact hw'.fr)⟩
    apply W.seq
    apply W.sr
    apply obn; rfl; rfl; rfl; apply Bin.eql
    apply oas; rfl; rfl
    apply OL.nx
    (refine W.cnd (fun k15 => ?_) (fun k15 => ?_)) <;> (try (exfalso; first | omega | exact k15 trivial | contradiction))
    · apply W.sk
      (refine W.cnd (fun kb15 => ?_) (fun kb15 => ?_)) <;> (try (exfalso; first | omega | exact kb15 trivial | contradiction))
      apply W.sr
      apply ofa; rfl; rfl; rfl
      apply old; rfl; rfl; exact .head _; rfl; rfl
      apply oop; rfl; apply Pev.len_slice; rfl; exact yes; rfl
      apply oas; rfl; rfl
      apply oas; rfl; rfl
      apply OL.nx
      refine W.rt ?_
      ((with_reducible apply At.fin2); rfl; rfl; rfl; intro w' hw')
      have hk : kidsR x = ((x.kids.length : Int), true) := by unfold kidsR; grind
      exact ⟨by rw [hk], by (exact hw'.fr)⟩
    apply W.sr
    apply obn; rfl; rfl; rfl; apply Bin.eql
    apply oas; rfl; rfl
    apply OL.nx
    (refine W.cnd (fun k16 => ?_) (fun k16 => ?_)) <;> (try (exfalso; first | omega | exact k16 trivial | contradiction))
    · apply W.sk
      (refine W.cnd (fun kb16 => ?_) (fun kb16 => ?_)) <;> (try (exfalso; first | omega | exact kb16 trivial | contradiction))
      apply W.sr
      apply ofa; rfl; rfl; rfl
      apply old; rfl; rfl; exact .head _; rfl; rfl
      apply oop; rfl; apply Pev.len_slice; rfl; exact yes; rfl
      apply oas; rfl; rfl
      apply oas; rfl; rfl
      apply OL.nx
      refine W.rt ?_
      ((with_reducible apply At.fin2); rfl; rfl; rfl; intro w' hw')
      have hk : kidsR x = ((x.kids.length : Int), true) := by unfold kidsR; grind
      exact ⟨by rw [hk], by (exact hw'.fr)⟩
    apply W.reg
    apply obn; rfl; rfl; rfl; apply Bin.eql
    apply oas; rfl; rfl
    apply OL.nx
    (refine W.cnd (fun k17 => ?_) (fun k17 => ?_)) <;> (try (exfalso; first | omega | exact k17 trivial | contradiction))
    · apply W.sr
      apply ofa; rfl; rfl; rfl
      apply old; rfl; rfl; exact .head _; rfl; rfl
      apply oop; rfl; apply Pev.len_slice; rfl; exact yes; rfl
      apply oas; rfl; rfl
      apply oas; rfl; rfl
      apply OL.nx
      refine W.rt ?_
      ((with_reducible apply At.fin2); rfl; rfl; rfl; intro w' hw')
      have hk : kidsR x = ((x.kids.length : Int), true) := by unfold kidsR; grind
      exact ⟨by rw [hk], by (exact hw'.fr)⟩
    apply W.sr
    apply obn; rfl; rfl; rfl; apply Bin.eql
    apply oas; rfl; rfl
    apply OL.nx
    (refine W.cnd (fun k18 => ?_) (fun k18 => ?_)) <;> (try (exfalso; first | omega | exact k18 trivial | contradiction))
    · apply W.seq
      apply W.sr
      apply ofa; rfl; rfl; rfl
      apply old; rfl; rfl; exact .head _; rfl; rfl
      apply obn; rfl; rfl; rfl; apply Bin.eql
      apply omv; rfl; rfl
      apply ono; rfl; rfl; rfl; apply Pev.fld; rfl; exact yes; rfl
      apply ono; rfl; rfl; rfl; apply Pev.load_blk; rfl; exact fun h => h; exact .head _; rfl; rfl
      apply ono; rfl; rfl; rfl; apply Pev.bin; rfl; exact fun h => h; rfl; exact yes; intro hcond; apply Bin.eql
      apply oop; rfl; apply Pev.pick_or; rfl; exact yes; rfl; exact fun h => h
      apply OL.nx
      (refine W.cnd (fun p1 => ?_) (fun p1 => ?_)) <;> (try (exfalso; first | omega | exact p1 trivial | contradiction))
      · apply W.sr
        apply oas; rfl; rfl
        apply oas; rfl; rfl
        apply OL.nx
        refine W.rt ?_
        ((with_reducible apply At.fin2); rfl; rfl; rfl; intro w' hw')
        have hk : kidsR x = (1, true) := by unfold kidsR; grind
        exact ⟨by rw [hk], by (exact hw'.fr)⟩
      apply W.sk
      apply W.seq
      apply W.sr
      apply ofa; rfl; rfl; rfl
      apply old; rfl; rfl; exact .head _; rfl; rfl
      apply obn; rfl; rfl; rfl; apply Bin.eql
      apply OL.nx
      (refine W.cnd (fun p2 => ?_) (fun p2 => ?_)) <;> (try (exfalso; first | omega | exact p2 trivial | contradiction))
      · apply W.sr
        apply oas; rfl; rfl
        apply oas; rfl; rfl
        apply OL.nx
        refine W.rt ?_
        ((with_reducible apply At.fin2); rfl; rfl; rfl; intro w' hw')
        have hk : kidsR x = (3, true) := by unfold kidsR; grind
        exact ⟨by rw [hk], by (exact hw'.fr)⟩
      apply W.sk
      apply W.sr
      apply ofa; rfl; rfl; rfl
      apply old; rfl; rfl; exact .head _; rfl; rfl
      apply obn; rfl; rfl; rfl; apply Bin.geq
      apply omv; rfl; rfl
      apply oy; rfl; rfl; rfl; apply Pev.fld; rfl; exact yes; rfl
      apply oy; rfl; rfl; rfl; apply Pev.load_blk; rfl; exact fun h => h; exact .head _; rfl; rfl
      apply oy; rfl; rfl; rfl; apply Pev.bin; rfl; exact fun h => h; rfl; exact yes; intro hcond; apply Bin.lss
      apply oop; rfl; apply Pev.pick_and; rfl; exact yes; rfl; exact fun h => h
      apply OL.nx
      (refine W.cnd (fun p3 => ?_) (fun p3 => ?_)) <;> (try (exfalso; first | omega | exact p3 trivial | contradiction))
      · apply W.sr
        apply oas; rfl; rfl
        apply oas; rfl; rfl
        apply OL.nx
        refine W.rt ?_
        ((with_reducible apply At.fin2); rfl; rfl; rfl; intro w' hw')
        have hk : kidsR x = (2, true) := by unfold kidsR; grind
        exact ⟨by rw [hk], by (exact hw'.fr)⟩
      apply W.skip
      with_reducible apply At.in_normal
      exact At.joinedx () (by unfold kidsR; grind) (by exact Sub.au) (fun w' hw' => hw')
    apply W.skip
    with_reducible apply At.in_normal
    exact At.joinedx () (by unfold kidsR; grind) (by exact Sub.au) (fun w' hw' => hw')
  · rintro - hk
    apply W.sr
    apply oas; rfl; rfl
    apply oas; rfl; rfl
    apply OL.nx
    apply W.ret
    ((with_reducible apply At.fin2); rfl; rfl; rfl; intro w' hw')
    exact ⟨by rw [hk], by (exact hw'.fr)⟩
theorem any_take_succ {l : List Al} {k : Nat} {a : Al} {f : Al → Bool} (h : l[k]? = some a) : (l.take (k + 1)).any f = ((l.take k).any f || f a) := by
  rw [List.take_add_one, h]
  simp
theorem any_take_true {l : List Al} {i k : Nat} {a : Al} {f : Al → Bool} (h : l[k]? = some a) (hk : k < i) (hf : f a = true) : (l.take i).any f = true := by
  rw [List.any_eq_true]
  exact ⟨a, List.mem_of_getElem? (i := k) (by rw [List.getElem?_take_of_lt hk]; exact h), hf⟩
theorem goodAlts_calls (x : Ex) (y : ExY) (w : World) (h : ExOk w (low w) x y) :
    Calls Tryd.prog 105 [.agg (exC x y).toArray].toArray w fun e w' => e = .returned (.bool (altsR x)) ∧ Ext w w' := by
  obtain ⟨ps, hps, harr⟩ := h.alts
  have hpl : x.alts.length = ps.length := by rw [← hps, List.length_map]
  have hal := h.al
  have hac := h.ac
  refine enter Tryd.func105 rfl Tryd.ntmps105 rfl (Cls.start w) ?_
  (simp only [argEnv, Nat.zero_add, Nat.reduceAdd])
  simp only [exC]
  apply W.sr
  apply OL.box; rfl; rfl; exact CellsL.agg; (intro bk hbk; simp only [AllLe, and_true] at hbk)
  apply oas; rfl; rfl
  apply OL.nx
  apply W.seq
  apply W.sr
  apply ofa; rfl; rfl; rfl
  apply old; rfl; rfl; exact .head _; rfl; rfl
  apply obn; rfl; rfl; rfl; apply Bin.neq
  apply omv; rfl; rfl
  apply oy; rfl; rfl; rfl; apply Pev.fld; rfl; exact yes; rfl
  apply oy; rfl; rfl; rfl; apply Pev.load_blk; rfl; exact fun h => h; exact .head _; rfl; rfl
  apply oy; rfl; rfl; rfl; apply Pev.bin; rfl; exact fun h => h; rfl; exact yes; intro hcond; apply Bin.neq
  apply oop; rfl; apply Pev.pick_and; rfl; exact yes; rfl; exact fun h => h
  apply OL.nx
  revert bk
  intro bx hbx
  (refine W.cnd (fun hop => ?_) (fun hop => ?_)) <;> (try (exfalso; first | omega | exact hop trivial | contradiction))
  · apply W.sr
    apply ofa; rfl; rfl; rfl
    apply old; rfl; rfl; exact .head _; rfl; rfl
    apply oop; rfl; apply Pev.len_slice; rfl; exact yes; rfl
    apply obn; rfl; rfl; rfl; apply Bin.eql
    apply oas; rfl; rfl
    apply OL.nx
    refine W.rt ?_
    ((with_reducible apply At.fin1); rfl; rfl; intro w' hw')
    refine ⟨congrArg (fun b => Ending.returned (Value.bool b)) ?_, by (exact hw'.fr)⟩
    unfold altsR
    rw [if_pos (by simpa using hop)]
    simp
  have hop' : x.op = 7 ∨ x.op = 13 := by omega
  have hR : altsR x = (altsR1 x && (decide (x.op = 7) || decide (0 < x.alts.length))) := by
    unfold altsR
    rw [if_neg (by omega)]
  apply W.sk
  apply W.seq
  apply W.sr
  apply ofa; rfl; rfl; rfl
  apply old; rfl; rfl; exact .head _; rfl; rfl
  apply oop; rfl; apply Pev.len_slice; rfl; exact yes; rfl
  apply omv; rfl; rfl
  apply OL.nx
  apply W.block
  rw [hpl]
  refine W.loop (G := Nat) (fun i => i ≤ ps.length ∧ ∀ j, j < i → altR1 x j (x.alts.getD j ⟨0, []⟩) = true) (fun i => ps.length - i)
    (fun i => [(1, true, .pointer (some ⟨bx, 0, none⟩)), (19, true, .slice y.a.1 ps.length y.a.2), (20, true, .int .i64 (ps.length : Int)), (21, true, .int .i64 (i : Int))])
    (fun i => Cls [blk bx 28 [.int .i64 x.op, .int .i64 x.n, .slice y.b.1 x.binds.length y.b.2, .slice y.k.1 x.kids.length y.k.2, .slice y.a.1 ps.length y.a.2]] [w]) 0 ⟨by omega, fun j hj => by omega⟩ (by exact Sub.au) (fun w' hw' => by first | exact hw' | (rw [hpl] at hw'; exact hw')) ?_
  rintro i ⟨hi, hall⟩
  apply W.sr
  apply obn; rfl; rfl; rfl; apply Bin.lss
  apply OL.nx
  apply W.seq
  (refine W.cnd (fun hlt => ?_) (fun hlt => ?_)) <;> (try (exfalso; first | omega | exact hlt trivial | contradiction))
  · have hil : i < ps.length := by omega
    obtain ⟨a, u, hq, hab, hu, hcell, hok⟩ := harr.get hil
    have hab : a.block < w.heap.size := hab
    have hcell : CellsAt w (a.add (i * 2)) [.int .i64 u.1.tag, .slice u.2.1 u.1.binds.length u.2.2] := hcell
    have hu1 : x.alts[i]? = some u.1 := by rw [← hps, List.getElem?_map, hu]; rfl
    have hu2 : x.alts.getD i ⟨0, []⟩ = u.1 := by simp [List.getD, hu1]
    have hbl := hok.2.1
    have hbad : altR1 x i u.1 = false → altsR x = false := fun hf => by
      rw [hR]
      unfold altsR1
      rw [not_all_range (i := i) (by omega) (by rw [hu2]; exact hf)]
      rfl
    have hoki : altR1 x i u.1 = (!((x.alts.take i).any fun b => decide (b.tag = u.1.tag)) && !decide (u.1.tag < -1) && !(decide (x.op = 7) && decide (u.1.tag = -1) && (decide (i + 1 < x.alts.length) || !decide (u.1.binds.length = 0)))
      && !(decide (x.op = 13) && (decide (i = 0) && (!decide (u.1.tag = -1) || !decide (u.1.binds.length = 1)) || decide (0 < i) && (decide (u.1.tag < 0) || !decide (u.1.binds.length = 2))))) := rfl
    rw [hq]
    apply W.sk
    apply W.sb
    apply W.sr
    apply omv; rfl; rfl
    apply oop; rfl; apply Pev.idx; rfl; exact yes; rfl; exact yes; rfl; rfl; intro hcond; omega
    apply oop; rfl; apply Pev.load_keptA; rfl; exact yes; exact .head _; rfl; intro hcond; assumption; rfl; intro hcond; (rw [add_block]; assumption); intro hcond; exact NotOwned.au
    apply OL.alloc; rfl; rfl; exact CellsL.agg; (intro bk hbk; simp only [AllLe, and_true] at hbk)
    apply oas; rfl; rfl
    apply OL.storeB; rfl; rfl; exact CellsL.agg; rfl; rfl; rfl; exact Swap.au; exact Put.au
    apply OL.nx
    apply W.seq
    apply W.sr
    apply omv; rfl; rfl
    apply omv; rfl; rfl
    apply OL.nx
    apply W.block
    revert bk
    intro ba hba
    refine W.loop (G := Nat) (fun k => k ≤ i ∧ (x.alts.take k).any (fun b => decide (b.tag = u.1.tag)) = false) (fun k => i - k)
      (fun k => [(1, true, .pointer (some ⟨bx, 0, none⟩)), (3, true, .int .i64 (i : Int)), (4, true, .pointer (some ⟨ba, 0, none⟩)), (19, true, .slice (some a) ps.length y.a.2), (20, true, .int .i64 (ps.length : Int)), (21, true, .int .i64 (i : Int)), (26, true, .int .i64 (i : Int)), (27, true, .int .i64 (k : Int))])
      (fun k => Cls [blk ba 132 [.int .i64 u.1.tag, .slice u.2.1 u.1.binds.length u.2.2], blk bx 28 [.int .i64 x.op, .int .i64 x.n, .slice y.b.1 x.binds.length y.b.2, .slice y.k.1 x.kids.length y.k.2, .slice (some a) ps.length y.a.2]] [w]) 0 ⟨by omega, rfl⟩ (by exact Sub.au) (fun w' hw' => by first | exact hw' | (rw [hq] at hw'; exact hw')) ?_
    rintro k ⟨hk, hany⟩
    apply W.sr
    apply obn; rfl; rfl; rfl; apply Bin.lss
    apply OL.nx
    apply W.seq
    (refine W.cnd (fun hlt2 => ?_) (fun hlt2 => ?_)) <;> (try (exfalso; first | omega | exact hlt2 trivial | contradiction))
    · have hki : k < i := by omega
      obtain ⟨a2, v, hq2, hab2, hv, hcell2, hok2⟩ := harr.get (i := k) (by omega)
      have hab2 : a2.block < w.heap.size := hab2
      obtain rfl : a = a2 := by rw [hq] at hq2; exact Option.some.inj hq2
      have hcell2 : CellsAt w (a.add (k * 2)) [.int .i64 v.1.tag, .slice v.2.1 v.1.binds.length v.2.2] := hcell2
      have hv1 : x.alts[k]? = some v.1 := by rw [← hps, List.getElem?_map, hv]; rfl
      apply W.sk
      apply W.sb
      apply W.sr
      apply omv; rfl; rfl
      apply oas; rfl; rfl
      apply OL.nx
      apply W.seq
      apply W.regd0; decide +kernel; kernel_rfl; decide +kernel; exact fun w hw => hw.drew
      apply qfa; rfl; rfl; rfl
      apply qld; rfl; rfl; exact .tail _ (.head _); rfl; rfl
      apply qmv; rfl; rfl
      apply qop; rfl; apply Pev.idx; rfl; exact yes; rfl; exact yes; rfl; rfl; intro hcond; omega
      apply qop; rfl; apply Pev.fldA; rfl; exact yes; rfl
      apply qop; rfl; apply Pev.load_kept; rfl; exact yes; exact .head _; rfl; intro hcond; apply CellsAt.at_ (by assumption) rfl; intro hcond; (simp only [add_block]; assumption); intro hcond; exact NotOwned.au
      apply qfa; rfl; rfl; rfl
      apply qld; rfl; rfl; exact .head _; rfl; rfl
      apply qbn; rfl; rfl; rfl; apply Bin.eql
      apply QL.nil
      with_reducible apply At.next
      (refine W.cnd (fun heq => ?_) (fun heq => ?_)) <;> (try (exfalso; first | omega | exact heq trivial | contradiction))
      · apply W.sr
        apply oas; rfl; rfl
        apply OL.nx
        refine W.rt ?_
        ((with_reducible apply At.fin1); rfl; rfl; intro w' hw')
        refine ⟨by rw [hbad (by rw [hoki, any_take_true hv1 hki (by simpa using heq)]; rfl)], by (exact hw'.fr)⟩
      apply W.skip
      with_reducible apply At.in_normal
      with_reducible apply At.next
      apply W.reg
      apply obn; rfl; rfl; rfl; apply Bin.add_in; omega
      apply omv; rfl; rfl
      apply OL.nil
      refine At.again (k + 1) ⟨by omega, ?_⟩ (by omega) (by exact Sub.au) (fun w' hw' => hw')
      rw [any_take_succ hv1, hany]
      simpa using heq
    obtain rfl : k = i := by omega
    rw [hany] at hoki
    rw [hpl] at hoki
    clear hlt2 hk
    refine W.xt ?_
    with_reducible apply At.next
    apply W.seq
    apply W.sr
    apply ofa; rfl; rfl; rfl
    apply old; rfl; rfl; exact .head _; rfl; rfl
    apply obn; rfl; rfl; rfl; apply Bin.lss
    apply OL.nx
    refine W.cond rfl (fun hb => ?_) (fun hb => ?_)
    · apply W.sr
      apply oas; rfl; rfl
      apply OL.nx
      refine W.rt ?_
      ((with_reducible apply At.fin1); rfl; rfl; intro w' hw')
      refine ⟨by rw [hbad (by rw [hoki]; grind)], by (exact hw'.fr)⟩
    apply W.sk
    apply W.seq
    apply W.sr
    apply ofa; rfl; rfl; rfl
    apply old; rfl; rfl; exact .tail _ (.head _); rfl; rfl
    apply obn; rfl; rfl; rfl; apply Bin.eql
    apply omv; rfl; rfl
    apply oy; rfl; rfl; rfl; apply Pev.fld; rfl; exact yes; rfl
    apply oy; rfl; rfl; rfl; apply Pev.load_blk; rfl; exact fun h => h; exact .head _; rfl; rfl
    apply oy; rfl; rfl; rfl; apply Pev.bin; rfl; exact fun h => h; rfl; exact yes; intro hcond; apply Bin.eql
    apply oop; rfl; apply Pev.pick_and; rfl; exact yes; rfl; exact fun h => h
    apply omv; rfl; rfl
    apply oy; rfl; rfl; rfl; apply Pev.move; rfl; exact yes
    apply oy; rfl; rfl; rfl; apply Pev.bin; rfl; exact fun h => h; rfl; exact yes; intro hcond; apply Bin.add_in; omega
    apply oy; rfl; rfl; rfl; apply Pev.fld; rfl; exact yes; rfl
    apply oy; rfl; rfl; rfl; apply Pev.load_blk; rfl; exact fun h => h; exact .tail _ (.head _); rfl; rfl
    apply oy; rfl; rfl; rfl; apply Pev.len_slice; rfl; exact fun h => h; rfl
    apply oy; rfl; rfl; rfl; apply Pev.bin; rfl; exact fun h => h; rfl; exact fun h => h; intro hcond; apply Bin.lss
    apply oy; rfl; rfl; rfl; apply Pev.move; rfl; exact fun h => h
    apply OL.op; exact Guard.cno rfl rfl; rfl; rfl; apply Pev.fld; rfl; exact yes; rfl
    apply OL.op; exact Guard.cno rfl rfl; rfl; rfl; apply Pev.load_blk; rfl; exact fun h => h; exact .head _; rfl; rfl
    apply OL.op; exact Guard.cno rfl rfl; rfl; rfl; apply Pev.len_slice; rfl; exact fun h => h; rfl
    apply OL.op; exact Guard.cno rfl rfl; rfl; rfl; apply Pev.bin; rfl; exact fun h => h; rfl; exact yes; intro hcond; apply Bin.neq
    apply oy; rfl; rfl; rfl; apply Pev.pick_or; rfl; exact fun h => h; rfl; exact fun h => h
    apply oop; rfl; apply Pev.pick_and; rfl; exact yes; rfl; exact fun h => h
    apply OL.nx
    refine W.cond rfl (fun hb2 => ?_) (fun hb2 => ?_)
    · apply W.sr
      apply oas; rfl; rfl
      apply OL.nx
      refine W.rt ?_
      ((with_reducible apply At.fin1); rfl; rfl; intro w' hw')
      refine ⟨by rw [hbad (by rw [hoki]; grind)], by (exact hw'.fr)⟩
    apply W.sk
    apply W.sr
    apply ofa; rfl; rfl; rfl
    apply old; rfl; rfl; exact .tail _ (.head _); rfl; rfl
    apply obn; rfl; rfl; rfl; apply Bin.eql
    apply omv; rfl; rfl
    apply oy; rfl; rfl; rfl; apply Pev.move; rfl; exact yes
    apply oy; rfl; rfl; rfl; apply Pev.bin; rfl; exact fun h => h; rfl; exact yes; intro hcond; apply Bin.eql
    apply oy; rfl; rfl; rfl; apply Pev.move; rfl; exact fun h => h
    apply OL.op; exact Guard.cyes rfl rfl; rfl; rfl; apply Pev.fld; rfl; exact yes; rfl
    apply OL.op; exact Guard.cyes rfl rfl; rfl; rfl; apply Pev.load_blk; rfl; exact fun h => h; exact .head _; rfl; rfl
    apply OL.op; exact Guard.cyes rfl rfl; rfl; rfl; apply Pev.bin; rfl; exact fun h => h; rfl; exact yes; intro hcond; apply Bin.neq
    apply OL.op; exact Guard.cyes rfl rfl; rfl; rfl; apply Pev.move; rfl; exact fun h => h
    apply OL.op; exact Guard.cno rfl rfl; rfl; rfl; apply Pev.fld; rfl; exact yes; rfl
    apply OL.op; exact Guard.cno rfl rfl; rfl; rfl; apply Pev.load_blk; rfl; exact fun h => h; exact .head _; rfl; rfl
    apply OL.op; exact Guard.cno rfl rfl; rfl; rfl; apply Pev.len_slice; rfl; exact fun h => h; rfl
    apply OL.op; exact Guard.cno rfl rfl; rfl; rfl; apply Pev.bin; rfl; exact fun h => h; rfl; exact yes; intro hcond; apply Bin.neq
    apply OL.op; exact Guard.cyes rfl rfl; rfl; rfl; apply Pev.pick_or; rfl; exact fun h => h; rfl; exact fun h => h
    apply oy; rfl; rfl; rfl; apply Pev.pick_and; rfl; exact fun h => h; rfl; exact fun h => h
    apply oy; rfl; rfl; rfl; apply Pev.move; rfl; exact fun h => h
    apply OL.op; exact Guard.cno rfl rfl; rfl; rfl; apply Pev.move; rfl; exact yes
    apply OL.op; exact Guard.cno rfl rfl; rfl; rfl; apply Pev.bin; rfl; exact fun h => h; rfl; exact yes; intro hcond; apply Bin.gtr
    apply OL.op; exact Guard.cno rfl rfl; rfl; rfl; apply Pev.move; rfl; exact fun h => h
    apply OL.op; exact Guard.cyes rfl rfl; rfl; rfl; apply Pev.fld; rfl; exact yes; rfl
    apply OL.op; exact Guard.cyes rfl rfl; rfl; rfl; apply Pev.load_blk; rfl; exact fun h => h; exact .head _; rfl; rfl
    apply OL.op; exact Guard.cyes rfl rfl; rfl; rfl; apply Pev.bin; rfl; exact fun h => h; rfl; exact yes; intro hcond; apply Bin.lss
    apply OL.op; exact Guard.cyes rfl rfl; rfl; rfl; apply Pev.move; rfl; exact fun h => h
    apply OL.op; exact Guard.cno rfl rfl; rfl; rfl; apply Pev.fld; rfl; exact yes; rfl
    apply OL.op; exact Guard.cno rfl rfl; rfl; rfl; apply Pev.load_blk; rfl; exact fun h => h; exact .head _; rfl; rfl
    apply OL.op; exact Guard.cno rfl rfl; rfl; rfl; apply Pev.len_slice; rfl; exact fun h => h; rfl
    apply OL.op; exact Guard.cno rfl rfl; rfl; rfl; apply Pev.bin; rfl; exact fun h => h; rfl; exact yes; intro hcond; apply Bin.neq
    apply OL.op; exact Guard.cyes rfl rfl; rfl; rfl; apply Pev.pick_or; rfl; exact fun h => h; rfl; exact fun h => h
    apply OL.op; exact Guard.cno rfl rfl; rfl; rfl; apply Pev.pick_and; rfl; exact fun h => h; rfl; exact fun h => h
    apply oy; rfl; rfl; rfl; apply Pev.pick_or; rfl; exact fun h => h; rfl; exact fun h => h
    apply oop; rfl; apply Pev.pick_and; rfl; exact yes; rfl; exact fun h => h
    apply OL.nx
    refine W.cond rfl (fun hb3 => ?_) (fun hb3 => ?_)
    · apply W.sr
      apply oas; rfl; rfl
      apply OL.nx
      refine W.rt ?_
      ((with_reducible apply At.fin1); rfl; rfl; intro w' hw')
      refine ⟨by rw [hbad (by rw [hoki]; grind)], by (exact hw'.fr)⟩
    apply W.skip
    with_reducible apply At.in_normal
    with_reducible apply At.next
    apply W.reg
    apply obn; rfl; rfl; rfl; apply Bin.add_in; omega
    apply omv; rfl; rfl
    apply OL.nil
    refine At.again (k + 1) ⟨by omega, fun j hj => ?_⟩ (by omega) (by exact Sub.au) (fun w' hw' => hw'.thin (by exact Thin.au))
    by_cases e : j = k
    · subst e
      rw [hu2, hoki]
      simp only [Bool.and_eq_true, Bool.and_eq_false_iff, Bool.or_eq_false_iff, Bool.not_eq_true', Bool.not_eq_false', decide_eq_true_eq, decide_eq_false_iff_not, Bool.not_false, Bool.true_and, Bool.or_eq_true, Bool.not_eq_true] at hb hb2 hb3 ⊢
      omega
    · exact hall j (by omega)
  · obtain rfl : i = ps.length := by omega
    have hok : altsR1 x = true := by
      unfold altsR1
      rw [hpl]
      exact all_range hall
    refine W.xt ?_
    with_reducible apply At.next
    apply W.sr
    apply ofa; rfl; rfl; rfl
    apply old; rfl; rfl; exact .head _; rfl; rfl
    apply obn; rfl; rfl; rfl; apply Bin.eql
    apply omv; rfl; rfl
    apply ono; rfl; rfl; rfl; apply Pev.fld; rfl; exact yes; rfl
    apply ono; rfl; rfl; rfl; apply Pev.load_blk; rfl; exact fun h => h; exact .head _; rfl; rfl
    apply ono; rfl; rfl; rfl; apply Pev.len_slice; rfl; exact fun h => h; rfl
    apply ono; rfl; rfl; rfl; apply Pev.bin; rfl; exact fun h => h; rfl; exact yes; intro hcond; apply Bin.gtr
    apply oop; rfl; apply Pev.pick_or; rfl; exact yes; rfl; exact fun h => h
    apply oas; rfl; rfl
    apply OL.nx
    apply W.ret
    ((with_reducible apply At.fin1); rfl; rfl; intro w' hw')
    refine ⟨congrArg (fun b => Ending.returned (Value.bool b)) ?_, by (exact hw'.fr)⟩
    rw [hR, hok, hpl]
    grind
end Go.Proofs.YtlboppiogeaicaaDoor.co

/- The walks of the reference's numbersError, goodForm, goodKids. Conditions: none. (Printed by cra.py.) -/
namespace Go.Proofs.YtlboppiogeaicaaDoor.co
open Go.RowKit Go.Eng Go.Co
set_option linter.unusedVariables false
set_option linter.unusedSimpArgs false
set_option maxRecDepth 100000
theorem numE_bad {x : Ex} (h : rangesOk x = false) : numE x = 4 := by unfold numE; rw [if_pos h]
theorem numbersError_calls (x : Ex) (y : ExY) (w : World) (h : ExOk w (low w) x y) :
    Calls Tryd.prog 73 [.agg (exC x y).toArray].toArray w fun e w' => e = .returned (.int .i64 (numE x)) ∧ Ext w w' := by
  obtain ⟨ps, hps, harr⟩ := h.alts
  have hpl : x.alts.length = ps.length := by rw [← hps, List.length_map]
  have hal := h.al
  have hkl := h.kl
  have hbl := h.bl
  refine enter Tryd.func73 rfl Tryd.ntmps73 rfl (Cls.start w) ?_
  (simp only [argEnv, Nat.zero_add, Nat.reduceAdd])
  simp only [exC]
  apply W.sr
  apply OL.box; rfl; rfl; exact CellsL.agg; (intro bk hbk; simp only [AllLe, and_true] at hbk)
  apply oas; rfl; rfl
  apply OL.nsr
  apply oas; rfl; rfl
  apply oas; rfl; rfl
  apply OL.nx
  apply W.seq
  apply W.sr
  apply ofa; rfl; rfl; rfl
  apply old; rfl; rfl; exact .head _; rfl; rfl
  apply OL.nx
  revert bk
  intro b0 hb0
  refine W.joinx (G := Unit) (fun _ => True) (fun _ => [(1, true, .pointer (some ⟨b0, 0, none⟩)), (4, true, .int .i64 (highN x.op)), (3, true, .int .i64 (lowN x.op))]) (fun _ => Cls [blk b0 28 [.int .i64 x.op, .int .i64 x.n, .slice y.b.1 x.binds.length y.b.2, .slice y.k.1 x.kids.length y.k.2, .slice y.a.1 x.alts.length y.a.2]] [w]) ?_ ?_
  · skip
    apply W.block
    apply W.sr
    apply obn; rfl; rfl; rfl; apply Bin.eql
    apply oas; rfl; rfl
    apply OL.nx
    (refine W.cnd (fun r1 => ?_) (fun r1 => ?_)) <;> (try (exfalso; first | omega | exact r1 trivial | contradiction))
    · apply W.reg
      apply oas; rfl; rfl
      apply oas; rfl; rfl
      apply OL.nil
      with_reducible apply At.in_normal
      exact At.joinedx () trivial (by repeat (first | exact Sub.nil | apply Sub.cons rfl | (refine Sub.cons_eq rfl (congrArg (Value.int .i64) (by unfold highN; grind)) ?_) | (refine Sub.cons_eq rfl (congrArg (Value.int .i64) (by unfold lowN; grind)) ?_))) (fun w' hw' => hw')
    apply W.sr
    apply obn; rfl; rfl; rfl; apply Bin.eql
    apply oas; rfl; rfl
    apply OL.nx
    (refine W.cnd (fun r2 => ?_) (fun r2 => ?_)) <;> (try (exfalso; first | omega | exact r2 trivial | contradiction))
    · apply W.reg
      apply oas; rfl; rfl
      apply OL.nil
      with_reducible apply At.in_normal
      exact At.joinedx () trivial (by repeat (first | exact Sub.nil | apply Sub.cons rfl | (refine Sub.cons_eq rfl (congrArg (Value.int .i64) (by unfold highN; grind)) ?_) | (refine Sub.cons_eq rfl (congrArg (Value.int .i64) (by unfold lowN; grind)) ?_))) (fun w' hw' => hw')
    apply W.sr
    apply obn; rfl; rfl; rfl; apply Bin.eql
    apply oas; rfl; rfl
    apply OL.nx
    (refine W.cnd (fun r3 => ?_) (fun r3 => ?_)) <;> (try (exfalso; first | omega | exact r3 trivial | contradiction))
    · apply W.reg
      apply oas; rfl; rfl
      apply oas; rfl; rfl
      apply OL.nil
      with_reducible apply At.in_normal
      exact At.joinedx () trivial (by repeat (first | exact Sub.nil | apply Sub.cons rfl | (refine Sub.cons_eq rfl (congrArg (Value.int .i64) (by unfold highN; grind)) ?_) | (refine Sub.cons_eq rfl (congrArg (Value.int .i64) (by unfold lowN; grind)) ?_))) (fun w' hw' => hw')
    apply W.sr
    apply obn; rfl; rfl; rfl; apply Bin.eql
    apply oas; rfl; rfl
    apply OL.nx
    (refine W.cnd (fun r4 => ?_) (fun r4 => ?_)) <;> (try (exfalso; first | omega | exact r4 trivial | contradiction))
    · apply W.reg
      apply oas; rfl; rfl
      apply OL.nil
      with_reducible apply At.in_normal
      exact At.joinedx () trivial (by repeat (first | exact Sub.nil | apply Sub.cons rfl | (refine Sub.cons_eq rfl (congrArg (Value.int .i64) (by unfold highN; grind)) ?_) | (refine Sub.cons_eq rfl (congrArg (Value.int .i64) (by unfold lowN; grind)) ?_))) (fun w' hw' => hw')
    apply W.skip
    with_reducible apply At.in_normal
    exact At.joinedx () trivial (by repeat (first | exact Sub.nil | apply Sub.cons rfl | (refine Sub.cons_eq rfl (congrArg (Value.int .i64) (by unfold highN; grind)) ?_) | (refine Sub.cons_eq rfl (congrArg (Value.int .i64) (by unfold lowN; grind)) ?_))) (fun w' hw' => hw')
  rintro - -
  apply W.seq
  apply W.sr
  apply ofa; rfl; rfl; rfl
  apply old; rfl; rfl; exact .head _; rfl; rfl
  apply omv; rfl; rfl
  apply omv; rfl; rfl
  (((first | (with_reducible apply OL.op) | (with_reducible apply QL.op)); (exact Guard.au); rfl; rfl); (exact Pev.call rfl (by exact Args.au) (fun _ w2 hw2 => (inside_calls x.n (lowN x.op) (highN x.op) w2).mono (fun e w3 h => ⟨h.1, hw2.ext h.2⟩))))
  apply oop; rfl; apply Pev.not; rfl; exact yes
  apply OL.nx
  (refine W.cnd (fun hn => ?_) (fun hn => ?_)) <;> (try (exfalso; first | omega | exact hn trivial | contradiction))
  · apply W.sr
    apply oas; rfl; rfl
    apply OL.nx
    refine W.rt ?_
    ((with_reducible apply At.fin1); rfl; rfl; intro w' hw')
    refine ⟨by rw [numE_bad]; unfold rangesOk; grind, by (exact hw'.fr)⟩
  apply W.sk
  apply W.seq
  apply W.sr
  apply ofa; rfl; rfl; rfl
  apply old; rfl; rfl; exact .head _; rfl; rfl
  apply oop; rfl; apply Pev.len_slice; rfl; exact yes; rfl
  apply omv; rfl; rfl
  apply OL.nx
  apply W.block
  refine W.loop (G := Nat) (fun i => i ≤ x.binds.length ∧ ∀ (j : Nat) (v : Int), j < i → x.binds[j]? = some v → idB v = true) (fun i => x.binds.length - i)
    (fun i => [(1, true, .pointer (some ⟨b0, 0, none⟩)), (29, true, .slice y.b.1 x.binds.length y.b.2), (30, true, .int .i64 (x.binds.length : Int)), (31, true, .int .i64 (i : Int))])
    (fun _ => Cls [blk b0 28 [.int .i64 x.op, .int .i64 x.n, .slice y.b.1 x.binds.length y.b.2, .slice y.k.1 x.kids.length y.k.2, .slice y.a.1 x.alts.length y.a.2]] [w]) 0 ⟨by omega, fun j v hj => by omega⟩ (by exact Sub.au) (fun w' hw' => hw') ?_
  rintro i ⟨hi, hbs⟩
  apply W.sr
  apply obn; rfl; rfl; rfl; apply Bin.lss
  apply OL.nx
  apply W.seq
  (refine W.cnd (fun hlt => ?_) (fun hlt => ?_)) <;> (try (exfalso; first | omega | exact hlt trivial | contradiction))
  · have hil : i < x.binds.length := by omega
    obtain ⟨a, v, hqa, hab, hv, hcell⟩ := h.b.get hil
    have hab : a.block < w.heap.size := hab
    rw [hqa]
    apply W.sk
    apply W.sb
    apply W.sr
    apply oop; rfl; apply Pev.idx; rfl; exact yes; rfl; exact yes; rfl; rfl; intro hcond; omega
    apply oop; rfl; apply Pev.load_kept; rfl; exact yes; exact .head _; rfl; intro hcond; assumption; intro hcond; (rw [add_block]; assumption); intro hcond; exact NotOwned.au
    apply oas; rfl; rfl
    apply OL.nsr
    apply omv; rfl; rfl
    (((first | (with_reducible apply OL.op) | (with_reducible apply QL.op)); (exact Guard.au); rfl; rfl); (exact Pev.call rfl (by exact Args.au) (fun _ w2 hw2 => (inside_calls v 0 1048575 w2).mono (fun e w3 h => ⟨h.1, hw2.ext h.2⟩))))
    apply oop; rfl; apply Pev.not; rfl; exact yes
    apply OL.nx
    (refine W.cnd (fun hv2 => ?_) (fun hv2 => ?_)) <;> (try (exfalso; first | omega | exact hv2 trivial | contradiction))
    · apply W.sr
      apply oas; rfl; rfl
      apply OL.nx
      refine W.rt ?_
      ((with_reducible apply At.fin1); rfl; rfl; intro w' hw')
      refine ⟨?_, by (exact hw'.fr)⟩
      have hid : idB v = false := by unfold idB; grind
      have : x.binds.all idB = false := List.all_eq_false.2 ⟨v, List.mem_of_getElem? hv, by simp [hid]⟩
      rw [numE_bad]
      unfold rangesOk
      simp [this]
    apply W.skip
    with_reducible apply At.in_normal
    with_reducible apply At.next
    apply W.reg
    apply obn; rfl; rfl; rfl; apply Bin.add_in; omega
    apply omv; rfl; rfl
    apply OL.nil
    refine At.again (i + 1) ⟨by omega, fun j u hj hu => ?_⟩ (by omega) (by exact Sub.au) (fun w' hw' => hw')
    by_cases e : j = i
    · subst e
      rw [hv] at hu
      obtain rfl := Option.some.inj hu
      unfold idB
      grind
    · exact hbs j u (by omega) hu
  obtain rfl : i = x.binds.length := by omega
  have hball : x.binds.all idB = true := List.all_eq_true.2 fun v hv => by
    obtain ⟨j, hj⟩ := List.getElem?_of_mem hv
    exact hbs j v (List.getElem?_eq_some_iff.1 hj).1 hj
  clear hbs hlt hi
  rw [hpl]
  refine W.xt ?_
  with_reducible apply At.next
  apply W.sr
  apply oas; rfl; rfl
  apply OL.nx
  apply W.seq
  apply W.sr
  apply ofa; rfl; rfl; rfl
  apply old; rfl; rfl; exact .head _; rfl; rfl
  apply oop; rfl; apply Pev.len_slice; rfl; exact yes; rfl
  apply omv; rfl; rfl
  apply OL.nx
  apply W.block
  refine W.loop (G := Nat) (fun i => i ≤ ps.length ∧ (∀ (j : Nat) (p : Al × Sc), j < i → ps[j]? = some p → altR x.op p.1 = true) ∧ ((ps.take i).foldl (fun m p => max m p.1.binds.length) 0) ≤ 140737488355328) (fun i => ps.length - i)
    (fun i => [(1, true, .pointer (some ⟨b0, 0, none⟩)), (7, true, .int .i64 (((ps.take i).foldl (fun m p => max m p.1.binds.length) 0 : Nat) : Int)), (40, true, .slice y.a.1 ps.length y.a.2), (41, true, .int .i64 (ps.length : Int)), (42, true, .int .i64 (i : Int))])
    (fun _ => Cls [blk b0 28 [.int .i64 x.op, .int .i64 x.n, .slice y.b.1 x.binds.length y.b.2, .slice y.k.1 x.kids.length y.k.2, .slice y.a.1 ps.length y.a.2]] [w]) 0 ⟨by omega, fun j v hj => by omega, by simp⟩ (by exact Sub.au) (fun w' hw' => hw') ?_
  rintro i ⟨hi, has, hwd⟩
  apply W.sr
  apply obn; rfl; rfl; rfl; apply Bin.lss
  apply OL.nx
  apply W.seq
  (refine W.cnd (fun hlt => ?_) (fun hlt => ?_)) <;> (try (exfalso; first | omega | exact hlt trivial | contradiction))
  · have hil : i < ps.length := by omega
    obtain ⟨a, u, hq, hab, hu, hcell, hok⟩ := harr.get hil
    have hab : a.block < w.heap.size := hab
    have hcell : CellsAt w (a.add (i * 2)) [.int .i64 u.1.tag, .slice u.2.1 u.1.binds.length u.2.2] := hcell
    obtain ⟨htag, hul, huo⟩ := hok
    have hua : u.1 ∈ x.alts := by rw [← hps]; exact List.mem_map_of_mem (f := Prod.fst) (List.mem_of_getElem? hu)
    have hbad : altR x.op u.1 = false → numE x = 4 := fun hf => numE_bad (by
      have : x.alts.all (altR x.op) = false := List.all_eq_false.2 ⟨_, hua, by simp [hf]⟩
      unfold rangesOk
      simp [this])
    rw [hq]
    apply W.sk
    apply W.sb
    apply W.sr
    apply oop; rfl; apply Pev.idx; rfl; exact yes; rfl; exact yes; rfl; rfl; intro hcond; omega
    apply oop; rfl; apply Pev.load_keptA; rfl; exact yes; exact .head _; rfl; intro hcond; assumption; rfl; intro hcond; (rw [add_block]; assumption); intro hcond; exact NotOwned.au
    apply OL.alloc; rfl; rfl; exact CellsL.agg; (intro bk hbk; simp only [AllLe, and_true] at hbk)
    apply OL.storeB; rfl; rfl; exact CellsL.agg; rfl; rfl; rfl; exact Swap.au; exact Put.au
    apply OL.nx
    apply W.seq
    apply W.sr
    apply ofa; rfl; rfl; rfl
    apply old; rfl; rfl; exact .head _; rfl; rfl
    apply obn; rfl; rfl; rfl; apply Bin.geq
    apply omv; rfl; rfl
    apply ono; rfl; rfl; rfl; apply Pev.fld; rfl; exact yes; rfl
    apply ono; rfl; rfl; rfl; apply Pev.load_blk; rfl; exact fun h => h; exact .tail _ (.head _); rfl; rfl
    apply ono; rfl; rfl; rfl; apply Pev.bin; rfl; exact fun h => h; rfl; exact yes; intro hcond; apply Bin.eql
    apply ono; rfl; rfl; rfl; apply Pev.move; rfl; exact fun h => h
    apply OL.op; exact Guard.cyes rfl rfl; rfl; rfl; apply Pev.fld; rfl; exact yes; rfl
    apply OL.op; exact Guard.cyes rfl rfl; rfl; rfl; apply Pev.load_blk; rfl; exact fun h => h; exact .head _; rfl; rfl
    apply OL.op; exact Guard.cyes rfl rfl; rfl; rfl; apply Pev.bin; rfl; exact fun h => h; rfl; exact yes; intro hcond; apply Bin.gtr
    apply ono; rfl; rfl; rfl; apply Pev.pick_and; rfl; exact fun h => h; rfl; exact fun h => h
    apply oop; rfl; apply Pev.pick_or; rfl; exact yes; rfl; exact fun h => h
    apply OL.nx
    refine W.cond rfl (fun hb => ?_) (fun hb => ?_)
    · apply W.sr
      apply oas; rfl; rfl
      apply OL.nx
      refine W.rt ?_
      ((with_reducible apply At.fin1); rfl; rfl; intro w' hw')
      refine ⟨by rw [hbad (by unfold altR; grind)], by (exact hw'.fr)⟩
    apply W.sk
    apply W.seq
    apply W.sr
    apply ofa; rfl; rfl; rfl
    apply old; rfl; rfl; exact .head _; rfl; rfl
    apply oop; rfl; apply Pev.len_slice; rfl; exact yes; rfl
    apply omv; rfl; rfl
    apply OL.nx
    apply W.block
    refine W.loop (G := Nat) (fun k => k ≤ u.1.binds.length ∧ ∀ (j : Nat) (v : Int), j < k → u.1.binds[j]? = some v → idB v = true) (fun k => u.1.binds.length - k)
      (fun k => [(1, true, .pointer (some ⟨b0, 0, none⟩)), (7, true, .int .i64 (((ps.take i).foldl (fun m p => max m p.1.binds.length) 0 : Nat) : Int)), (9, true, .pointer (some ⟨bk, 0, none⟩)), (40, true, .slice (some a) ps.length y.a.2), (41, true, .int .i64 (ps.length : Int)), (42, true, .int .i64 (i : Int)), (60, true, .slice u.2.1 u.1.binds.length u.2.2), (61, true, .int .i64 (u.1.binds.length : Int)), (62, true, .int .i64 (k : Int))])
      (fun _ => Cls [blk bk 132 [.int .i64 u.1.tag, .slice u.2.1 u.1.binds.length u.2.2], blk b0 28 [.int .i64 x.op, .int .i64 x.n, .slice y.b.1 x.binds.length y.b.2, .slice y.k.1 x.kids.length y.k.2, .slice (some a) ps.length y.a.2]] [w]) 0 ⟨by omega, fun j v hj => by omega⟩ (by exact Sub.au) (fun w' hw' => by first | exact hw' | (rw [hq] at hw'; exact hw')) ?_
    rintro k ⟨hk, hbs⟩
    apply W.sr
    apply obn; rfl; rfl; rfl; apply Bin.lss
    apply OL.nx
    apply W.seq
    (refine W.cnd (fun hlt2 => ?_) (fun hlt2 => ?_)) <;> (try (exfalso; first | omega | exact hlt2 trivial | contradiction))
    · have hkl2 : k < u.1.binds.length := by omega
      obtain ⟨av, v, hqv, habv, hv, hcv⟩ := huo.get hkl2
      have habv : av.block < w.heap.size := habv
      rw [hqv]
      apply W.sk
      apply W.sb
      apply W.sr
      apply oop; rfl; apply Pev.idx; rfl; exact yes; rfl; exact yes; rfl; rfl; intro hcond; omega
      apply oop; rfl; apply Pev.load_kept; rfl; exact yes; exact .head _; rfl; intro hcond; assumption; intro hcond; (rw [add_block]; assumption); intro hcond; exact NotOwned.au
      apply oas; rfl; rfl
      apply OL.nsr
      apply omv; rfl; rfl
      (((first | (with_reducible apply OL.op) | (with_reducible apply QL.op)); (exact Guard.au); rfl; rfl); (exact Pev.call rfl (by exact Args.au) (fun _ w2 hw2 => (inside_calls v 0 1048575 w2).mono (fun e w3 h => ⟨h.1, hw2.ext h.2⟩))))
      apply oop; rfl; apply Pev.not; rfl; exact yes
      apply OL.nx
      (refine W.cnd (fun hv2 => ?_) (fun hv2 => ?_)) <;> (try (exfalso; first | omega | exact hv2 trivial | contradiction))
      · apply W.sr
        apply oas; rfl; rfl
        apply OL.nx
        refine W.rt ?_
        ((with_reducible apply At.fin1); rfl; rfl; intro w' hw')
        refine ⟨?_, by (exact hw'.fr)⟩
        have hid : idB v = false := by unfold idB; grind
        have : u.1.binds.all idB = false := List.all_eq_false.2 ⟨v, List.mem_of_getElem? hv, by simp [hid]⟩
        rw [hbad (by unfold altR; simp [this])]
      apply W.skip
      with_reducible apply At.in_normal
      with_reducible apply At.next
      apply W.reg
      apply obn; rfl; rfl; rfl; apply Bin.add_in; omega
      apply omv; rfl; rfl
      apply OL.nil
      refine At.again (k + 1) ⟨by omega, fun j z hj hz => ?_⟩ (by omega) (by exact Sub.au) (fun w' hw' => by first | exact hw' | (rw [hqv] at hw'; exact hw') | (rw [← hqv] at hw'; exact hw'))
      by_cases e : j = k
      · subst e
        rw [hv] at hz
        obtain rfl := Option.some.inj hz
        unfold idB
        grind
      · exact hbs j z (by omega) hz
    obtain rfl : k = u.1.binds.length := by omega
    have huall : u.1.binds.all idB = true := List.all_eq_true.2 fun v hv => by
      obtain ⟨j, hj⟩ := List.getElem?_of_mem hv
      exact hbs j v (List.getElem?_eq_some_iff.1 hj).1 hj
    have hfold : (ps.take (i + 1)).foldl (fun m p => max m p.1.binds.length) 0 = max ((ps.take i).foldl (fun m p => max m p.1.binds.length) 0) u.1.binds.length := by
      rw [List.take_add_one, hu]
      simp [List.foldl_append]
    refine W.xt ?_
    with_reducible apply At.next
    apply W.reg
    apply omv; rfl; rfl
    apply ofa; rfl; rfl; rfl
    apply old; rfl; rfl; exact .head _; rfl; rfl
    apply oop; rfl; apply Pev.len_slice; rfl; exact yes; rfl
    apply oop; rfl; apply Pev.max2; rfl; exact yes; rfl; exact yes
    apply oas; rfl; rfl
    apply OL.nil
    with_reducible apply At.in_normal
    with_reducible apply At.next
    apply W.reg
    apply obn; rfl; rfl; rfl; apply Bin.add_in; omega
    apply omv; rfl; rfl
    apply OL.nil
    try rw [max_if]
    refine At.again (i + 1) ⟨by omega, fun j p hj hp => ?_, by rw [hfold]; omega⟩ (by omega) (by rw [hfold]; first | exact Sub.au) (fun w' hw' => hw'.thin (by exact Thin.au))
    by_cases e : j = i
    · subst e
      rw [hu] at hp
      obtain rfl := Option.some.inj hp
      unfold altR
      grind
    · exact has j p (by omega) hp
  · obtain rfl : i = ps.length := by omega
    rw [List.take_length] at hwd ⊢
    have haall : x.alts.all (altR x.op) = true := List.all_eq_true.2 fun v hv => by
      rw [← hps] at hv
      obtain ⟨p, hp, rfl⟩ := List.mem_map.1 hv
      obtain ⟨j, hj⟩ := List.getElem?_of_mem hp
      exact has j p (List.getElem?_eq_some_iff.1 hj).1 hj
    have hrok : rangesOk x = true := by unfold rangesOk; grind
    have hwide : altW x.alts = ps.foldl (fun m p => max m p.1.binds.length) 0 := by
      unfold altW
      rw [← hps, List.foldl_map]
    rw [← hwide] at hwd ⊢
    have hre : numE x = if (x.op = 2 ∧ 6 < x.binds.length) ∨ (x.op = 3 ∧ 7 < x.kids.length) ∨ (x.op = 14 ∧ 6 < x.kids.length) ∨ ((x.op = 6 ∨ x.op = 15) ∧ 16 < x.kids.length) ∨ 16 < x.binds.length ∨ 16 < altW x.alts then 2 else 0 := by
      unfold numE
      rw [if_neg (by simp [hrok])]
    refine W.xt ?_
    with_reducible apply At.next
    apply W.sb
    apply W.seq
    apply W.sr
    apply ofa; rfl; rfl; rfl
    apply old; rfl; rfl; exact .head _; rfl; rfl
    apply obn; rfl; rfl; rfl; apply Bin.eql
    apply omv; rfl; rfl
    apply oy; rfl; rfl; rfl; apply Pev.fld; rfl; exact yes; rfl
    apply oy; rfl; rfl; rfl; apply Pev.load_blk; rfl; exact fun h => h; exact .head _; rfl; rfl
    apply oy; rfl; rfl; rfl; apply Pev.len_slice; rfl; exact fun h => h; rfl
    apply oy; rfl; rfl; rfl; apply Pev.bin; rfl; exact fun h => h; rfl; exact yes; intro hcond; apply Bin.gtr
    apply oop; rfl; apply Pev.pick_and; rfl; exact yes; rfl; exact fun h => h
    apply oas; rfl; rfl
    apply OL.nx
    refine W.cond rfl (fun c1 => ?_) (fun c1 => ?_)
    · apply W.sk
      refine W.cond rfl (fun _ => ?_) (fun h4 => by rw [c1] at h4; cases h4)
      apply W.sr
      apply oas; rfl; rfl
      apply OL.nx
      refine W.rt ?_
      ((with_reducible apply At.fin1); rfl; rfl; intro w' hw')
      exact ⟨by rw [hre, if_pos (by simp only [Bool.and_eq_true, Bool.and_eq_false_iff, Bool.or_eq_false_iff, Bool.not_eq_true', Bool.not_eq_false', decide_eq_true_eq, decide_eq_false_iff_not, Bool.or_eq_true, Bool.not_eq_true] at c1; omega)], by (exact hw'.fr)⟩
    apply W.sr
    apply ofa; rfl; rfl; rfl
    apply old; rfl; rfl; exact .head _; rfl; rfl
    apply obn; rfl; rfl; rfl; apply Bin.eql
    apply omv; rfl; rfl
    apply oy; rfl; rfl; rfl; apply Pev.fld; rfl; exact yes; rfl
    apply oy; rfl; rfl; rfl; apply Pev.load_blk; rfl; exact fun h => h; exact .head _; rfl; rfl
    apply oy; rfl; rfl; rfl; apply Pev.len_slice; rfl; exact fun h => h; rfl
    apply oy; rfl; rfl; rfl; apply Pev.bin; rfl; exact fun h => h; rfl; exact yes; intro hcond; apply Bin.gtr
    apply oop; rfl; apply Pev.pick_and; rfl; exact yes; rfl; exact fun h => h
    apply oas; rfl; rfl
    apply OL.nx
    refine W.cond rfl (fun c2 => ?_) (fun c2 => ?_)
    · apply W.sk
      refine W.cond rfl (fun _ => ?_) (fun h4 => by rw [c2] at h4; cases h4)
      apply W.sr
      apply oas; rfl; rfl
      apply OL.nx
      refine W.rt ?_
      ((with_reducible apply At.fin1); rfl; rfl; intro w' hw')
      exact ⟨by rw [hre, if_pos (by simp only [Bool.and_eq_true, Bool.and_eq_false_iff, Bool.or_eq_false_iff, Bool.not_eq_true', Bool.not_eq_false', decide_eq_true_eq, decide_eq_false_iff_not, Bool.or_eq_true, Bool.not_eq_true] at c2; omega)], by (exact hw'.fr)⟩
    apply W.reg
    apply ofa; rfl; rfl; rfl
    apply old; rfl; rfl; exact .head _; rfl; rfl
    apply obn; rfl; rfl; rfl; apply Bin.eql
    apply omv; rfl; rfl
    apply oy; rfl; rfl; rfl; apply Pev.fld; rfl; exact yes; rfl
    apply oy; rfl; rfl; rfl; apply Pev.load_blk; rfl; exact fun h => h; exact .head _; rfl; rfl
    apply oy; rfl; rfl; rfl; apply Pev.len_slice; rfl; exact fun h => h; rfl
    apply oy; rfl; rfl; rfl; apply Pev.bin; rfl; exact fun h => h; rfl; exact yes; intro hcond; apply Bin.gtr
    apply oop; rfl; apply Pev.pick_and; rfl; exact yes; rfl; exact fun h => h
    apply oas; rfl; rfl
    apply OL.nx
    refine W.cond rfl (fun c3 => ?_) (fun c3 => ?_)
    · apply W.sr
      apply oas; rfl; rfl
      apply OL.nx
      refine W.rt ?_
      ((with_reducible apply At.fin1); rfl; rfl; intro w' hw')
      exact ⟨by rw [hre, if_pos (by simp only [Bool.and_eq_true, Bool.and_eq_false_iff, Bool.or_eq_false_iff, Bool.not_eq_true', Bool.not_eq_false', decide_eq_true_eq, decide_eq_false_iff_not, Bool.or_eq_true, Bool.not_eq_true] at c3; omega)], by (exact hw'.fr)⟩
    apply W.seq
    apply W.sr
    apply ofa; rfl; rfl; rfl
    apply old; rfl; rfl; exact .head _; rfl; rfl
    apply obn; rfl; rfl; rfl; apply Bin.eql
    apply omv; rfl; rfl
    apply ono; rfl; rfl; rfl; apply Pev.fld; rfl; exact yes; rfl
    apply ono; rfl; rfl; rfl; apply Pev.load_blk; rfl; exact fun h => h; exact .head _; rfl; rfl
    apply ono; rfl; rfl; rfl; apply Pev.bin; rfl; exact fun h => h; rfl; exact yes; intro hcond; apply Bin.eql
    apply oop; rfl; apply Pev.pick_or; rfl; exact yes; rfl; exact fun h => h
    apply omv; rfl; rfl
    apply oy; rfl; rfl; rfl; apply Pev.fld; rfl; exact yes; rfl
    apply oy; rfl; rfl; rfl; apply Pev.load_blk; rfl; exact fun h => h; exact .head _; rfl; rfl
    apply oy; rfl; rfl; rfl; apply Pev.len_slice; rfl; exact fun h => h; rfl
    apply oy; rfl; rfl; rfl; apply Pev.bin; rfl; exact fun h => h; rfl; exact yes; intro hcond; apply Bin.gtr
    apply oop; rfl; apply Pev.pick_and; rfl; exact yes; rfl; exact fun h => h
    apply oas; rfl; rfl
    apply OL.nx
    refine W.cond rfl (fun c4 => ?_) (fun c4 => ?_)
    · apply W.sk
      refine W.cond rfl (fun _ => ?_) (fun h4 => by rw [c4] at h4; cases h4)
      apply W.sr
      apply oas; rfl; rfl
      apply OL.nx
      refine W.rt ?_
      ((with_reducible apply At.fin1); rfl; rfl; intro w' hw')
      exact ⟨by rw [hre, if_pos (by simp only [Bool.and_eq_true, Bool.and_eq_false_iff, Bool.or_eq_false_iff, Bool.not_eq_true', Bool.not_eq_false', decide_eq_true_eq, decide_eq_false_iff_not, Bool.or_eq_true, Bool.not_eq_true] at c4; omega)], by (exact hw'.fr)⟩
    apply W.sr
    apply ofa; rfl; rfl; rfl
    apply old; rfl; rfl; exact .head _; rfl; rfl
    apply oop; rfl; apply Pev.len_slice; rfl; exact yes; rfl
    apply obn; rfl; rfl; rfl; apply Bin.gtr
    apply oas; rfl; rfl
    apply OL.nx
    refine W.cond rfl (fun c5 => ?_) (fun c5 => ?_)
    · apply W.sk
      refine W.cond rfl (fun _ => ?_) (fun h4 => by rw [c5] at h4; cases h4)
      apply W.sr
      apply oas; rfl; rfl
      apply OL.nx
      refine W.rt ?_
      ((with_reducible apply At.fin1); rfl; rfl; intro w' hw')
      exact ⟨by rw [hre, if_pos (by simp only [Bool.and_eq_true, Bool.and_eq_false_iff, Bool.or_eq_false_iff, Bool.not_eq_true', Bool.not_eq_false', decide_eq_true_eq, decide_eq_false_iff_not, Bool.or_eq_true, Bool.not_eq_true] at c5; omega)], by (exact hw'.fr)⟩
    apply W.reg
    apply omv; rfl; rfl
    apply obn; rfl; rfl; rfl; apply Bin.gtr
    apply oas; rfl; rfl
    apply OL.nx
    refine W.cond rfl (fun c6 => ?_) (fun c6 => ?_)
    · apply W.sr
      apply oas; rfl; rfl
      apply OL.nx
      refine W.rt ?_
      ((with_reducible apply At.fin1); rfl; rfl; intro w' hw')
      exact ⟨by rw [hre, if_pos (by simp only [Bool.and_eq_true, Bool.and_eq_false_iff, Bool.or_eq_false_iff, Bool.not_eq_true', Bool.not_eq_false', decide_eq_true_eq, decide_eq_false_iff_not, Bool.or_eq_true, Bool.not_eq_true] at c6; omega)], by (exact hw'.fr)⟩
    apply W.skip
    with_reducible apply At.in_normal
    with_reducible apply At.next
    apply W.sr
    apply oas; rfl; rfl
    apply OL.nx
    apply W.ret
    ((with_reducible apply At.fin1); rfl; rfl; intro w' hw')
    exact ⟨by rw [hre, if_neg (by simp only [Bool.and_eq_true, Bool.and_eq_false_iff, Bool.or_eq_false_iff, Bool.not_eq_true', Bool.not_eq_false', decide_eq_true_eq, decide_eq_false_iff_not, Bool.or_eq_true, Bool.not_eq_true] at c1 c2 c3 c4 c5 c6; omega)], by (exact hw'.fr)⟩
end Go.Proofs.YtlboppiogeaicaaDoor.co

/- The walks of the reference's In, Scope and Binds. Conditions: none. -/
namespace Go.Co
open Go.Eng Go.RowKit
set_option linter.unusedVariables false
set_option linter.unusedSimpArgs false
theorem drop_mem {l : List Int} {i : Nat} {v n : Int} (h : l[i]? = some v) : n ∈ l.drop i ↔ v = n ∨ n ∈ l.drop (i + 1) := by
  obtain ⟨hi, rfl⟩ := List.getElem?_eq_some_iff.1 h
  rw [List.drop_eq_getElem_cons hi, List.mem_cons]
  exact ⟨fun h => h.imp Eq.symm id, fun h => h.imp Eq.symm id⟩
end Go.Co
namespace Go.Proofs.YtlboppiogeaicaaDoor.co
open Go.RowKit Go.Eng Go.Co
set_option linter.unusedVariables false
set_option linter.unusedSimpArgs false
set_option maxRecDepth 100000
theorem In_calls (q : Option Addr) (cap : Nat) (l : List Int) (s : Int) (w : World) (hlen : l.length ≤ 9223372036854775807) (h : IntsO w (low w) l q) :
    Calls Tryd.prog 47 [.slice q l.length cap, .int .i64 s].toArray w fun e w' => e = .returned (.bool (decide (s ∈ l))) ∧ Ext w w' := by
  refine enter Tryd.func47 rfl Tryd.ntmps47 rfl (Cls.start w) ?_
  (simp only [argEnv, Nat.zero_add, Nat.reduceAdd])
  apply W.sr
  apply oas; rfl; rfl
  apply OL.nx
  apply W.seq
  apply W.sr
  apply omv; rfl; rfl
  apply oop; rfl; apply Pev.len_slice; rfl; exact yes; rfl
  apply omv; rfl; rfl
  apply OL.nx
  apply W.block
  refine W.loop (G := Nat) (fun i => i ≤ l.length ∧ (s ∈ l.drop i ↔ s ∈ l)) (fun i => l.length - i)
    (fun i => [(1, true, .int .i64 s), (7, true, .slice q l.length cap), (8, true, .int .i64 (l.length : Int)), (9, true, .int .i64 (i : Int))])
    (fun i => Cls [] [w]) 0 ⟨by omega, by simp⟩ (by exact Sub.au) (fun w' hw' => hw') ?_
  rintro i ⟨hi, hrest⟩
  apply W.sr
  apply obn; rfl; rfl; rfl; apply Bin.lss
  apply OL.nx
  apply W.seq
  (refine W.cnd (fun hlt => ?_) (fun hlt => ?_)) <;> (try (exfalso; first | omega | exact hlt trivial | contradiction))
  · obtain ⟨a, u, rfl, hab, hu, hcell⟩ := h.get (show i < l.length by omega)
    have hab : a.block < w.heap.size := hab
    rw [drop_mem hu] at hrest
    apply W.sk
    apply W.sb
    apply W.sr
    apply oop; rfl; apply Pev.idx; rfl; exact yes; rfl; exact yes; rfl; rfl; intro hcond; omega
    apply oop; rfl; apply Pev.load_kept; rfl; exact yes; exact .head _; rfl; intro hcond; assumption; intro hcond; (rw [add_block]; assumption); intro hcond; exact NotOwned.au
    apply oas; rfl; rfl
    apply OL.nsr
    apply omv; rfl; rfl
    apply omv; rfl; rfl
    apply obn; rfl; rfl; rfl; apply Bin.eql
    apply OL.nx
    (refine W.cnd (fun heq => ?_) (fun heq => ?_)) <;> (try (exfalso; first | omega | exact heq trivial | contradiction))
    · apply W.sr
      apply oas; rfl; rfl
      apply OL.nx
      refine W.rt ?_
      ((with_reducible apply At.fin1); rfl; rfl; intro w' hw')
      have : s ∈ l := hrest.1 (.inl heq)
      exact ⟨by simp [this], by (exact hw'.fr)⟩
    · apply W.skip
      with_reducible apply At.in_normal
      with_reducible apply At.next
      apply W.reg
      apply obn; rfl; rfl; rfl; apply Bin.add_in; omega
      apply omv; rfl; rfl
      apply OL.nil
      refine At.again (i + 1) ⟨by omega, ?_⟩ (by omega) (by exact Sub.au) (fun w' hw' => hw')
      rw [← hrest]
      exact ⟨.inr, fun h => h.resolve_left heq⟩
  · refine W.xt ?_
    with_reducible apply At.next
    apply W.sr
    apply oas; rfl; rfl
    apply OL.nx
    apply W.ret
    ((with_reducible apply At.fin1); rfl; rfl; intro w' hw')
    rw [List.drop_eq_nil_of_le (by omega)] at hrest
    have : ¬ s ∈ l := fun h => by simpa using hrest.2 h
    exact ⟨by simp [this], by (exact hw'.fr)⟩
theorem Scope_calls (x : Ex) (y : ExY) (k : Nat) (w : World) (h : ExOk w (low w) x y) (hk7 : x.op = 7 ∨ x.op = 13 → k ≤ x.alts.length) (ha : ¬ (x.op = 7 ∨ x.op = 13) → x.alts.length = 0) (hk : k ≤ 140737488355328) :
    ∃ q c, IntsO w (low w) (scopeX x k) q ∧ (scopeX x k).length ≤ 140737488355328 ∧ ∀ w2, (∀ k, k < w.heap.size → w2.heap[k]? = w.heap[k]?) → w.heap.size ≤ w2.heap.size → Calls Tryd.prog 77 [.agg (exC x y).toArray, .int .i64 (k : Int)].toArray w2 fun e w' => e = .returned (.slice q (scopeX x k).length c) ∧ Ext w2 w' := by
  obtain ⟨ps, hps, harr⟩ := h.alts
  have hpl : x.alts.length = ps.length := by rw [← hps, List.length_map]
  have hal := h.al
  have hbl := h.bl
  by_cases hA : x.op = 2 ∨ x.op = 5 ∨ (x.op = 4 ∧ k = 1)
  · have hs : scopeX x k = x.binds := by unfold scopeX bound; rw [if_pos hA]
    rw [hs]
    refine ⟨y.b.1, y.b.2, h.b, hbl, fun w2 hsame hsz => ?_⟩
    refine enter Tryd.func77 rfl Tryd.ntmps77 rfl (Cls.start w2) ?_
    (simp only [argEnv, Nat.zero_add, Nat.reduceAdd])
    simp only [exC]
    apply W.sr
    apply OL.box; rfl; rfl; exact CellsL.agg; (intro bk hbk; simp only [AllLe, and_true] at hbk)
    apply oas; rfl; rfl
    apply OL.nx
    apply W.seq
    apply W.sr
    apply ofa; rfl; rfl; rfl
    apply old; rfl; rfl; exact .head _; rfl; rfl
    apply obn; rfl; rfl; rfl; apply Bin.eql
    apply omv; rfl; rfl
    apply ono; rfl; rfl; rfl; apply Pev.fld; rfl; exact yes; rfl
    apply ono; rfl; rfl; rfl; apply Pev.load_blk; rfl; exact fun h => h; exact .head _; rfl; rfl
    apply ono; rfl; rfl; rfl; apply Pev.bin; rfl; exact fun h => h; rfl; exact yes; intro hcond; apply Bin.eql
    apply oop; rfl; apply Pev.pick_or; rfl; exact yes; rfl; exact fun h => h
    apply omv; rfl; rfl
    apply ono; rfl; rfl; rfl; apply Pev.fld; rfl; exact yes; rfl
    apply ono; rfl; rfl; rfl; apply Pev.load_blk; rfl; exact fun h => h; exact .head _; rfl; rfl
    apply ono; rfl; rfl; rfl; apply Pev.bin; rfl; exact fun h => h; rfl; exact yes; intro hcond; apply Bin.eql
    apply ono; rfl; rfl; rfl; apply Pev.move; rfl; exact fun h => h
    apply OL.op; exact Guard.cyes rfl rfl; rfl; rfl; apply Pev.move; rfl; exact yes
    apply OL.op; exact Guard.cyes rfl rfl; rfl; rfl; apply Pev.bin; rfl; exact fun h => h; rfl; exact yes; intro hcond; apply Bin.eql
    apply ono; rfl; rfl; rfl; apply Pev.pick_and; rfl; exact fun h => h; rfl; exact fun h => h
    apply oop; rfl; apply Pev.pick_or; rfl; exact yes; rfl; exact fun h => h
    apply OL.nx
    refine W.cond rfl (fun hb => ?_) (fun hb => by grind)
    apply W.sr
    apply ofa; rfl; rfl; rfl
    apply old; rfl; rfl; exact .head _; rfl; rfl
    apply oas; rfl; rfl
    apply OL.nx
    refine W.rt ?_
    ((with_reducible apply At.fin1); rfl; rfl; intro w' hw')
    exact ⟨rfl, by (exact hw'.fr)⟩
  have hs0 : scopeX x k = if 0 < x.alts.length ∧ 0 < k ∧ k ≤ x.alts.length then (x.alts.getD (k - 1) ⟨0, []⟩).binds else [] := by unfold scopeX bound; rw [if_neg hA]
  by_cases hB : (x.op = 7 ∨ x.op = 13) ∧ 0 < k
  · have hka := hk7 hB.1
    obtain ⟨a, u, hq, hab1, hu, hcell, hok⟩ := harr.get (i := k - 1) (by omega)
    have hab1 : a.block < w.heap.size := hab1
    have hcell : CellsAt w (a.add (((k : Int) - 1).toNat * 2)) [.int .i64 u.1.tag, .slice u.2.1 u.1.binds.length u.2.2] := by rw [show ((k : Int) - 1).toNat = k - 1 by omega]; exact hcell
    have hs : scopeX x k = u.1.binds := by
      rw [hs0, if_pos ⟨by omega, hB.2, hka⟩]
      have : x.alts[k - 1]? = some u.1 := by rw [← hps, List.getElem?_map, hu]; rfl
      simp [List.getD, this]
    rw [hs]
    refine ⟨u.2.1, u.2.2, hok.2.2, hok.2.1.1, fun w2 hsame hsz => ?_⟩
    have hcell : CellsAt w2 (a.add (((k : Int) - 1).toNat * 2)) [.int .i64 u.1.tag, .slice u.2.1 u.1.binds.length u.2.2] := cells_stab (by rw [add_block]; exact hsame _ hab1) hcell
    have hab1 : a.block < w2.heap.size := Nat.lt_of_lt_of_le hab1 hsz
    have hkx : k ≤ x.alts.length := hka
    refine enter Tryd.func77 rfl Tryd.ntmps77 rfl (Cls.start w2) ?_
    (simp only [argEnv, Nat.zero_add, Nat.reduceAdd])
    simp only [exC, hq]
    apply W.sr
    apply OL.box; rfl; rfl; exact CellsL.agg; (intro bk hbk; simp only [AllLe, and_true] at hbk)
    apply oas; rfl; rfl
    apply OL.nx
    apply W.seq
    apply W.sr
    apply ofa; rfl; rfl; rfl
    apply old; rfl; rfl; exact .head _; rfl; rfl
    apply obn; rfl; rfl; rfl; apply Bin.eql
    apply omv; rfl; rfl
    apply ono; rfl; rfl; rfl; apply Pev.fld; rfl; exact yes; rfl
    apply ono; rfl; rfl; rfl; apply Pev.load_blk; rfl; exact fun h => h; exact .head _; rfl; rfl
    apply ono; rfl; rfl; rfl; apply Pev.bin; rfl; exact fun h => h; rfl; exact yes; intro hcond; apply Bin.eql
    apply oop; rfl; apply Pev.pick_or; rfl; exact yes; rfl; exact fun h => h
    apply omv; rfl; rfl
    apply ono; rfl; rfl; rfl; apply Pev.fld; rfl; exact yes; rfl
    apply ono; rfl; rfl; rfl; apply Pev.load_blk; rfl; exact fun h => h; exact .head _; rfl; rfl
    apply ono; rfl; rfl; rfl; apply Pev.bin; rfl; exact fun h => h; rfl; exact yes; intro hcond; apply Bin.eql
    apply ono; rfl; rfl; rfl; apply Pev.move; rfl; exact fun h => h
    apply OL.op; exact Guard.cyes rfl rfl; rfl; rfl; apply Pev.move; rfl; exact yes
    apply OL.op; exact Guard.cyes rfl rfl; rfl; rfl; apply Pev.bin; rfl; exact fun h => h; rfl; exact yes; intro hcond; apply Bin.eql
    apply ono; rfl; rfl; rfl; apply Pev.pick_and; rfl; exact fun h => h; rfl; exact fun h => h
    apply oop; rfl; apply Pev.pick_or; rfl; exact yes; rfl; exact fun h => h
    apply OL.nx
    refine W.cond rfl (fun hb => by grind) (fun hb => ?_)
    apply W.sk
    apply W.seq
    apply W.sr
    apply ofa; rfl; rfl; rfl
    apply old; rfl; rfl; exact .head _; rfl; rfl
    apply obn; rfl; rfl; rfl; apply Bin.eql
    apply omv; rfl; rfl
    apply ono; rfl; rfl; rfl; apply Pev.fld; rfl; exact yes; rfl
    apply ono; rfl; rfl; rfl; apply Pev.load_blk; rfl; exact fun h => h; exact .head _; rfl; rfl
    apply ono; rfl; rfl; rfl; apply Pev.bin; rfl; exact fun h => h; rfl; exact yes; intro hcond; apply Bin.eql
    apply oop; rfl; apply Pev.pick_or; rfl; exact yes; rfl; exact fun h => h
    apply omv; rfl; rfl
    apply oy; rfl; rfl; rfl; apply Pev.move; rfl; exact yes
    apply oy; rfl; rfl; rfl; apply Pev.bin; rfl; exact fun h => h; rfl; exact yes; intro hcond; apply Bin.gtr
    apply oop; rfl; apply Pev.pick_and; rfl; exact yes; rfl; exact fun h => h
    apply OL.nx
    refine W.cond rfl (fun hb2 => ?_) (fun hb2 => by grind)
    apply W.sr
    apply ofa; rfl; rfl; rfl
    apply old; rfl; rfl; exact .head _; rfl; rfl
    apply omv; rfl; rfl
    apply obn; rfl; rfl; rfl; apply Bin.sub_in; omega
    apply oop; rfl; apply Pev.idxI; rfl; exact yes; rfl; exact yes; rfl; intro hcond; omega
    apply oop; rfl; apply Pev.fldA; rfl; exact yes; rfl
    apply oop; rfl; apply Pev.load_kept; rfl; exact yes; exact .head _; rfl; intro hcond; apply CellsAt.at_ (by assumption) rfl; intro hcond; (simp only [add_block]; assumption); intro hcond; exact NotOwned.au
    apply oas; rfl; rfl
    apply OL.nx
    refine W.rt ?_
    ((with_reducible apply At.fin1); rfl; rfl; intro w' hw')
    exact ⟨rfl, by (exact hw'.fr)⟩
  · have hs : scopeX x k = [] := by
      rw [hs0, if_neg]
      rintro ⟨h1, h2, h3⟩
      by_cases h7 : x.op = 7 ∨ x.op = 13
      · exact hB ⟨h7, h2⟩
      · have := ha h7
        omega
    rw [hs]
    refine ⟨none, 0, IntsO.nil, by simp, fun w2 hsame hsz => ?_⟩
    refine enter Tryd.func77 rfl Tryd.ntmps77 rfl (Cls.start w2) ?_
    (simp only [argEnv, Nat.zero_add, Nat.reduceAdd])
    simp only [exC]
    apply W.sr
    apply OL.box; rfl; rfl; exact CellsL.agg; (intro bk hbk; simp only [AllLe, and_true] at hbk)
    apply oas; rfl; rfl
    apply OL.nx
    apply W.seq
    apply W.sr
    apply ofa; rfl; rfl; rfl
    apply old; rfl; rfl; exact .head _; rfl; rfl
    apply obn; rfl; rfl; rfl; apply Bin.eql
    apply omv; rfl; rfl
    apply ono; rfl; rfl; rfl; apply Pev.fld; rfl; exact yes; rfl
    apply ono; rfl; rfl; rfl; apply Pev.load_blk; rfl; exact fun h => h; exact .head _; rfl; rfl
    apply ono; rfl; rfl; rfl; apply Pev.bin; rfl; exact fun h => h; rfl; exact yes; intro hcond; apply Bin.eql
    apply oop; rfl; apply Pev.pick_or; rfl; exact yes; rfl; exact fun h => h
    apply omv; rfl; rfl
    apply ono; rfl; rfl; rfl; apply Pev.fld; rfl; exact yes; rfl
    apply ono; rfl; rfl; rfl; apply Pev.load_blk; rfl; exact fun h => h; exact .head _; rfl; rfl
    apply ono; rfl; rfl; rfl; apply Pev.bin; rfl; exact fun h => h; rfl; exact yes; intro hcond; apply Bin.eql
    apply ono; rfl; rfl; rfl; apply Pev.move; rfl; exact fun h => h
    apply OL.op; exact Guard.cyes rfl rfl; rfl; rfl; apply Pev.move; rfl; exact yes
    apply OL.op; exact Guard.cyes rfl rfl; rfl; rfl; apply Pev.bin; rfl; exact fun h => h; rfl; exact yes; intro hcond; apply Bin.eql
    apply ono; rfl; rfl; rfl; apply Pev.pick_and; rfl; exact fun h => h; rfl; exact fun h => h
    apply oop; rfl; apply Pev.pick_or; rfl; exact yes; rfl; exact fun h => h
    apply OL.nx
    refine W.cond rfl (fun hb => by grind) (fun hb => ?_)
    apply W.sk
    apply W.seq
    apply W.sr
    apply ofa; rfl; rfl; rfl
    apply old; rfl; rfl; exact .head _; rfl; rfl
    apply obn; rfl; rfl; rfl; apply Bin.eql
    apply omv; rfl; rfl
    apply ono; rfl; rfl; rfl; apply Pev.fld; rfl; exact yes; rfl
    apply ono; rfl; rfl; rfl; apply Pev.load_blk; rfl; exact fun h => h; exact .head _; rfl; rfl
    apply ono; rfl; rfl; rfl; apply Pev.bin; rfl; exact fun h => h; rfl; exact yes; intro hcond; apply Bin.eql
    apply oop; rfl; apply Pev.pick_or; rfl; exact yes; rfl; exact fun h => h
    apply omv; rfl; rfl
    apply oy; rfl; rfl; rfl; apply Pev.move; rfl; exact yes
    apply oy; rfl; rfl; rfl; apply Pev.bin; rfl; exact fun h => h; rfl; exact yes; intro hcond; apply Bin.gtr
    apply oop; rfl; apply Pev.pick_and; rfl; exact yes; rfl; exact fun h => h
    apply OL.nx
    refine W.cond rfl (fun hb2 => by grind) (fun hb2 => ?_)
    apply W.sk
    apply W.sr
    apply oas; rfl; rfl
    apply OL.nx
    apply W.ret
    ((with_reducible apply At.fin1); rfl; rfl; intro w' hw')
    exact ⟨rfl, by (exact hw'.fr)⟩
theorem Binds_calls (x : Ex) (y : ExY) (w : World) (h : ExOk w (low w) x y) (hl : x.binds.length ≤ 16) (hall : x.alts.length ≤ 4096) (hab : ∀ a ∈ x.alts, a.binds.length ≤ 16) :
    Calls Tryd.prog 57 [.agg (exC x y).toArray].toArray w fun e w' => ∃ q c, e = .returned (.slice q (bindersX x).length c) ∧ Ext w w' ∧ IntsO w' (fresh w w') (bindersX x) q ∧ (bindersX x).length ≤ c := by
  obtain ⟨ps, hps, harr⟩ := h.alts
  have hpl : x.alts.length = ps.length := by rw [← hps, List.length_map]
  refine enter Tryd.func57 rfl Tryd.ntmps57 rfl (Cls.start w) ?_
  (simp only [argEnv, Nat.zero_add, Nat.reduceAdd])
  simp only [exC]
  apply W.sr
  apply OL.box; rfl; rfl; exact CellsL.agg; (intro bk hbk; simp only [AllLe, and_true] at hbk)
  apply oas; rfl; rfl
  apply OL.nsr
  apply oas; rfl; rfl
  apply OL.nx
  apply W.seq
  apply W.sr
  apply ofa; rfl; rfl; rfl
  apply old; rfl; rfl; exact .head _; rfl; rfl
  apply obn; rfl; rfl; rfl; apply Bin.eql
  apply omv; rfl; rfl
  apply ono; rfl; rfl; rfl; apply Pev.fld; rfl; exact yes; rfl
  apply ono; rfl; rfl; rfl; apply Pev.load_blk; rfl; exact fun h => h; exact .head _; rfl; rfl
  apply ono; rfl; rfl; rfl; apply Pev.bin; rfl; exact fun h => h; rfl; exact yes; intro hcond; apply Bin.eql
  apply oop; rfl; apply Pev.pick_or; rfl; exact yes; rfl; exact fun h => h
  apply omv; rfl; rfl
  apply ono; rfl; rfl; rfl; apply Pev.fld; rfl; exact yes; rfl
  apply ono; rfl; rfl; rfl; apply Pev.load_blk; rfl; exact fun h => h; exact .head _; rfl; rfl
  apply ono; rfl; rfl; rfl; apply Pev.bin; rfl; exact fun h => h; rfl; exact yes; intro hcond; apply Bin.eql
  apply oop; rfl; apply Pev.pick_or; rfl; exact yes; rfl; exact fun h => h
  apply OL.nx
  refine W.cls (fun w' hw' => hw'.row_nil w.heap.size 3 1) ?_
  refine W.joinx (G := GR) (fun _ => True) (fun g => [(1, true, .pointer (some ⟨bk, 0, none⟩)), (3, true, .slice g.q (if x.op = 2 ∨ x.op = 4 ∨ x.op = 5 then x.binds else []).length g.c)]) (fun g => Cls [row w.heap.size g.O g.q (if x.op = 2 ∨ x.op = 4 ∨ x.op = 5 then x.binds else []).length g.c 3 1 (ints (if x.op = 2 ∨ x.op = 4 ∨ x.op = 5 then x.binds else [])), blk bk 28 [.int .i64 x.op, .int .i64 x.n, .slice y.b.1 x.binds.length y.b.2, .slice y.k.1 x.kids.length y.k.2, .slice y.a.1 x.alts.length y.a.2]] [w]) ?_ ?_
  · refine W.cond rfl (fun hb => ?_) (fun hb => ?_)
    · have hop : x.op = 2 ∨ x.op = 4 ∨ x.op = 5 := by grind
      rw [if_pos hop]
      apply W.reg
      apply omv; rfl; rfl
      apply ofa; rfl; rfl; rfl
      apply old; rfl; rfl; exact .tail _ (.head _); rfl; rfl
      (apply OL.appendK (news := ints x.binds)); rfl; rfl; rfl; rfl; (exact Hole.au); (exact fun w2 hw2 => (h.b.at hw2 (.head _) (fun k hk => by exact NotOwned.au)).slAt); (rw [ints_length, Nat.mul_one]); (exact ints_oneL _); (exact ⟨w, .head _, Nat.le_refl _⟩); (omega); (intro O1 q1 c1)
      simp only [Nat.zero_add, List.nil_append]
      apply oas; rfl; rfl
      apply OL.nil
      exact At.joinedx ⟨O1, q1, c1⟩ trivial (by exact Sub.au) (fun w' hw' => hw')
    · have hop : ¬ (x.op = 2 ∨ x.op = 4 ∨ x.op = 5) := by grind
      rw [if_neg hop]
      apply W.skip
      exact At.joinedx ⟨_, none, 0⟩ trivial (by exact Sub.au) (fun w' hw' => hw')
  rintro ⟨O0, q0, c0⟩ -
  simp only
  have hL0l : (if x.op = 2 ∨ x.op = 4 ∨ x.op = 5 then x.binds else []).length ≤ 16 := by split <;> simp [hl]
  unfold bindersX
  generalize (if x.op = 2 ∨ x.op = 4 ∨ x.op = 5 then x.binds else []) = L0 at *
  have habp : ∀ p ∈ ps, p.1.binds.length ≤ 16 := fun p hp => hab p.1 (by rw [← hps]; exact List.mem_map_of_mem hp)
  have hfl : ∀ i, ((ps.take i).flatMap fun p => p.1.binds).length ≤ 65536 := fun i => by
    have h1 := flat_len (l := x.alts.take i) fun a ha => hab a (List.mem_of_mem_take ha)
    have h3 : (x.alts.take i).flatMap Al.binds = (ps.take i).flatMap fun p => p.1.binds := by
      rw [← hps, ← List.map_take, List.flatMap_map]
    rw [h3] at h1
    simp only [List.length_take] at h1
    omega
  have hall2 : x.alts.flatMap Al.binds = ps.flatMap fun p => p.1.binds := by rw [← hps, List.flatMap_map]
  rw [hall2]
  simp only [hpl] at *
  apply W.seq
  apply W.sr
  apply ofa; rfl; rfl; rfl
  apply old; rfl; rfl; exact .tail _ (.head _); rfl; rfl
  apply oop; rfl; apply Pev.len_slice; rfl; exact yes; rfl
  apply omv; rfl; rfl
  apply OL.nx
  apply W.block
  refine W.loop (G := Nat × GR) (fun g => g.1 ≤ ps.length) (fun g => ps.length - g.1)
    (fun g => [(3, true, .slice g.2.q (L0 ++ (ps.take g.1).flatMap fun p => p.1.binds).length g.2.c), (24, true, .slice y.a.1 ps.length y.a.2), (25, true, .int .i64 (ps.length : Int)), (26, true, .int .i64 (g.1 : Int))])
    (fun g => Cls [row w.heap.size g.2.O g.2.q (L0 ++ (ps.take g.1).flatMap fun p => p.1.binds).length g.2.c 3 1 (ints (L0 ++ (ps.take g.1).flatMap fun p => p.1.binds))] [w]) (0, ⟨O0, q0, c0⟩) (by simp) (by simp only [List.take_zero, List.flatMap_nil, List.append_nil]; exact Sub.au) (fun w' hw' => by simpa using hw'.thin (by exact Thin.au)) ?_
  rintro ⟨i, ⟨O1, q1, c1⟩⟩ hi
  simp only at hi ⊢
  apply W.sr
  apply obn; rfl; rfl; rfl; apply Bin.lss
  apply OL.nx
  apply W.seq
  (refine W.cnd (fun hlt => ?_) (fun hlt => ?_)) <;> (try (exfalso; first | omega | exact hlt trivial | contradiction))
  · have hil : i < ps.length := by omega
    obtain ⟨a, u, hq, hab1, hu, hcell, hok⟩ := harr.get hil
    have hab1 : a.block < w.heap.size := hab1
    have hcell : CellsAt w (a.add (i * 2)) [.int .i64 u.1.tag, .slice u.2.1 u.1.binds.length u.2.2] := hcell
    have hub := habp u (List.mem_of_getElem? hu)
    have hi1 := hfl i
    have hsnoc : (L0 ++ (ps.take (i + 1)).flatMap fun p => p.1.binds) = (L0 ++ (ps.take i).flatMap fun p => p.1.binds) ++ u.1.binds := by
      rw [List.take_add_one, hu]
      simp
    have hll : (L0 ++ (ps.take i).flatMap fun p => p.1.binds).length ≤ 65552 := by rw [List.length_append]; omega
    rw [hq]
    apply W.sk
    apply W.sb
    apply W.sr
    apply oop; rfl; apply Pev.idx; rfl; exact yes; rfl; exact yes; rfl; rfl; intro hcond; omega
    apply oop; rfl; apply Pev.load_keptA; rfl; exact yes; exact .head _; rfl; intro hcond; assumption; rfl; intro hcond; (rw [add_block]; assumption); intro hcond; exact NotOwned.au
    apply OL.alloc; rfl; rfl; exact CellsL.agg; (intro bk hbk; simp only [AllLe, and_true] at hbk)
    apply OL.storeB; rfl; rfl; exact CellsL.agg; rfl; rfl; rfl; exact Swap.au; exact Put.au
    apply OL.nx
    apply W.reg
    apply omv; rfl; rfl
    apply ofa; rfl; rfl; rfl
    apply old; rfl; rfl; exact .head _; rfl; rfl
    (apply OL.appendK (news := ints u.1.binds)); rfl; rfl; rfl; rfl; (exact Hole.au); (exact fun w2 hw2 => (hok.2.2.at hw2 (.head _) (fun k hk => by exact NotOwned.au)).slAt); (rw [ints_length, Nat.mul_one]); (exact ints_oneL _); (exact ⟨w, .head _, Nat.le_refl _⟩); (omega); (intro O2 q2 c2)
    rw [← ints_append, ← hsnoc, ← List.length_append, ← hsnoc]
    apply oas; rfl; rfl
    apply OL.nil
    with_reducible apply At.in_normal
    with_reducible apply At.next
    apply W.reg
    apply obn; rfl; rfl; rfl; apply Bin.add_in; omega
    apply omv; rfl; rfl
    apply OL.nil
    refine At.again (i + 1, ⟨O2, q2, c2⟩) (by simp only; omega) (by simp only; omega) (by exact Sub.au) (fun w' hw' => hw'.thin (by exact Thin.au))
  · obtain rfl : i = ps.length := by omega
    rw [List.take_length]
    refine W.xt ?_
    with_reducible apply At.next
    apply W.sr
    apply omv; rfl; rfl
    apply oas; rfl; rfl
    apply OL.nx
    apply W.ret
    ((with_reducible apply At.fin1); rfl; rfl; intro w' hw')
    exact ⟨_, _, rfl, by (exact hw'.fr), rowInts hw' (.head _) (Nat.le_refl _), row_cap (hw'.item (.head _))⟩
end Go.Proofs.YtlboppiogeaicaaDoor.co

/- The walks of the reference's parentsOf, Depth and binder. Conditions: none. -/
namespace Go.Co
open Go.Eng Go.RowKit
set_option linter.unusedVariables false
set_option linter.unusedSimpArgs false
/-- the list of the parents while it is set to -1 -/
def neg1 (n i : Nat) : List Int := List.replicate i (-1) ++ List.replicate (n - i) 0
theorem neg1_length {n i : Nat} (h : i ≤ n) : (neg1 n i).length = n := by simp [neg1]; omega
theorem neg1_zero (n : Nat) : List.replicate n (Value.int .i64 0) = ints (neg1 n 0) := by simp [neg1, ints]
theorem neg1_end (n : Nat) : neg1 n n = List.replicate n (-1) := by simp [neg1]
theorem neg1_set {n i : Nat} (h : i < n) : (neg1 n i).set i (-1) = neg1 n (i + 1) := by
  refine List.ext_getElem? fun k => ?_
  rw [List.getElem?_set]
  have hl1 := neg1_length (n := n) (i := i) (by omega)
  have hl2 := neg1_length (n := n) (i := i + 1) (by omega)
  by_cases e : i = k
  · subst e
    rw [if_pos rfl, if_pos (by omega)]
    unfold neg1
    rw [List.getElem?_append_left (by simp)]
    simp [List.getElem?_replicate]
  · rw [if_neg e]
    unfold neg1
    by_cases h1 : k < i
    · rw [List.getElem?_append_left (by simpa using h1), List.getElem?_append_left (by simp; omega)]
      simp [List.getElem?_replicate, h1, show k < i + 1 by omega]
    · rw [List.getElem?_append_right (by simp; omega), List.getElem?_append_right (by simp; omega)]
      simp only [List.getElem?_replicate, List.length_replicate]
      by_cases h2 : k < n
      · rw [if_pos (by omega), if_pos (by omega)]
      · rw [if_neg (by omega), if_neg (by omega)]
end Go.Co
namespace Go.Proofs.YtlboppiogeaicaaDoor.co
open Go.RowKit Go.Eng Go.Co
set_option linter.unusedVariables false
set_option linter.unusedSimpArgs false
set_option maxRecDepth 100000
theorem parentsOf_calls (es : List (Ex × ExY)) (q : Option Addr) (cap : Nat) (w : World) (he : Arr exR w (low w) es q) (hlen : es.length ≤ 4096) :
    Calls Tryd.prog 45 [.slice q es.length cap].toArray w fun e w' => ∃ q' n c b, e = .returned (.tuple #[.slice q' n c, .bool b]) ∧ Ext w w' ∧ (b = true ↔ TreeP (es.map Prod.fst)) ∧ (b = true → n = es.length ∧ ∃ P, Parents (es.map Prod.fst) P ∧ IntsO w' (low w') P q') := by
  obtain ⟨e, hee⟩ : ∃ e, es.map Prod.fst = e := ⟨_, rfl⟩
  have hel : e.length = es.length := by rw [← hee, List.length_map]
  rw [hee]
  have hget : ∀ {i : Nat}, i < es.length → ∃ a p, q = some a ∧ a.block < w.heap.size ∧ es[i]? = some p ∧ e[i]? = some p.1 ∧ CellsAt w (a.add (i * 5)) [.int .i64 p.1.op, .int .i64 p.1.n, .slice p.2.b.1 p.1.binds.length p.2.b.2, .slice p.2.k.1 p.1.kids.length p.2.k.2, .slice p.2.a.1 p.1.alts.length p.2.a.2] ∧ ExOk w (low w) p.1 p.2 := fun {i} hi => by
    obtain ⟨a, p, h1, h2, h3, h4, h5⟩ := he.get hi
    exact ⟨a, p, h1, h2, h3, by rw [← hee, List.getElem?_map, h3]; rfl, h4, h5⟩
  refine enter Tryd.func45 rfl Tryd.ntmps45 rfl (Cls.start w) ?_
  (simp only [argEnv, Nat.zero_add, Nat.reduceAdd])
  apply W.sr
  apply oas; rfl; rfl
  apply oas; rfl; rfl
  apply OL.nsr
  apply omv; rfl; rfl
  apply oop; rfl; apply Pev.len_slice; rfl; exact yes; rfl
  apply OL.makeSlice; rfl; rfl; rfl; rfl; rfl; rfl; rfl; omega; (intro bk hbk; simp only [AllLe, and_true] at hbk)
  apply oas; rfl; rfl
  apply OL.nx
  apply W.seq
  apply W.sr
  apply omv; rfl; rfl
  apply oop; rfl; apply Pev.len_slice; rfl; exact yes; rfl
  apply omv; rfl; rfl
  apply OL.nx
  apply W.block
  revert bk
  intro bp hbp
  refine W.loop (G := Nat) (fun i => i ≤ es.length) (fun i => es.length - i)
    (fun i => [(0, true, .slice q es.length cap), (4, true, .slice (some ⟨bp, 0, none⟩) es.length es.length), (15, true, .int .i64 (es.length : Int)), (16, true, .int .i64 (i : Int))])
    (fun i => Cls [blk bp 3 (ints (neg1 es.length i))] [w]) 0 (by omega) (by exact Sub.au) (fun w' hw' => by rw [← neg1_zero]; exact hw') ?_
  rintro i hi
  apply W.sr
  apply obn; rfl; rfl; rfl; apply Bin.lss
  apply OL.nx
  apply W.seq
  (refine W.cnd (fun hlt => ?_) (fun hlt => ?_)) <;> (try (exfalso; first | omega | exact hlt trivial | contradiction))
  · have hil : i < es.length := by omega
    apply W.sk
    apply W.sb
    apply W.sr
    apply omv; rfl; rfl
    apply oas; rfl; rfl
    apply OL.nx
    apply W.reg
    apply omv; rfl; rfl
    apply omv; rfl; rfl
    apply oop; rfl; apply Pev.idxB; rfl; exact yes; rfl; exact yes; rfl; intro hcond; omega; rfl
    (apply OL.storeI); rfl; rfl; rfl; rfl; rfl; (exact Swap.au); (rw [ints_length, neg1_length hi]; omega)
    have hset : (ints (neg1 es.length i)).set (0 + (i : Int).toNat * 1) (.int .i64 (-1)) = ints (neg1 es.length (i + 1)) := by
      rw [show 0 + (i : Int).toNat * 1 = i by simp, ints_set, neg1_set hil]
    rw [hset]
    apply OL.nil
    with_reducible apply At.in_normal
    with_reducible apply At.next
    apply W.reg
    apply obn; rfl; rfl; rfl; apply Bin.add_in; omega
    apply omv; rfl; rfl
    apply OL.nil
    exact At.again (i + 1) (by omega) (by omega) (by exact Sub.au) (fun w' hw' => hw')
  obtain rfl : i = es.length := by omega
  rw [neg1_end]
  refine W.xt ?_
  with_reducible apply At.next
  apply W.seq
  apply W.sr
  apply omv; rfl; rfl
  apply oop; rfl; apply Pev.len_slice; rfl; exact yes; rfl
  apply omv; rfl; rfl
  apply OL.nx
  apply W.block
  refine W.loop (G := Nat × List Int) (fun g => g.1 ≤ es.length ∧ PI e g.2 g.1 0) (fun g => es.length - g.1)
    (fun g => [(0, true, .slice q es.length cap), (4, true, .slice (some ⟨bp, 0, none⟩) es.length es.length), (23, true, .slice q es.length cap), (24, true, .int .i64 (es.length : Int)), (25, true, .int .i64 (g.1 : Int))])
    (fun g => Cls [blk bp 3 (ints g.2)] [w]) (0, List.replicate es.length (-1)) ⟨by simp, by rw [← hel]; exact PI.start e⟩ (by exact Sub.au) (fun w' hw' => hw') ?_
  rintro ⟨i, P⟩ ⟨hi, hP⟩
  simp only at hi hP ⊢
  apply W.sr
  apply obn; rfl; rfl; rfl; apply Bin.lss
  apply OL.nx
  apply W.seq
  (refine W.cnd (fun hlt2 => ?_) (fun hlt2 => ?_)) <;> (try (exfalso; first | omega | exact hlt2 trivial | contradiction))
  · have hil : i < es.length := by omega
    obtain ⟨a, p, rfl, hab, hp, hpe, hcell, hok⟩ := hget hil
    have hkl := hok.kl
    apply W.sk
    apply W.sb
    apply W.sr
    apply omv; rfl; rfl
    apply oop; rfl; apply Pev.idx; rfl; exact yes; rfl; exact yes; rfl; rfl; intro hcond; omega
    apply oop; rfl; apply Pev.load_keptA; rfl; exact yes; exact .head _; rfl; intro hcond; assumption; rfl; intro hcond; (rw [add_block]; assumption); intro hcond; exact NotOwned.au
    apply OL.alloc; rfl; rfl; exact CellsL.agg; (intro bk hbk; simp only [AllLe, and_true] at hbk)
    apply oas; rfl; rfl
    apply OL.storeB; rfl; rfl; exact CellsL.agg; rfl; rfl; rfl; exact Swap.au; exact Put.au
    apply OL.nsr
    apply ofa; rfl; rfl; rfl
    apply old; rfl; rfl; exact .head _; rfl; rfl
    apply oop; rfl; apply Pev.len_slice; rfl; exact yes; rfl
    apply omv; rfl; rfl
    apply OL.nx
    apply W.block
    revert bk
    intro bx hbx
    skip
    refine W.loop (G := Nat × List Int) (fun g => g.1 ≤ p.1.kids.length ∧ PI e g.2 i g.1 ∧ ∀ (m : Nat) (k : Int), m < g.1 → p.1.kids[m]? = some k → 0 ≤ k ∧ k < (i : Int)) (fun g => p.1.kids.length - g.1)
      (fun g => [(0, true, .slice (some a) es.length cap), (4, true, .slice (some ⟨bp, 0, none⟩) es.length es.length), (6, true, .int .i64 (i : Int)), (23, true, .slice (some a) es.length cap), (24, true, .int .i64 (es.length : Int)), (25, true, .int .i64 (i : Int)), (31, true, .slice p.2.k.1 p.1.kids.length p.2.k.2), (32, true, .int .i64 (p.1.kids.length : Int)), (33, true, .int .i64 (g.1 : Int))])
      (fun g => Cls [blk bp 3 (ints g.2)] [w]) (0, P) ⟨by simp, hP, fun m k hm => by simp at hm⟩ (by exact Sub.au) (fun w' hw' => hw'.thin (by exact Thin.au)) ?_
    rintro ⟨j, P2⟩ ⟨hj, hP2, hks⟩
    simp only at hj hP2 hks ⊢
    have hPl : P2.length = es.length := by rw [hP2.len, hel]
    apply W.sr
    apply obn; rfl; rfl; rfl; apply Bin.lss
    apply OL.nx
    apply W.seq
    (refine W.cnd (fun hlt3 => ?_) (fun hlt3 => ?_)) <;> (try (exfalso; first | omega | exact hlt3 trivial | contradiction))
    · have hjl : j < p.1.kids.length := by omega
      obtain ⟨ak, k, hqk, habk, hk, hck⟩ := hok.k.get hjl
      have habk : ak.block < w.heap.size := habk
      rw [hqk]
      apply W.sk
      apply W.sb
      apply W.sr
      apply oop; rfl; apply Pev.idx; rfl; exact yes; rfl; exact yes; rfl; rfl; intro hcond; omega
      apply oop; rfl; apply Pev.load_kept; rfl; exact yes; exact .head _; rfl; intro hcond; assumption; intro hcond; (rw [add_block]; assumption); intro hcond; exact NotOwned.au
      apply oas; rfl; rfl
      apply OL.nx
      apply W.seq
      apply W.sr
      apply omv; rfl; rfl
      apply obn; rfl; rfl; rfl; apply Bin.lss
      apply omv; rfl; rfl
      apply ono; rfl; rfl; rfl; apply Pev.move; rfl; exact yes
      apply ono; rfl; rfl; rfl; apply Pev.move; rfl; exact yes
      apply ono; rfl; rfl; rfl; apply Pev.bin; rfl; exact fun h => h; rfl; exact fun h => h; intro hcond; apply Bin.geq
      apply oop; rfl; apply Pev.pick_or; rfl; exact yes; rfl; exact fun h => h
      apply omv; rfl; rfl
      apply ono; rfl; rfl; rfl; apply Pev.move; rfl; exact yes
      apply ono; rfl; rfl; rfl; apply Pev.move; rfl; exact yes
      by_cases hkr : k < 0 ∨ (i : Int) ≤ k
      · apply OL.gateOff; exact Guard.no rfl rfl; (simp; omega); rfl
        apply OL.gateOff; exact Guard.no rfl rfl; (simp; omega); rfl
        apply OL.gateOff; exact Guard.no rfl rfl; (simp; omega); rfl
        apply oop; rfl; apply Pev.pick_on; rfl; exact yes; (intro hcond; simp; omega); rfl; exact yes
        apply OL.nx
        refine W.cond rfl (fun hb => ?_) (fun hb => by grind)
        apply W.sr
        apply oas; rfl; rfl
        apply oas; rfl; rfl
        apply OL.nx
        refine W.rt ?_
        ((with_reducible apply At.fin2); rfl; rfl; rfl; intro w' hw')
        refine ⟨none, 0, 0, false, rfl, by (exact hw'.fr), ⟨fun h => (by cases h), fun hg => ?_⟩, fun h => (by cases h)⟩
        have := hg.2.1 i _ hpe k (List.mem_of_getElem? hk)
        omega
      · obtain ⟨kn, rfl⟩ : ∃ kn : Nat, k = (kn : Int) := ⟨k.toNat, by omega⟩
        have hki : kn < i := by omega
        obtain ⟨v, hv⟩ : ∃ v, P2[kn]? = some v := ⟨_, List.getElem?_eq_getElem (by omega)⟩
        have hpk : (ints P2)[0 + (kn : Int).toNat * 1]? = some (.int .i64 v) := by
          have h1 := ints_get hv
          simpa using h1
        apply ono; rfl; rfl; rfl; apply Pev.idxB; rfl; exact fun h => h; rfl; exact fun h => h; rfl; intro hcond; omega; rfl
        apply ono; rfl; rfl; rfl; apply Pev.load_blk; rfl; exact fun h => h; exact .head _; rfl; assumption
        apply ono; rfl; rfl; rfl; apply Pev.bin; rfl; exact fun h => h; rfl; exact yes; intro hcond; apply Bin.geq
        apply oop; rfl; apply Pev.pick_or; rfl; exact yes; rfl; exact fun h => h
        apply OL.nx
        refine W.cond rfl (fun hb => ?_) (fun hb => ?_)
        · have hv0 : 0 ≤ v := by grind
          apply W.sr
          apply oas; rfl; rfl
          apply oas; rfl; rfl
          apply OL.nx
          refine W.rt ?_
          ((with_reducible apply At.fin2); rfl; rfl; rfl; intro w' hw')
          refine ⟨none, 0, 0, false, rfl, by (exact hw'.fr), ⟨fun h => (by cases h), fun hg => ?_⟩, fun h => (by cases h)⟩
          exact absurd hg (hP2.twice hpe hk (by omega) (by omega) (by simpa using hv) hv0)
        have hv0 : v < 0 := by grind
        apply W.sk
        apply W.reg
        apply omv; rfl; rfl
        apply omv; rfl; rfl
        apply omv; rfl; rfl
        apply oop; rfl; apply Pev.idxB; rfl; exact yes; rfl; exact yes; rfl; intro hcond; omega; rfl
        (apply OL.storeI); rfl; rfl; rfl; rfl; rfl; (exact Swap.au); (rw [ints_length]; omega)
        have hset : (ints P2).set (0 + (kn : Int).toNat * 1) (.int .i64 (i : Int)) = ints (P2.set kn (i : Int)) := by
          rw [show 0 + (kn : Int).toNat * 1 = kn by simp, ints_set]
        rw [hset]
        apply OL.nil
        with_reducible apply At.in_normal
        with_reducible apply At.next
        apply W.reg
        apply obn; rfl; rfl; rfl; apply Bin.add_in; omega
        apply omv; rfl; rfl
        apply OL.nil
        refine At.again (j + 1, P2.set kn (i : Int)) ⟨by simp only; omega, hP2.step hpe hk (by omega) (by omega) (by simpa using hv) hv0, fun m k2 hm hk2 => ?_⟩ (by simp only; omega) (by exact Sub.au) (fun w' hw' => by first | exact hw' | exact hw'.thin (by exact Thin.au))
        by_cases em : m = j
        · subst em
          rw [hk] at hk2
          obtain rfl := Option.some.inj hk2
          omega
        · exact hks m k2 (by simp only at hm; omega) hk2
    · obtain rfl : j = p.1.kids.length := by omega
      have hkall2 : ∀ k ∈ p.1.kids, 0 ≤ k ∧ k < (i : Int) := fun k hk => by
        obtain ⟨m, hm⟩ := List.getElem?_of_mem hk
        exact hks m k (List.getElem?_eq_some_iff.1 hm).1 hm
      refine W.xt ?_
      with_reducible apply At.in_normal
      with_reducible apply At.next
      apply W.reg
      apply obn; rfl; rfl; rfl; apply Bin.add_in; omega
      apply omv; rfl; rfl
      apply OL.nil
      exact At.again (i + 1, P2) ⟨by simp only; omega, hP2.next hpe hkall2⟩ (by simp only; omega) (by exact Sub.au) (fun w' hw' => hw')
  · obtain rfl : i = es.length := by omega
    have hP' : PI e P e.length 0 := by rw [hel]; exact hP
    have hPl : P.length = es.length := by rw [hP.len, hel]
    refine W.xt ?_
    with_reducible apply At.next
    apply W.seq
    apply W.sr
    apply omv; rfl; rfl
    apply oop; rfl; apply Pev.len_slice; rfl; exact yes; rfl
    apply obn; rfl; rfl; rfl; apply Bin.sub_in; omega
    apply omv; rfl; rfl
    apply OL.nx
    apply W.block
    refine W.loop (G := Nat) (fun i => (i : Int) ≤ max ((es.length : Int) - 1) 0 ∧ ∀ (k : Nat) (v : Int), k < i → P[k]? = some v → 0 ≤ v) (fun i => es.length - i)
      (fun i => [(0, true, .slice q es.length cap), (4, true, .slice (some ⟨bp, 0, none⟩) es.length es.length), (59, true, .int .i64 ((es.length : Int) - 1)), (60, true, .int .i64 (i : Int))])
      (fun _ => Cls [blk bp 3 (ints P)] [w]) 0 ⟨by omega, fun k v hk => by omega⟩ (by exact Sub.au) (fun w' hw' => hw') ?_
    rintro i ⟨hi, hall⟩
    apply W.sr
    apply obn; rfl; rfl; rfl; apply Bin.lss
    apply OL.nx
    apply W.seq
    (refine W.cnd (fun hlt3 => ?_) (fun hlt3 => ?_)) <;> (try (exfalso; first | omega | exact hlt3 trivial | contradiction))
    · have hil : i + 1 < es.length := by omega
      obtain ⟨v, hv⟩ : ∃ v, P[i]? = some v := ⟨_, List.getElem?_eq_getElem (by omega)⟩
      have hpi : (ints P)[0 + (i : Int).toNat * 1]? = some (.int .i64 v) := by
        have h1 := ints_get hv
        simpa using h1
      apply W.sk
      apply W.sb
      apply W.sr
      apply omv; rfl; rfl
      apply oas; rfl; rfl
      apply OL.nsr
      apply omv; rfl; rfl
      apply omv; rfl; rfl
      apply oop; rfl; apply Pev.idxB; rfl; exact yes; rfl; exact yes; rfl; intro hcond; omega; rfl
      apply oop; rfl; apply Pev.load_blk; rfl; exact yes; exact .head _; rfl; assumption
      apply obn; rfl; rfl; rfl; apply Bin.lss
      apply OL.nx
      (refine W.cnd (fun hneg => ?_) (fun hneg => ?_)) <;> (try (exfalso; first | omega | exact hneg trivial | contradiction))
      · apply W.sr
        apply oas; rfl; rfl
        apply oas; rfl; rfl
        apply OL.nx
        refine W.rt ?_
        ((with_reducible apply At.fin2); rfl; rfl; rfl; intro w' hw')
        refine ⟨none, 0, 0, false, rfl, by (exact hw'.fr), ⟨fun h => (by cases h), fun hg => ?_⟩, fun h => (by cases h)⟩
        exact absurd hg (hP'.bad (by omega) hv hneg)
      apply W.skip
      with_reducible apply At.in_normal
      with_reducible apply At.next
      apply W.reg
      apply obn; rfl; rfl; rfl; apply Bin.add_in; omega
      apply omv; rfl; rfl
      apply OL.nil
      refine At.again (i + 1) ⟨by omega, fun k u hk hu => ?_⟩ (by omega) (by exact Sub.au) (fun w' hw' => hw')
      by_cases em : k = i
      · subst em
        rw [hv] at hu
        obtain rfl := Option.some.inj hu
        omega
      · exact hall k u (by omega) hu
    · refine W.xt ?_
      with_reducible apply At.next
      apply W.sr
      apply omv; rfl; rfl
      apply omv; rfl; rfl
      apply oop; rfl; apply Pev.len_slice; rfl; exact yes; rfl
      apply obn; rfl; rfl; rfl; apply Bin.gtr
      apply oas; rfl; rfl
      apply oas; rfl; rfl
      apply OL.nx
      apply W.ret
      ((with_reducible apply At.fin2); rfl; rfl; rfl; intro w' hw')
      have hgood : 0 < es.length → TreeP e := fun h0 => hP'.good (by omega) fun k v hk hv => hall k v (by omega) hv
      refine ⟨some ⟨bp, 0, none⟩, es.length, es.length, _, rfl, by (exact hw'.fr), ⟨fun h => hgood (by have := of_decide_eq_true h; omega), fun hg => decide_eq_true (by have := hg.1; omega)⟩, fun h => ⟨rfl, P, hP'.parents (hgood (by have := of_decide_eq_true h; omega)), fun hl => ?_⟩⟩
      have hb : (blk bp 3 (ints P)).holds w' := hw'.item (.head _)
      refine ⟨⟨bp, 0, none⟩, rfl, blk_lt hb, fun j v hj => ?_⟩
      rw [add_mid, blk_cell hb, Nat.zero_add]
      exact hj
end Go.Proofs.YtlboppiogeaicaaDoor.co

/- The walks of the reference's goodForm and goodKids. Conditions: none. (Printed by crc.py.) The walks of the reference's Depth and binder. Conditions: none. The walks of the reference's BodyFault and Fault. Conditions: none. -/
namespace Go.Proofs.YtlboppiogeaicaaDoor.co
open Go.RowKit Go.Eng Go.Co
set_option linter.unusedVariables false
set_option linter.unusedSimpArgs false
set_option maxRecDepth 100000
theorem goodForm_calls (es : List (Ex × ExY)) (q : Option Addr) (cap : Nat) (x : Ex) (y : ExY) (flat : Bool) (w : World) (h : ExOk w (low w) x y) :
    Calls Tryd.prog 72 [.slice q es.length cap, .agg (exC x y).toArray, .bool flat].toArray w fun e w' => e = .returned (.bool (!flatBad flat x.op && formR x)) ∧ Ext w w' := by
  have hal := h.al
  have hkl := h.kl
  have hbl := h.bl
  refine enter Tryd.func72 rfl Tryd.ntmps72 rfl (Cls.start w) ?_
  (simp only [argEnv, Nat.zero_add, Nat.reduceAdd])
  simp only [exC]
  apply W.sr
  apply OL.box; rfl; rfl; exact CellsL.agg; (intro bk hbk; simp only [AllLe, and_true] at hbk)
  apply oas; rfl; rfl
  apply OL.nsr
  apply ofa; rfl; rfl; rfl
  apply old; rfl; rfl; exact .head _; rfl; rfl
  apply obn; rfl; rfl; rfl; apply Bin.eql
  apply omv; rfl; rfl
  apply ono; rfl; rfl; rfl; apply Pev.fld; rfl; exact yes; rfl
  apply ono; rfl; rfl; rfl; apply Pev.load_blk; rfl; exact fun h => h; exact .head _; rfl; rfl
  apply ono; rfl; rfl; rfl; apply Pev.bin; rfl; exact fun h => h; rfl; exact yes; intro hcond; apply Bin.eql
  apply oop; rfl; apply Pev.pick_or; rfl; exact yes; rfl; exact fun h => h
  apply omv; rfl; rfl
  apply ono; rfl; rfl; rfl; apply Pev.fld; rfl; exact yes; rfl
  apply ono; rfl; rfl; rfl; apply Pev.load_blk; rfl; exact fun h => h; exact .head _; rfl; rfl
  apply ono; rfl; rfl; rfl; apply Pev.bin; rfl; exact fun h => h; rfl; exact yes; intro hcond; apply Bin.eql
  apply oop; rfl; apply Pev.pick_or; rfl; exact yes; rfl; exact fun h => h
  apply oas; rfl; rfl
  apply OL.nsr
  apply ofa; rfl; rfl; rfl
  apply old; rfl; rfl; exact .head _; rfl; rfl
  apply obn; rfl; rfl; rfl; apply Bin.eql
  apply omv; rfl; rfl
  apply ono; rfl; rfl; rfl; apply Pev.fld; rfl; exact yes; rfl
  apply ono; rfl; rfl; rfl; apply Pev.load_blk; rfl; exact fun h => h; exact .head _; rfl; rfl
  apply ono; rfl; rfl; rfl; apply Pev.bin; rfl; exact fun h => h; rfl; exact yes; intro hcond; apply Bin.eql
  apply oop; rfl; apply Pev.pick_or; rfl; exact yes; rfl; exact fun h => h
  apply omv; rfl; rfl
  apply ono; rfl; rfl; rfl; apply Pev.fld; rfl; exact yes; rfl
  apply ono; rfl; rfl; rfl; apply Pev.load_blk; rfl; exact fun h => h; exact .head _; rfl; rfl
  apply ono; rfl; rfl; rfl; apply Pev.bin; rfl; exact fun h => h; rfl; exact yes; intro hcond; apply Bin.eql
  apply oop; rfl; apply Pev.pick_or; rfl; exact yes; rfl; exact fun h => h
  apply omv; rfl; rfl
  apply ono; rfl; rfl; rfl; apply Pev.fld; rfl; exact yes; rfl
  apply ono; rfl; rfl; rfl; apply Pev.load_blk; rfl; exact fun h => h; exact .head _; rfl; rfl
  apply ono; rfl; rfl; rfl; apply Pev.bin; rfl; exact fun h => h; rfl; exact yes; intro hcond; apply Bin.eql
  apply oop; rfl; apply Pev.pick_or; rfl; exact yes; rfl; exact fun h => h
  apply oas; rfl; rfl
  apply OL.nsr
  apply oop; rfl; apply Pev.load_blkA; rfl; exact yes; exact .head _; rfl; exact Take.au
  (((first | (with_reducible apply OL.op) | (with_reducible apply QL.op)); (exact Guard.au); rfl; rfl); (exact Pev.call rfl (by exact Args.au) (fun _ w2 hw2 => (kidsOf_calls x y w2 (h.at hw2 (by exact mau) (fun k hk => by exact NotOwned.au))).mono (fun e w3 h => ⟨h.1, hw2.ext h.2⟩))))
  apply omv; rfl; rfl
  apply oex; rfl; rfl; rfl
  apply oex; rfl; rfl; rfl
  apply oas; rfl; rfl
  apply oas; rfl; rfl
  apply OL.nx
  apply W.seq
  apply W.sr
  apply omv; rfl; rfl
  apply omv; rfl; rfl
  apply oy; rfl; rfl; rfl; apply Pev.move; rfl; exact yes
  apply oy; rfl; rfl; rfl; apply Pev.not; rfl; exact fun h => h
  apply oop; rfl; apply Pev.pick_and; rfl; exact yes; rfl; exact fun h => h
  apply omv; rfl; rfl
  apply ono; rfl; rfl; rfl; apply Pev.move; rfl; exact yes
  apply ono; rfl; rfl; rfl; apply Pev.move; rfl; exact fun h => h
  apply OL.op; exact Guard.cyes rfl rfl; rfl; rfl; apply Pev.move; rfl; exact yes
  apply ono; rfl; rfl; rfl; apply Pev.pick_and; rfl; exact fun h => h; rfl; exact fun h => h
  apply oop; rfl; apply Pev.pick_or; rfl; exact yes; rfl; exact fun h => h
  apply omv; rfl; rfl
  apply ono; rfl; rfl; rfl; apply Pev.move; rfl; exact yes
  apply ono; rfl; rfl; rfl; apply Pev.fld; rfl; exact yes; rfl
  apply ono; rfl; rfl; rfl; apply Pev.load_blk; rfl; exact fun h => h; exact .head _; rfl; rfl
  apply ono; rfl; rfl; rfl; apply Pev.len_slice; rfl; exact fun h => h; rfl
  apply ono; rfl; rfl; rfl; apply Pev.bin; rfl; exact fun h => h; rfl; exact fun h => h; intro hcond; apply Bin.neq
  apply oop; rfl; apply Pev.pick_or; rfl; exact yes; rfl; exact fun h => h
  apply omv; rfl; rfl
  apply ono; rfl; rfl; rfl; apply Pev.move; rfl; exact yes
  apply ono; rfl; rfl; rfl; apply Pev.not; rfl; exact fun h => h
  apply ono; rfl; rfl; rfl; apply Pev.move; rfl; exact fun h => h
  apply OL.op; exact Guard.cyes rfl rfl; rfl; rfl; apply Pev.fld; rfl; exact yes; rfl
  apply OL.op; exact Guard.cyes rfl rfl; rfl; rfl; apply Pev.load_blk; rfl; exact fun h => h; exact .head _; rfl; rfl
  apply OL.op; exact Guard.cyes rfl rfl; rfl; rfl; apply Pev.bin; rfl; exact fun h => h; rfl; exact yes; intro hcond; apply Bin.neq
  apply ono; rfl; rfl; rfl; apply Pev.pick_and; rfl; exact fun h => h; rfl; exact fun h => h
  apply oop; rfl; apply Pev.pick_or; rfl; exact yes; rfl; exact fun h => h
  apply omv; rfl; rfl
  apply ono; rfl; rfl; rfl; apply Pev.load_blkA; rfl; exact yes; exact .head _; rfl; exact Take.au
  (((first | (with_reducible apply OL.op) | (with_reducible apply QL.op)); (exact Guard.au); rfl; rfl); (exact Pev.call rfl (by exact Args.au) (fun _ w2 hw2 => (goodAlts_calls x y w2 (h.at hw2 (by exact mau) (fun k hk => by exact NotOwned.au))).mono (fun e w3 h => ⟨h.1, hw2.ext h.2⟩))))
  have hflat : flatBad flat x.op = (flat && (decide (x.op = 2) || decide (x.op = 5) || decide (x.op = 12) || decide (x.op = 13)) || !flat && (decide (x.op = 14) || decide (x.op = 15) || decide (x.op = 16))) := rfl
  have hform : formR x = (decide ((kidsR x).1 = (x.kids.length : Int)) && ((kidsR x).2 || decide (x.n = 0)) && altsR x && bindsR x) := rfl
  generalize kidsR x = kr at *
  obtain ⟨kn, ku⟩ := kr
  generalize altsR x = ar at *
  apply ono; rfl; rfl; rfl; apply Pev.not; rfl; exact fun h => h
  apply oop; rfl; apply Pev.pick_or; rfl; exact yes; rfl; exact fun h => h
  apply OL.nx
  refine W.cond rfl (fun hb => ?_) (fun hb => ?_)
  · apply W.sr
    apply oas; rfl; rfl
    apply OL.nx
    refine W.rt ?_
    ((with_reducible apply At.fin1); rfl; rfl; intro w' hw')
    refine ⟨congrArg (fun b => Ending.returned (Value.bool b)) ?_, by (exact hw'.fr)⟩
    rw [hflat, hform]
    cases flat <;> cases ku <;> cases ar <;> simp only [Bool.and_eq_true, Bool.and_eq_false_iff, Bool.or_eq_false_iff, Bool.not_eq_true', Bool.not_eq_false', decide_eq_true_eq, decide_eq_false_iff_not, Bool.or_eq_true, Bool.not_eq_true] at hb ⊢ <;> simp at hb ⊢ <;> grind
  have hrest : (!flatBad flat x.op && formR x) = bindsR x := by
    rw [hflat, hform]
    cases flat <;> cases ku <;> cases ar <;> simp only [Bool.and_eq_true, Bool.and_eq_false_iff, Bool.or_eq_false_iff, Bool.not_eq_true', Bool.not_eq_false', decide_eq_true_eq, decide_eq_false_iff_not, Bool.or_eq_true, Bool.not_eq_true] at hb <;> simp at hb ⊢ <;> grind
  rw [hrest]
  clear hrest hform hflat hb
  apply W.sk
  apply W.seq
  apply W.sr
  apply ofa; rfl; rfl; rfl
  apply old; rfl; rfl; exact .head _; rfl; rfl
  apply OL.nx
  apply W.block
  apply W.seq
  apply W.sr
  apply obn; rfl; rfl; rfl; apply Bin.eql
  apply oas; rfl; rfl
  apply OL.nx
  (refine W.cnd (fun c1 => ?_) (fun c1 => ?_)) <;> (try (exfalso; first | omega | exact c1 trivial | contradiction))
  · apply W.sk
    (refine W.cnd (fun c1b => ?_) (fun c1b => ?_)) <;> (try (exfalso; first | omega | exact c1b trivial | contradiction))
    apply W.sr
    apply oas; rfl; rfl
    apply OL.nx
    refine W.rt ?_
    ((with_reducible apply At.fin1); rfl; rfl; intro w' hw')
    exact ⟨by unfold bindsR; rw [if_pos (by omega)], by (exact hw'.fr)⟩
  apply W.reg
  apply obn; rfl; rfl; rfl; apply Bin.eql
  apply oas; rfl; rfl
  apply OL.nx
  (refine W.cnd (fun c2 => ?_) (fun c2 => ?_)) <;> (try (exfalso; first | omega | exact c2 trivial | contradiction))
  · apply W.sr
    apply oas; rfl; rfl
    apply OL.nx
    refine W.rt ?_
    ((with_reducible apply At.fin1); rfl; rfl; intro w' hw')
    exact ⟨by unfold bindsR; rw [if_pos (by omega)], by (exact hw'.fr)⟩
  apply W.sr
  apply obn; rfl; rfl; rfl; apply Bin.eql
  apply oas; rfl; rfl
  apply OL.nx
  (refine W.cnd (fun c3 => ?_) (fun c3 => ?_)) <;> (try (exfalso; first | omega | exact c3 trivial | contradiction))
  · apply W.sr
    apply ofa; rfl; rfl; rfl
    apply old; rfl; rfl; exact .head _; rfl; rfl
    apply oop; rfl; apply Pev.len_slice; rfl; exact yes; rfl
    apply obn; rfl; rfl; rfl; apply Bin.eql
    apply oas; rfl; rfl
    apply OL.nx
    refine W.rt ?_
    ((with_reducible apply At.fin1); rfl; rfl; intro w' hw')
    refine ⟨congrArg (fun b => Ending.returned (Value.bool b)) ?_, by (exact hw'.fr)⟩
    unfold bindsR
    rw [if_neg (by omega), if_pos (by omega)]
    grind
  apply W.sr
  apply obn; rfl; rfl; rfl; apply Bin.eql
  apply oas; rfl; rfl
  apply OL.nx
  (refine W.cnd (fun c4 => ?_) (fun c4 => ?_)) <;> (try (exfalso; first | omega | exact c4 trivial | contradiction))
  · apply W.sr
    apply ofa; rfl; rfl; rfl
    apply old; rfl; rfl; exact .head _; rfl; rfl
    apply oop; rfl; apply Pev.len_slice; rfl; exact yes; rfl
    apply obn; rfl; rfl; rfl; apply Bin.gtr
    apply oas; rfl; rfl
    apply OL.nx
    refine W.rt ?_
    ((with_reducible apply At.fin1); rfl; rfl; intro w' hw')
    refine ⟨congrArg (fun b => Ending.returned (Value.bool b)) ?_, by (exact hw'.fr)⟩
    unfold bindsR
    rw [if_neg (by omega), if_neg (by omega), if_pos (by omega)]
    grind
  apply W.skip
  with_reducible apply At.in_normal
  with_reducible apply At.next
  apply W.sr
  apply ofa; rfl; rfl; rfl
  apply old; rfl; rfl; exact .head _; rfl; rfl
  apply oop; rfl; apply Pev.len_slice; rfl; exact yes; rfl
  apply obn; rfl; rfl; rfl; apply Bin.eql
  apply oas; rfl; rfl
  apply OL.nx
  apply W.ret
  ((with_reducible apply At.fin1); rfl; rfl; intro w' hw')
  refine ⟨congrArg (fun b => Ending.returned (Value.bool b)) ?_, by (exact hw'.fr)⟩
  unfold bindsR
  rw [if_neg (by omega), if_neg (by omega), if_neg (by omega)]
  grind
theorem goodKids_calls (es : List (Ex × ExY)) (q : Option Addr) (cap : Nat) (x : Ex) (y : ExY) (w : World) (h : ExOk w (low w) x y) (he : Arr exR w (low w) es q) (hlen : es.length ≤ 4096) (hkd : ∀ k ∈ x.kids, 0 ≤ k ∧ k < (es.length : Int)) (hk5 : x.op = 5 → x.kids.length = x.binds.length + 1) :
    Calls Tryd.prog 74 [.slice q es.length cap, .agg (exC x y).toArray].toArray w fun e w' => e = .returned (.bool (kidsB (es.map Prod.fst) x)) ∧ Ext w w' := by
  have hal := h.al
  have hkl := h.kl
  have hbl := h.bl
  refine enter Tryd.func74 rfl Tryd.ntmps74 rfl (Cls.start w) ?_
  (simp only [argEnv, Nat.zero_add, Nat.reduceAdd])
  simp only [exC]
  apply W.sr
  apply OL.box; rfl; rfl; exact CellsL.agg; (intro bk hbk; simp only [AllLe, and_true] at hbk)
  apply oas; rfl; rfl
  apply OL.nx
  apply W.seq
  apply W.sr
  apply ofa; rfl; rfl; rfl
  apply old; rfl; rfl; exact .head _; rfl; rfl
  apply oop; rfl; apply Pev.len_slice; rfl; exact yes; rfl
  apply omv; rfl; rfl
  apply OL.nx
  apply W.block
  refine W.loop (G := Nat) (fun i => i ≤ x.binds.length ∧ ∀ j, j < i → bindOk (es.map Prod.fst) x j = true) (fun i => x.binds.length - i)
    (fun i => [(0, true, .slice q es.length cap), (3, true, .pointer (some ⟨bk, 0, none⟩)), (8, true, .int .i64 (x.binds.length : Int)), (9, true, .int .i64 (i : Int))])
    (fun _ => Cls [blk bk 28 [.int .i64 x.op, .int .i64 x.n, .slice y.b.1 x.binds.length y.b.2, .slice y.k.1 x.kids.length y.k.2, .slice y.a.1 x.alts.length y.a.2]] [w]) 0 ⟨by omega, fun j hj => by omega⟩ (by exact Sub.au) (fun w' hw' => hw') ?_
  rintro i ⟨hi, hall⟩
  apply W.sr
  apply obn; rfl; rfl; rfl; apply Bin.lss
  apply OL.nx
  apply W.seq
  (refine W.cnd (fun hlt => ?_) (fun hlt => ?_)) <;> (try (exfalso; first | omega | exact hlt trivial | contradiction))
  · have hil : i < x.binds.length := by omega
    have hbad : bindOk (es.map Prod.fst) x i = false → kidsB (es.map Prod.fst) x = false := fun hf => not_all_range hil hf
    have hagain : bindOk (es.map Prod.fst) x i = true → ∀ j, j < i + 1 → bindOk (es.map Prod.fst) x j = true := fun hf j hj => by
      by_cases e : j = i
      · rw [e]; exact hf
      · exact hall j (by omega)
    by_cases h5 : x.op = 5
    · have hkl5 := hk5 h5
      obtain ⟨ak, kv, hqk, habk, hkv, hck⟩ := h.k.get (i := i) (by omega)
      have habk : ak.block < w.heap.size := habk
      have hkr := hkd kv (List.mem_of_getElem? hkv)
      obtain ⟨ae, p, hqe, habe, hp, hcell, hok⟩ := he.get (i := kv.toNat) (by omega)
      have habe : ae.block < w.heap.size := habe
      have hcell : CellsAt w (ae.add (kv.toNat * 5)) [.int .i64 p.1.op, .int .i64 p.1.n, .slice p.2.b.1 p.1.binds.length p.2.b.2, .slice p.2.k.1 p.1.kids.length p.2.k.2, .slice p.2.a.1 p.1.alts.length p.2.a.2] := hcell
      have hbk : bindOk (es.map Prod.fst) x i = decide (p.1.op = 2) := by
        have e1 : x.kids.getD i 0 = kv := by simp [List.getD, hkv]
        have e2 : (es.map Prod.fst).getD kv.toNat ⟨0, 0, [], [], []⟩ = p.1 := by simp [List.getD, hp]
        unfold bindOk
        rw [e1, e2]
        grind
      rw [hqk, hqe]
      apply W.sk
      apply W.sb
      apply W.sr
      apply omv; rfl; rfl
      apply oas; rfl; rfl
      apply OL.nx
      apply W.seq
      apply W.regd0; decide +kernel; kernel_rfl; decide +kernel; exact fun w hw => hw.drew
      apply qfa; rfl; rfl; rfl
      apply qld; rfl; rfl; exact .head _; rfl; rfl
      apply qbn; rfl; rfl; rfl; apply Bin.eql
      apply qmv; rfl; rfl
      apply qy; rfl; rfl; rfl; apply Pev.move; rfl; exact yes
      apply qy; rfl; rfl; rfl; apply Pev.fld; rfl; exact yes; rfl
      apply qy; rfl; rfl; rfl; apply Pev.load_blk; rfl; exact fun h => h; exact .head _; rfl; rfl
      apply qy; rfl; rfl; rfl; apply Pev.move; rfl; exact yes
      apply qy; rfl; rfl; rfl; apply Pev.idx; rfl; exact fun h => h; rfl; exact fun h => h; rfl; rfl; intro hcond; omega
      apply qy; rfl; rfl; rfl; apply Pev.load_kept; rfl; exact fun h => h; exact .head _; rfl; intro hcond; assumption; intro hcond; (rw [add_block]; assumption); intro hcond; exact NotOwned.au
      apply qy; rfl; rfl; rfl; apply Pev.idxI; rfl; exact fun h => h; rfl; exact fun h => h; rfl; intro hcond; omega
      apply qy; rfl; rfl; rfl; apply Pev.fldA; rfl; exact fun h => h; rfl
      apply qy; rfl; rfl; rfl; apply Pev.load_kept; rfl; exact fun h => h; exact .head _; rfl; intro hcond; apply CellsAt.at_ (by assumption) rfl; intro hcond; (simp only [add_block]; assumption); intro hcond; exact NotOwned.au
      apply qy; rfl; rfl; rfl; apply Pev.bin; rfl; exact fun h => h; rfl; exact yes; intro hcond; apply Bin.neq
      apply qop; rfl; apply Pev.pick_and; rfl; exact yes; rfl; exact fun h => h
      apply qmv; rfl; rfl
      apply qno; rfl; rfl; rfl; apply Pev.fld; rfl; exact yes; rfl
      apply qno; rfl; rfl; rfl; apply Pev.load_blk; rfl; exact fun h => h; exact .head _; rfl; rfl
      apply qno; rfl; rfl; rfl; apply Pev.bin; rfl; exact fun h => h; rfl; exact yes; intro hcond; apply Bin.eql
      apply qno; rfl; rfl; rfl; apply Pev.move; rfl; exact fun h => h
      apply QL.op; exact Guard.cyes rfl rfl; rfl; rfl; apply Pev.move; rfl; exact yes
      apply QL.op; exact Guard.cyes rfl rfl; rfl; rfl; apply Pev.bin; rfl; exact fun h => h; rfl; exact yes; intro hcond; apply Bin.gtr
      apply qno; rfl; rfl; rfl; apply Pev.pick_and; rfl; exact fun h => h; rfl; exact fun h => h
      apply qno; rfl; rfl; rfl; apply Pev.move; rfl; exact fun h => h
      apply QL.op; exact Guard.cyes rfl rfl; rfl; rfl; apply Pev.fld; rfl; exact yes; rfl
      apply QL.op; exact Guard.cyes rfl rfl; rfl; rfl; apply Pev.load_blk; rfl; exact fun h => h; exact .head _; rfl; rfl
      apply QL.op; exact Guard.cyes rfl rfl; rfl; rfl; apply Pev.move; rfl; exact yes
      apply QL.gateOff; exact Guard.cyes rfl rfl; (simp; omega); rfl
      apply QL.gateOff; exact Guard.cyes rfl rfl; (simp; omega); rfl
      apply QL.op; exact Guard.cyes rfl rfl; rfl; rfl; apply Pev.fld; rfl; exact yes; rfl
      apply QL.op; exact Guard.cyes rfl rfl; rfl; rfl; apply Pev.load_blk; rfl; exact fun h => h; exact .head _; rfl; rfl
      apply QL.op; exact Guard.cyes rfl rfl; rfl; rfl; apply Pev.move; rfl; exact yes
      apply QL.op; exact Guard.cyes rfl rfl; rfl; rfl; apply Pev.bin; rfl; exact fun h => h; rfl; exact yes; intro hcond; apply Bin.sub_in; omega
      apply QL.gateOff; exact Guard.cyes rfl rfl; (simp; omega); rfl
      apply QL.gateOff; exact Guard.cyes rfl rfl; (simp; omega); rfl
      apply QL.gateOff; exact Guard.cyes rfl rfl; (simp; omega); rfl
      apply qno; rfl; rfl; rfl; apply Pev.pick_off; rfl; exact fun h => h; (intro hcond; simp; omega); rfl; exact yes
      apply qop; rfl; apply Pev.pick_or; rfl; exact yes; rfl; exact fun h => h
      apply QL.nil
      with_reducible apply At.next
      refine W.cond rfl (fun hb => ?_) (fun hb => ?_)
      · apply W.sr
        apply oas; rfl; rfl
        apply OL.nx
        refine W.rt ?_
        ((with_reducible apply At.fin1); rfl; rfl; intro w' hw')
        exact ⟨by rw [hbad (by rw [hbk]; grind)], by (exact hw'.fr)⟩
      · apply W.skip
        with_reducible apply At.in_normal
        with_reducible apply At.next
        apply W.reg
        apply obn; rfl; rfl; rfl; apply Bin.add_in; omega
        apply omv; rfl; rfl
        apply OL.nil
        exact At.again (i + 1) ⟨by omega, hagain (by first | exact hbk | (rw [hbk]; grind))⟩ (by omega) (by exact Sub.au) (fun w' hw' => hw')
    · by_cases h9 : x.op = 9
      · obtain ⟨ab, vi, hqb, habb, hvi, hci⟩ := h.b.get hil
        have habb : ab.block < w.heap.size := habb
        have e1 : x.binds.getD i 0 = vi := by simp [List.getD, hvi]
        by_cases hi0 : i = 0
        · subst hi0
          have hbk : bindOk (es.map Prod.fst) x 0 = true := by unfold bindOk; grind
          apply W.sk
          apply W.sb
          apply W.sr
          apply omv; rfl; rfl
          apply oas; rfl; rfl
          apply OL.nx
          apply W.seq
          apply W.regd0; decide +kernel; kernel_rfl; decide +kernel; exact fun w hw => hw.drew
          apply qfa; rfl; rfl; rfl
          apply qld; rfl; rfl; exact .head _; rfl; rfl
          apply qbn; rfl; rfl; rfl; apply Bin.eql
          apply qmv; rfl; rfl
          apply qy; rfl; rfl; rfl; apply Pev.move; rfl; exact yes
          apply qy; rfl; rfl; rfl; apply Pev.fld; rfl; exact yes; rfl
          apply qy; rfl; rfl; rfl; apply Pev.load_blk; rfl; exact fun h => h; exact .head _; rfl; rfl
          apply qy; rfl; rfl; rfl; apply Pev.move; rfl; exact yes
          apply QL.gateOff; exact Guard.yes rfl rfl; (simp; omega); rfl
          apply QL.gateOff; exact Guard.yes rfl rfl; (simp; omega); rfl
          apply QL.gateOff; exact Guard.yes rfl rfl; (simp; omega); rfl
          apply QL.gateOff; exact Guard.yes rfl rfl; (simp; omega); rfl
          apply QL.gateOff; exact Guard.yes rfl rfl; (simp; omega); rfl
          apply QL.gateOff; exact Guard.yes rfl rfl; (simp; omega); rfl
          apply qop; rfl; apply Pev.pick_off; rfl; exact yes; (intro hcond; simp; omega); rfl; exact yes
          apply qmv; rfl; rfl
          apply qno; rfl; rfl; rfl; apply Pev.fld; rfl; exact yes; rfl
          apply qno; rfl; rfl; rfl; apply Pev.load_blk; rfl; exact yes; exact .head _; rfl; rfl
          apply qno; rfl; rfl; rfl; apply Pev.bin; rfl; exact yes; rfl; exact yes; intro hcond; apply Bin.eql
          apply qno; rfl; rfl; rfl; apply Pev.move; rfl; exact yes
          apply qy; rfl; rfl; rfl; apply Pev.move; rfl; exact yes
          apply qy; rfl; rfl; rfl; apply Pev.bin; rfl; exact fun h => h; rfl; exact yes; intro hcond; apply Bin.gtr
          apply qno; rfl; rfl; rfl; apply Pev.pick_and; rfl; exact yes; rfl; exact fun h => h
          apply qno; rfl; rfl; rfl; apply Pev.move; rfl; exact yes
          apply qy; rfl; rfl; rfl; apply Pev.fld; rfl; exact yes; rfl
          apply qy; rfl; rfl; rfl; apply Pev.load_blk; rfl; exact fun h => h; exact .head _; rfl; rfl
          apply qy; rfl; rfl; rfl; apply Pev.move; rfl; exact yes
          apply QL.gateOff; exact Guard.yes rfl rfl; (focus (simp; done)); rfl
          apply QL.gateOff; exact Guard.yes rfl rfl; (focus (simp; done)); rfl
          apply qy; rfl; rfl; rfl; apply Pev.fld; rfl; exact yes; rfl
          apply qy; rfl; rfl; rfl; apply Pev.load_blk; rfl; exact fun h => h; exact .head _; rfl; rfl
          apply qy; rfl; rfl; rfl; apply Pev.move; rfl; exact yes
          apply qy; rfl; rfl; rfl; apply Pev.bin; rfl; exact fun h => h; rfl; exact yes; intro hcond; apply Bin.sub_in; omega
          apply QL.gateOff; exact Guard.yes rfl rfl; (focus (simp; done)); rfl
          apply QL.gateOff; exact Guard.yes rfl rfl; (focus (simp; done)); rfl
          apply QL.gateOff; exact Guard.yes rfl rfl; (focus (simp; done)); rfl
          apply qno; rfl; rfl; rfl; apply Pev.pick_off; rfl; exact yes; (focus (intro hcond; simp; done)); rfl; exact yes
          apply qop; rfl; apply Pev.pick_or; rfl; exact yes; rfl; exact yes
          apply QL.nil
          with_reducible apply At.next
          refine W.cond rfl (fun hb => ?_) (fun hb => ?_)
          · apply W.sr
            apply oas; rfl; rfl
            apply OL.nx
            refine W.rt ?_
            ((with_reducible apply At.fin1); rfl; rfl; intro w' hw')
            exact ⟨by rw [hbad (by rw [hbk]; grind)], by (exact hw'.fr)⟩
          · apply W.skip
            with_reducible apply At.in_normal
            with_reducible apply At.next
            apply W.reg
            apply obn; rfl; rfl; rfl; apply Bin.add_in; omega
            apply omv; rfl; rfl
            apply OL.nil
            exact At.again (0 + 1) ⟨by omega, hagain (by first | exact hbk | (rw [hbk]; grind))⟩ (by omega) (by exact Sub.au) (fun w' hw' => hw')
        · obtain ⟨ab2, vm, hqb2, _, hvm, hcm⟩ := h.b.get (i := i - 1) (by omega)
          rw [hqb] at hqb2
          obtain rfl := Option.some.inj hqb2
          have e2 : x.binds.getD (i - 1) 0 = vm := by simp [List.getD, hvm]
          have hbk : bindOk (es.map Prod.fst) x i = decide (vm < vi) := by
            unfold bindOk
            rw [e1, e2]
            grind
          have hcm : w.cell? (ab.add (((i : Int) - 1).toNat * 1)) = some (.int .i64 vm) := by rw [show ((i : Int) - 1).toNat = i - 1 by omega]; exact hcm
          rw [hqb]
          apply W.sk
          apply W.sb
          apply W.sr
          apply omv; rfl; rfl
          apply oas; rfl; rfl
          apply OL.nx
          apply W.seq
          apply W.regd0; decide +kernel; kernel_rfl; decide +kernel; exact fun w hw => hw.drew
          apply qfa; rfl; rfl; rfl
          apply qld; rfl; rfl; exact .head _; rfl; rfl
          apply qbn; rfl; rfl; rfl; apply Bin.eql
          apply qmv; rfl; rfl
          apply qy; rfl; rfl; rfl; apply Pev.move; rfl; exact yes
          apply qy; rfl; rfl; rfl; apply Pev.fld; rfl; exact yes; rfl
          apply qy; rfl; rfl; rfl; apply Pev.load_blk; rfl; exact fun h => h; exact .head _; rfl; rfl
          apply qy; rfl; rfl; rfl; apply Pev.move; rfl; exact yes
          apply QL.gateOff; exact Guard.yes rfl rfl; (simp; omega); rfl
          apply QL.gateOff; exact Guard.yes rfl rfl; (simp; omega); rfl
          apply QL.gateOff; exact Guard.yes rfl rfl; (simp; omega); rfl
          apply QL.gateOff; exact Guard.yes rfl rfl; (simp; omega); rfl
          apply QL.gateOff; exact Guard.yes rfl rfl; (simp; omega); rfl
          apply QL.gateOff; exact Guard.yes rfl rfl; (simp; omega); rfl
          apply qop; rfl; apply Pev.pick_off; rfl; exact yes; (intro hcond; simp; omega); rfl; exact yes
          apply qmv; rfl; rfl
          apply qno; rfl; rfl; rfl; apply Pev.fld; rfl; exact yes; rfl
          apply qno; rfl; rfl; rfl; apply Pev.load_blk; rfl; exact yes; exact .head _; rfl; rfl
          apply qno; rfl; rfl; rfl; apply Pev.bin; rfl; exact yes; rfl; exact yes; intro hcond; apply Bin.eql
          apply qno; rfl; rfl; rfl; apply Pev.move; rfl; exact yes
          apply qy; rfl; rfl; rfl; apply Pev.move; rfl; exact yes
          apply qy; rfl; rfl; rfl; apply Pev.bin; rfl; exact fun h => h; rfl; exact yes; intro hcond; apply Bin.gtr
          apply qno; rfl; rfl; rfl; apply Pev.pick_and; rfl; exact yes; rfl; exact fun h => h
          apply qno; rfl; rfl; rfl; apply Pev.move; rfl; exact yes
          apply qy; rfl; rfl; rfl; apply Pev.fld; rfl; exact yes; rfl
          apply qy; rfl; rfl; rfl; apply Pev.load_blk; rfl; exact fun h => h; exact .head _; rfl; rfl
          apply qy; rfl; rfl; rfl; apply Pev.move; rfl; exact yes
          apply qy; rfl; rfl; rfl; apply Pev.idx; rfl; exact fun h => h; rfl; exact fun h => h; rfl; rfl; intro hcond; omega
          apply qy; rfl; rfl; rfl; apply Pev.load_kept; rfl; exact fun h => h; exact .head _; rfl; intro hcond; assumption; intro hcond; (rw [add_block]; assumption); intro hcond; exact NotOwned.au
          apply qy; rfl; rfl; rfl; apply Pev.fld; rfl; exact yes; rfl
          apply qy; rfl; rfl; rfl; apply Pev.load_blk; rfl; exact fun h => h; exact .head _; rfl; rfl
          apply qy; rfl; rfl; rfl; apply Pev.move; rfl; exact yes
          apply qy; rfl; rfl; rfl; apply Pev.bin; rfl; exact fun h => h; rfl; exact yes; intro hcond; apply Bin.sub_in; omega
          apply qy; rfl; rfl; rfl; apply Pev.idxI; rfl; exact fun h => h; rfl; exact fun h => h; rfl; intro hcond; omega
          apply qy; rfl; rfl; rfl; apply Pev.load_kept; rfl; exact fun h => h; exact .head _; rfl; intro hcond; assumption; intro hcond; (rw [add_block]; assumption); intro hcond; exact NotOwned.au
          apply qy; rfl; rfl; rfl; apply Pev.bin; rfl; exact fun h => h; rfl; exact fun h => h; intro hcond; apply Bin.leq
          apply qno; rfl; rfl; rfl; apply Pev.pick_and; rfl; exact yes; rfl; exact fun h => h
          apply qop; rfl; apply Pev.pick_or; rfl; exact yes; rfl; exact yes
          apply QL.nil
          with_reducible apply At.next
          refine W.cond rfl (fun hb => ?_) (fun hb => ?_)
          · apply W.sr
            apply oas; rfl; rfl
            apply OL.nx
            refine W.rt ?_
            ((with_reducible apply At.fin1); rfl; rfl; intro w' hw')
            exact ⟨by rw [hbad (by rw [hbk]; grind)], by (exact hw'.fr)⟩
          · apply W.skip
            with_reducible apply At.in_normal
            with_reducible apply At.next
            apply W.reg
            apply obn; rfl; rfl; rfl; apply Bin.add_in; omega
            apply omv; rfl; rfl
            apply OL.nil
            exact At.again (i + 1) ⟨by omega, hagain (by first | exact hbk | (rw [hbk]; grind))⟩ (by omega) (by exact Sub.au) (fun w' hw' => hw')
      · have hbk : bindOk (es.map Prod.fst) x i = true := by unfold bindOk; grind
        apply W.sk
        apply W.sb
        apply W.sr
        apply omv; rfl; rfl
        apply oas; rfl; rfl
        apply OL.nx
        apply W.seq
        apply W.regd0; decide +kernel; kernel_rfl; decide +kernel; exact fun w hw => hw.drew
        apply qfa; rfl; rfl; rfl
        apply qld; rfl; rfl; exact .head _; rfl; rfl
        apply qbn; rfl; rfl; rfl; apply Bin.eql
        apply qmv; rfl; rfl
        apply qy; rfl; rfl; rfl; apply Pev.move; rfl; exact yes
        apply qy; rfl; rfl; rfl; apply Pev.fld; rfl; exact yes; rfl
        apply qy; rfl; rfl; rfl; apply Pev.load_blk; rfl; exact fun h => h; exact .head _; rfl; rfl
        apply qy; rfl; rfl; rfl; apply Pev.move; rfl; exact yes
        apply QL.gateOff; exact Guard.yes rfl rfl; (simp; omega); rfl
        apply QL.gateOff; exact Guard.yes rfl rfl; (simp; omega); rfl
        apply QL.gateOff; exact Guard.yes rfl rfl; (simp; omega); rfl
        apply QL.gateOff; exact Guard.yes rfl rfl; (simp; omega); rfl
        apply QL.gateOff; exact Guard.yes rfl rfl; (simp; omega); rfl
        apply QL.gateOff; exact Guard.yes rfl rfl; (simp; omega); rfl
        apply qop; rfl; apply Pev.pick_off; rfl; exact yes; (intro hcond; simp; omega); rfl; exact yes
        apply qmv; rfl; rfl
        apply qno; rfl; rfl; rfl; apply Pev.fld; rfl; exact yes; rfl
        apply qno; rfl; rfl; rfl; apply Pev.load_blk; rfl; exact yes; exact .head _; rfl; rfl
        apply qno; rfl; rfl; rfl; apply Pev.bin; rfl; exact yes; rfl; exact yes; intro hcond; apply Bin.eql
        apply qno; rfl; rfl; rfl; apply Pev.move; rfl; exact yes
        apply qy; rfl; rfl; rfl; apply Pev.move; rfl; exact yes
        apply qy; rfl; rfl; rfl; apply Pev.bin; rfl; exact fun h => h; rfl; exact yes; intro hcond; apply Bin.gtr
        apply qno; rfl; rfl; rfl; apply Pev.pick_and; rfl; exact yes; rfl; exact fun h => h
        apply qno; rfl; rfl; rfl; apply Pev.move; rfl; exact yes
        apply qy; rfl; rfl; rfl; apply Pev.fld; rfl; exact yes; rfl
        apply qy; rfl; rfl; rfl; apply Pev.load_blk; rfl; exact fun h => h; exact .head _; rfl; rfl
        apply qy; rfl; rfl; rfl; apply Pev.move; rfl; exact yes
        apply QL.gateOff; exact Guard.yes rfl rfl; (simp; omega); rfl
        apply QL.gateOff; exact Guard.yes rfl rfl; (simp; omega); rfl
        apply qy; rfl; rfl; rfl; apply Pev.fld; rfl; exact yes; rfl
        apply qy; rfl; rfl; rfl; apply Pev.load_blk; rfl; exact fun h => h; exact .head _; rfl; rfl
        apply qy; rfl; rfl; rfl; apply Pev.move; rfl; exact yes
        apply qy; rfl; rfl; rfl; apply Pev.bin; rfl; exact fun h => h; rfl; exact yes; intro hcond; apply Bin.sub_in; omega
        apply QL.gateOff; exact Guard.yes rfl rfl; (simp; omega); rfl
        apply QL.gateOff; exact Guard.yes rfl rfl; (simp; omega); rfl
        apply QL.gateOff; exact Guard.yes rfl rfl; (simp; omega); rfl
        apply qno; rfl; rfl; rfl; apply Pev.pick_off; rfl; exact yes; (intro hcond; simp; omega); rfl; exact yes
        apply qop; rfl; apply Pev.pick_or; rfl; exact yes; rfl; exact yes
        apply QL.nil
        with_reducible apply At.next
        refine W.cond rfl (fun hb => ?_) (fun hb => ?_)
        · apply W.sr
          apply oas; rfl; rfl
          apply OL.nx
          refine W.rt ?_
          ((with_reducible apply At.fin1); rfl; rfl; intro w' hw')
          exact ⟨by rw [hbad (by rw [hbk]; grind)], by (exact hw'.fr)⟩
        · apply W.skip
          with_reducible apply At.in_normal
          with_reducible apply At.next
          apply W.reg
          apply obn; rfl; rfl; rfl; apply Bin.add_in; omega
          apply omv; rfl; rfl
          apply OL.nil
          exact At.again (i + 1) ⟨by omega, hagain (by first | exact hbk | (rw [hbk]; grind))⟩ (by omega) (by exact Sub.au) (fun w' hw' => hw')
  · obtain rfl : i = x.binds.length := by omega
    have hkb : kidsB (es.map Prod.fst) x = true := all_range hall
    refine W.xt ?_
    with_reducible apply At.next
    apply W.sr
    apply oas; rfl; rfl
    apply OL.nx
    apply W.ret
    ((with_reducible apply At.fin1); rfl; rfl; intro w' hw')
    exact ⟨by rw [hkb], by (exact hw'.fr)⟩
end Go.Proofs.YtlboppiogeaicaaDoor.co
namespace Go.Co
open Go.Eng Go.RowKit
set_option linter.unusedVariables false
set_option linter.unusedSimpArgs false
theorem dep_small {e : List Ex} {P : List Int} (ht : IsTree e) (hP : Parents e P) {i : Nat} (hi : i < e.length) : dep e P i ≤ e.length := by
  obtain ⟨d, hu, hd⟩ := dep_under ht hP hi
  have := hu.le ht.down
  omega
theorem depths_small {e : List Ex} {P : List Int} (ht : IsTree e) (hP : Parents e P) : ∀ {n : Nat}, n ≤ e.length → depths e P n ≤ e.length
  | 0, _ => Nat.zero_le _
  | n + 1, h => by
    rw [depths_succ]
    have := depths_small ht hP (n := n) (by omega)
    have := dep_small ht hP (i := n) (by omega)
    omega
/-- a node's parent, or none -/
theorem Parents.cases {e : List Ex} {P : List Int} (hP : Parents e P) (ht : IsTree e) {c : Nat} (hc : c < e.length) : P[c]? = some (-1) ∨ ∃ p m : Nat, P[c]? = some (p : Int) ∧ c < p ∧ p < e.length ∧ Par e c p m := by
  by_cases h : c + 1 < e.length
  · obtain ⟨p, m, hp⟩ := ht.one c h
    have hl := hp.lt ht.down
    exact .inr ⟨p, m, hP.par c p m hp, hl.1, hl.2, hp⟩
  · rw [show c = e.length - 1 by omega]
    exact .inl hP.root
end Go.Co
namespace Go.Proofs.YtlboppiogeaicaaDoor.co
open Go.RowKit Go.Eng Go.Co
set_option linter.unusedVariables false
set_option linter.unusedSimpArgs false
set_option maxRecDepth 100000
theorem Depth_calls (e : List Ex) (q qp : Option Addr) (cap cp : Nat) (P : List Int) (w : World) (ht : IsTree e) (hP : Parents e P) (hlen : e.length ≤ 4096) (hI : IntsO w (low w) P qp) :
    Calls Tryd.prog 71 [.slice q e.length cap, .slice qp e.length cp].toArray w fun e1 w' => e1 = .returned (.int .i64 (depths e P e.length : Int)) ∧ Ext w w' := by
  refine enter Tryd.func71 rfl Tryd.ntmps71 rfl (Cls.start w) ?_
  (simp only [argEnv, Nat.zero_add, Nat.reduceAdd])
  apply W.sr
  apply oas; rfl; rfl
  apply OL.nsr
  apply oas; rfl; rfl
  apply OL.nx
  apply W.seq
  apply W.sr
  apply omv; rfl; rfl
  apply oop; rfl; apply Pev.len_slice; rfl; exact yes; rfl
  apply omv; rfl; rfl
  apply OL.nx
  apply W.block
  refine W.loop (G := Nat) (fun i => i ≤ e.length) (fun i => e.length - i)
    (fun i => [(1, true, .slice qp e.length cp), (5, true, .int .i64 (depths e P i : Int)), (10, true, .int .i64 (e.length : Int)), (11, true, .int .i64 (i : Int))])
    (fun i => Cls [] [w]) 0 (by omega) (by exact Sub.au) (fun w' hw' => hw') ?_
  rintro i hi
  apply W.sr
  apply obn; rfl; rfl; rfl; apply Bin.lss
  apply OL.nx
  apply W.seq
  (refine W.cnd (fun hlt => ?_) (fun hlt => ?_)) <;> (try (exfalso; first | omega | exact hlt trivial | contradiction))
  · have hil : i < e.length := by omega
    have hdi := dep_small ht hP hil
    have hds := depths_small ht hP hi
    apply W.sk
    apply W.sb
    apply W.sr
    apply omv; rfl; rfl
    apply oas; rfl; rfl
    apply OL.nsr
    apply oas; rfl; rfl
    apply OL.nx
    apply W.seq
    apply W.sr
    apply omv; rfl; rfl
    apply oas; rfl; rfl
    apply OL.nx
    apply W.block
    refine W.loop (G := Int × Nat) (fun g => (g.1 = -1 ∧ g.2 = dep e P i) ∨ (0 ≤ g.1 ∧ g.1.toNat < e.length ∧ g.2 + dep e P g.1.toNat = dep e P i)) (fun g => if g.1 < 0 then 0 else e.length - g.1.toNat)
      (fun g => [(1, true, .slice qp e.length cp), (5, true, .int .i64 (depths e P i : Int)), (7, true, .int .i64 (g.2 : Int)), (8, true, .int .i64 g.1), (10, true, .int .i64 (e.length : Int)), (11, true, .int .i64 (i : Int))])
      (fun i => Cls [] [w]) ((i : Int), 0) (.inr ⟨by simp, by simpa using hil, by simp⟩) (by exact Sub.au) (fun w' hw' => hw') ?_
    rintro ⟨k, n⟩ hk
    simp only at hk ⊢
    apply W.seq
    apply W.sr
    apply omv; rfl; rfl
    apply obn; rfl; rfl; rfl; apply Bin.geq
    apply OL.nx
    (refine W.cnd (fun hk0 => ?_) (fun hk0 => ?_)) <;> (try (exfalso; first | omega | exact hk0 trivial | contradiction))
    · obtain ⟨c, rfl⟩ : ∃ c : Nat, k = (c : Int) := ⟨k.toNat, by omega⟩
      obtain ⟨hc, hn⟩ : c < e.length ∧ n + dep e P c = dep e P i := by
        rcases hk with ⟨h1, _⟩ | ⟨_, h2, h3⟩
        · omega
        · exact ⟨by simpa using h2, by simpa using h3⟩
      obtain ⟨a, u, hq, hab, hu, hcell⟩ := hI.get (i := c) (by rw [hP.len]; exact hc)
      have hab : a.block < w.heap.size := hab
      rw [hq]
      apply W.sk
      apply W.sb
      apply W.reg
      apply omv; rfl; rfl
      apply obn; rfl; rfl; rfl; apply Bin.add_in; omega
      apply oas; rfl; rfl
      apply OL.nil
      with_reducible apply At.in_normal
      with_reducible apply At.next
      apply W.reg
      apply omv; rfl; rfl
      apply omv; rfl; rfl
      apply oop; rfl; apply Pev.idx; rfl; exact yes; rfl; exact yes; rfl; rfl; intro hcond; omega
      apply oop; rfl; apply Pev.load_kept; rfl; exact yes; exact .head _; rfl; intro hcond; assumption; intro hcond; (rw [add_block]; assumption); intro hcond; exact NotOwned.au
      apply oas; rfl; rfl
      apply OL.nil
      rcases hP.cases ht hc with h1 | ⟨p, m, h1, h2, h3, _⟩
      · rw [h1] at hu
        obtain rfl := Option.some.inj hu
        have := dep_root (e := e) h1
        exact At.again (-1, n + 1) (.inl ⟨rfl, by simp only; omega⟩) (by simp only; rw [if_pos (by omega), if_neg (by omega)]; simp; omega) (by exact Sub.au) (fun w' hw' => hw')
      · rw [h1] at hu
        obtain rfl := Option.some.inj hu
        have := dep_up h1 ⟨by omega, by simpa using h2, by simpa using h3⟩
        simp only [Int.toNat_natCast] at this
        exact At.again ((p : Int), n + 1) (.inr ⟨by simp, by simpa using h3, by simp only [Int.toNat_natCast]; omega⟩) (by simp only; rw [if_neg (by omega), if_neg (by omega)]; simp; omega) (by exact Sub.au) (fun w' hw' => hw')
    · have hn : n = dep e P i := by
        rcases hk with ⟨_, h1⟩ | ⟨h1, _⟩
        · exact h1
        · omega
      subst hn
      refine W.xt ?_
      with_reducible apply At.next
      apply W.reg
      apply omv; rfl; rfl
      apply omv; rfl; rfl
      apply oop; rfl; apply Pev.max2; rfl; exact yes; rfl; exact yes
      apply oas; rfl; rfl
      apply OL.nil
      with_reducible apply At.in_normal
      with_reducible apply At.next
      apply W.reg
      apply obn; rfl; rfl; rfl; apply Bin.add_in; omega
      apply omv; rfl; rfl
      apply OL.nil
      rw [maxIf, ← depths_succ]
      skip
      exact At.again (i + 1) (by omega) (by omega) (by exact Sub.au) (fun w' hw' => hw')
  · obtain rfl : i = e.length := by omega
    refine W.xt ?_
    with_reducible apply At.next
    apply W.sr
    apply omv; rfl; rfl
    apply oas; rfl; rfl
    apply OL.nx
    apply W.ret
    ((with_reducible apply At.fin1); rfl; rfl; intro w' hw')
    exact ⟨rfl, by (exact hw'.fr)⟩
theorem binder_calls (es : List (Ex × ExY)) (q qp : Option Addr) (cap cp : Nat) (P : List Int) (at_ : Nat) (x0 : Ex) (w : World) (he : Arr exR w (low w) es q) (hlen : es.length ≤ 4096) (ht : IsTree (es.map Prod.fst)) (hP : Parents (es.map Prod.fst) P) (hI : IntsO w (low w) P qp)
    (hx0 : (es.map Prod.fst)[at_]? = some x0) (hk7 : ∀ p ∈ es, p.1.op = 7 ∨ p.1.op = 13 → p.1.kids.length = 1 + p.1.alts.length) (ha : ∀ p ∈ es, ¬ (p.1.op = 7 ∨ p.1.op = 13) → p.1.alts.length = 0) :
    Calls Tryd.prog 46 [.slice q es.length cap, .slice qp es.length cp, .int .i64 (at_ : Int)].toArray w fun e1 w' => e1 = .returned (.int .i64 (bnd (es.map Prod.fst) P x0.n at_)) ∧ Ext w w' := by
  obtain ⟨e, hee⟩ : ∃ e, es.map Prod.fst = e := ⟨_, rfl⟩
  have hel : e.length = es.length := by rw [← hee, List.length_map]
  rw [hee] at hx0 ht hP ⊢
  have hget : ∀ {i : Nat}, i < es.length → ∃ a p, q = some a ∧ a.block < w.heap.size ∧ es[i]? = some p ∧ e[i]? = some p.1 ∧ CellsAt w (a.add (i * 5)) [.int .i64 p.1.op, .int .i64 p.1.n, .slice p.2.b.1 p.1.binds.length p.2.b.2, .slice p.2.k.1 p.1.kids.length p.2.k.2, .slice p.2.a.1 p.1.alts.length p.2.a.2] ∧ ExOk w (low w) p.1 p.2 := fun {i} hi => by
    obtain ⟨a, p, h1, h2, h3, h4, h5⟩ := he.get hi
    exact ⟨a, p, h1, h2, h3, by rw [← hee, List.getElem?_map, h3]; rfl, h4, h5⟩
  have hat : at_ < es.length := by have := (List.getElem?_eq_some_iff.1 hx0).1; omega
  obtain ⟨a0, p0, hq0, hab0, hp0, hpe0, hcell0, hok0⟩ := hget hat
  rw [hx0] at hpe0
  obtain rfl := Option.some.inj hpe0
  refine enter Tryd.func46 rfl Tryd.ntmps46 rfl (Cls.start w) ?_
  (simp only [argEnv, Nat.zero_add, Nat.reduceAdd])
  apply W.sr
  apply oas; rfl; rfl
  apply OL.nx
  apply W.seq
  apply W.sr
  apply omv; rfl; rfl
  apply oas; rfl; rfl
  apply OL.nx
  apply W.block
  refine W.loop (G := Nat) (fun c => c < es.length ∧ bnd e P p0.1.n c = bnd e P p0.1.n at_) (fun c => es.length - c)
    (fun c => [(0, true, .slice q es.length cap), (1, true, .slice qp es.length cp), (2, true, .int .i64 (at_ : Int)), (7, true, .int .i64 (c : Int))])
    (fun c => Cls [] [w]) at_ ⟨hat, rfl⟩ (by exact Sub.au) (fun w' hw' => hw') ?_
  rintro c ⟨hc, hb⟩
  obtain ⟨a, u, hq, hab, hu, hcell⟩ := hI.get (i := c) (by rw [hP.len]; omega)
  have hab : a.block < w.heap.size := hab
  rw [hq]
  apply W.seq
  apply W.sr
  apply omv; rfl; rfl
  apply omv; rfl; rfl
  apply oop; rfl; apply Pev.idx; rfl; exact yes; rfl; exact yes; rfl; rfl; intro hcond; omega
  apply oop; rfl; apply Pev.load_kept; rfl; exact yes; exact .head _; rfl; intro hcond; assumption; intro hcond; (rw [add_block]; assumption); intro hcond; exact NotOwned.au
  apply obn; rfl; rfl; rfl; apply Bin.geq
  apply OL.nx
  rcases hP.cases ht (c := c) (by omega) with h1 | ⟨p, m0, h1, h2, h3, _⟩
  · rw [h1] at hu
    obtain rfl := Option.some.inj hu
    refine W.cond rfl (fun hb => by cases hb) (fun _ => ?_)
    refine W.xt ?_
    with_reducible apply At.next
    apply W.sr
    apply oas; rfl; rfl
    apply OL.nx
    apply W.ret
    ((with_reducible apply At.fin1); rfl; rfl; intro w' hw')
    exact ⟨by rw [← hb, bnd_root h1], by (exact hw'.fr)⟩
  · rw [h1] at hu
    obtain rfl := Option.some.inj hu
    obtain ⟨a1, x, hq1, hab1, hp1, hpe1, hcell1, hok1⟩ := hget (i := p) (by omega)
    rw [hq0] at hq1
    obtain rfl := Option.some.inj hq1
    have hkl := hok1.kl
    have hup := bnd_up (n := p0.1.n) h1 h2 hpe1
    rw [hq0]
    refine W.cond rfl (fun _ => ?_) (fun hb => by simp at hb)
    apply W.sk
    apply W.sb
    apply W.sr
    apply omv; rfl; rfl
    apply omv; rfl; rfl
    apply oop; rfl; apply Pev.idx; rfl; exact yes; rfl; exact yes; rfl; rfl; intro hcond; omega
    apply oop; rfl; apply Pev.load_kept; rfl; exact yes; exact .head _; rfl; intro hcond; assumption; intro hcond; (rw [add_block]; assumption); intro hcond; exact NotOwned.au
    apply oas; rfl; rfl
    apply OL.nsr
    apply omv; rfl; rfl
    apply omv; rfl; rfl
    apply oop; rfl; apply Pev.idx; rfl; exact yes; rfl; exact yes; rfl; rfl; intro hcond; omega
    apply oop; rfl; apply Pev.fldA; rfl; exact yes; rfl
    apply oop; rfl; apply Pev.load_kept; rfl; exact yes; exact .head _; rfl; intro hcond; apply CellsAt.at_ (by assumption) rfl; intro hcond; (simp only [add_block]; assumption); intro hcond; exact NotOwned.au
    apply oop; rfl; apply Pev.len_slice; rfl; exact yes; rfl
    apply omv; rfl; rfl
    apply OL.nx
    apply W.block
    refine W.loop (G := Nat) (fun m => m ≤ x.1.kids.length ∧ ∀ m', m' < m → hitK x.1 c p0.1.n m' = false) (fun m => x.1.kids.length - m)
      (fun m => [(0, true, .slice (some a0) es.length cap), (1, true, .slice (some a) es.length cp), (2, true, .int .i64 (at_ : Int)), (7, true, .int .i64 (c : Int)), (8, true, .int .i64 (p : Int)), (29, true, .slice x.2.k.1 x.1.kids.length x.2.k.2), (30, true, .int .i64 (x.1.kids.length : Int)), (31, true, .int .i64 (m : Int))])
      (fun m => Cls [] [w]) 0 ⟨by omega, fun m' h => by omega⟩ (by exact Sub.au) (fun w' hw' => hw') ?_
    rintro m ⟨hm, hno⟩
    apply W.sr
    apply obn; rfl; rfl; rfl; apply Bin.lss
    apply OL.nx
    apply W.seq
    (refine W.cnd (fun hlt => ?_) (fun hlt => ?_)) <;> (try (exfalso; first | omega | exact hlt trivial | contradiction))
    · have hml : m < x.1.kids.length := by omega
      obtain ⟨ak, k, hqk, habk, hk, hck⟩ := hok1.k.get hml
      have habk : ak.block < w.heap.size := habk
      have hxm := List.mem_of_getElem? hp1
      rw [hqk]
      by_cases hkc : k = (c : Int)
      · subst hkc
        obtain ⟨qs, cs, hIs, hsl, hcall⟩ := Scope_calls x.1 x.2 m w hok1 (fun h7 => by have := hk7 x hxm h7; omega) (ha x hxm) (by omega)
        simp only [exC] at hcall
        have hhk : hitK x.1 c p0.1.n m = decide (p0.1.n ∈ scopeX x.1 m) := by unfold hitK; rw [hk]; simp
        apply W.sk
        apply W.sb
        apply W.sr
        apply omv; rfl; rfl
        apply oop; rfl; apply Pev.idx; rfl; exact yes; rfl; exact yes; rfl; rfl; intro hcond; omega
        apply oop; rfl; apply Pev.load_kept; rfl; exact yes; exact .head _; rfl; intro hcond; assumption; intro hcond; (rw [add_block]; assumption); intro hcond; exact NotOwned.au
        apply oas; rfl; rfl
        apply oas; rfl; rfl
        apply OL.nx
        apply W.seq
        apply W.regd0; decide +kernel; kernel_rfl; decide +kernel; exact fun w hw => hw.drew
        apply qmv; rfl; rfl
        apply qmv; rfl; rfl
        apply qbn; rfl; rfl; rfl; apply Bin.eql
        apply qmv; rfl; rfl
        apply qy; rfl; rfl; rfl; apply Pev.move; rfl; exact yes
        apply qy; rfl; rfl; rfl; apply Pev.move; rfl; exact yes
        apply qy; rfl; rfl; rfl; apply Pev.idx; rfl; exact fun h => h; rfl; exact fun h => h; rfl; rfl; intro hcond; omega
        apply qy; rfl; rfl; rfl; apply Pev.load_keptA; rfl; exact fun h => h; exact .head _; rfl; intro hcond; assumption; rfl; intro hcond; (rw [add_block]; assumption); intro hcond; exact NotOwned.au
        apply qy; rfl; rfl; rfl; apply Pev.move; rfl; exact yes
        (((first | (with_reducible apply OL.op) | (with_reducible apply QL.op)); (exact Guard.au); rfl; rfl); (exact Pev.call rfl (by exact Args.au) (fun _ w2 hw2 => (hcall w2 (hw2.same (.head _) (fun k hk => by exact NotOwned.au)) (hw2.kp w (by exact mau)).size).mono (fun e w3 h => ⟨h.1, hw2.ext h.2⟩))))
        apply qy; rfl; rfl; rfl; apply Pev.move; rfl; exact yes
        apply qy; rfl; rfl; rfl; apply Pev.move; rfl; exact yes
        apply qy; rfl; rfl; rfl; apply Pev.idx; rfl; exact fun h => h; rfl; exact fun h => h; rfl; rfl; intro hcond; omega
        apply qy; rfl; rfl; rfl; apply Pev.fldA; rfl; exact fun h => h; rfl
        apply qy; rfl; rfl; rfl; apply Pev.load_kept; rfl; exact fun h => h; exact .head _; rfl; intro hcond; apply CellsAt.at_ (by assumption) rfl; intro hcond; (simp only [add_block]; assumption); intro hcond; exact NotOwned.au
        (((first | (with_reducible apply OL.op) | (with_reducible apply QL.op)); (exact Guard.au); rfl; rfl); (exact Pev.call rfl (by exact Args.au) (fun _ w2 hw2 => (In_calls qs cs (scopeX x.1 m) p0.1.n w2 (by omega) (hIs.at hw2 (by exact mau) (fun k hk => by exact NotOwned.au))).mono (fun e w3 h => ⟨h.1, hw2.ext h.2⟩))))
        apply qop; rfl; apply Pev.pick_and; rfl; exact yes; rfl; exact fun h => h
        apply QL.nil
        with_reducible apply At.next
        refine W.cond rfl (fun hb2 => ?_) (fun hb2 => ?_)
        · have hin : p0.1.n ∈ scopeX x.1 m := by simpa using hb2
          apply W.sr
          apply omv; rfl; rfl
          apply oas; rfl; rfl
          apply OL.nx
          refine W.rt ?_
          ((with_reducible apply At.fin1); rfl; rfl; intro w' hw')
          refine ⟨?_, by (exact hw'.fr)⟩
          have hh : hit x.1 c p0.1.n = true := by
            unfold hit
            rw [List.any_eq_true]
            exact ⟨m, List.mem_range.2 hml, by rw [hhk]; simpa using hin⟩
          rw [← hb, hup, if_pos hh]
        · have hnin : ¬ p0.1.n ∈ scopeX x.1 m := by simpa using hb2
          apply W.skip
          with_reducible apply At.in_normal
          with_reducible apply At.next
          apply W.reg
          apply obn; rfl; rfl; rfl; apply Bin.add_in; omega
          apply omv; rfl; rfl
          apply OL.nil
          refine At.again (m + 1) ⟨by omega, fun m' hm' => ?_⟩ (by omega) (by exact Sub.au) (fun w' hw' => hw')
          by_cases em : m' = m
          · subst em
            rw [hhk]
            simpa using hnin
          · exact hno m' (by omega)
      · apply W.sk
        apply W.sb
        apply W.sr
        apply omv; rfl; rfl
        apply oop; rfl; apply Pev.idx; rfl; exact yes; rfl; exact yes; rfl; rfl; intro hcond; omega
        apply oop; rfl; apply Pev.load_kept; rfl; exact yes; exact .head _; rfl; intro hcond; assumption; intro hcond; (rw [add_block]; assumption); intro hcond; exact NotOwned.au
        apply oas; rfl; rfl
        apply oas; rfl; rfl
        apply OL.nx
        apply W.seq
        apply W.regd0; decide +kernel; kernel_rfl; decide +kernel; exact fun w hw => hw.drew
        apply qmv; rfl; rfl
        apply qmv; rfl; rfl
        apply qbn; rfl; rfl; rfl; apply Bin.eql
        apply qmv; rfl; rfl
        apply qy; rfl; rfl; rfl; apply Pev.move; rfl; exact yes
        apply qy; rfl; rfl; rfl; apply Pev.move; rfl; exact yes
        apply qy; rfl; rfl; rfl; apply Pev.idx; rfl; exact fun h => h; rfl; exact fun h => h; rfl; rfl; intro hcond; omega
        apply qy; rfl; rfl; rfl; apply Pev.load_keptA; rfl; exact fun h => h; exact .head _; rfl; intro hcond; assumption; rfl; intro hcond; (rw [add_block]; assumption); intro hcond; exact NotOwned.au
        apply qy; rfl; rfl; rfl; apply Pev.move; rfl; exact yes
        apply QL.gateOff; exact Guard.yes rfl rfl; (simp; omega); rfl
        apply qy; rfl; rfl; rfl; apply Pev.move; rfl; exact yes
        apply qy; rfl; rfl; rfl; apply Pev.move; rfl; exact yes
        apply qy; rfl; rfl; rfl; apply Pev.idx; rfl; exact fun h => h; rfl; exact fun h => h; rfl; rfl; intro hcond; omega
        apply qy; rfl; rfl; rfl; apply Pev.fldA; rfl; exact fun h => h; rfl
        apply qy; rfl; rfl; rfl; apply Pev.load_kept; rfl; exact fun h => h; exact .head _; rfl; intro hcond; apply CellsAt.at_ (by assumption) rfl; intro hcond; (simp only [add_block]; assumption); intro hcond; exact NotOwned.au
        apply QL.gateOff; exact Guard.yes rfl rfl; (simp; omega); rfl
        apply qop; rfl; apply Pev.pick_off; rfl; exact yes; (intro hcond; simp; omega); rfl; exact yes
        apply QL.nil
        with_reducible apply At.next
        refine W.cond rfl (fun hb2 => by simp [hkc] at hb2) (fun hb2 => ?_)
        apply W.skip
        with_reducible apply At.in_normal
        with_reducible apply At.next
        apply W.reg
        apply obn; rfl; rfl; rfl; apply Bin.add_in; omega
        apply omv; rfl; rfl
        apply OL.nil
        refine At.again (m + 1) ⟨by omega, fun m' hm' => ?_⟩ (by omega) (by exact Sub.au) (fun w' hw' => hw')
        by_cases em : m' = m
        · subst em
          unfold hitK
          rw [hk]
          simp [hkc]
        · exact hno m' (by omega)
    · obtain rfl : m = x.1.kids.length := by omega
      have hh : ¬ hit x.1 c p0.1.n = true := by
        unfold hit
        rw [List.any_eq_true]
        rintro ⟨m', h4, h5⟩
        rw [hno m' (List.mem_range.1 h4)] at h5
        cases h5
      rw [if_neg hh] at hup
      refine W.xt ?_
      with_reducible apply At.in_normal
      with_reducible apply At.next
      apply W.reg
      apply omv; rfl; rfl
      apply omv; rfl; rfl
      apply oop; rfl; apply Pev.idx; rfl; exact yes; rfl; exact yes; rfl; rfl; intro hcond; omega
      apply oop; rfl; apply Pev.load_kept; rfl; exact yes; exact .head _; rfl; intro hcond; assumption; intro hcond; (rw [add_block]; assumption); intro hcond; exact NotOwned.au
      apply oas; rfl; rfl
      apply OL.nil
      refine At.again p ⟨by omega, by rw [← hb, hup]⟩ (by omega) (by exact Sub.au) (fun w' hw' => hw')
end Go.Proofs.YtlboppiogeaicaaDoor.co
namespace Go.Co
open Go.Eng Go.RowKit
set_option linter.unusedVariables false
set_option linter.unusedSimpArgs false
theorem IntsO.part {w w' : World} {lo : Nat} {l : List Int} {q : Option Addr} {H : List Eng.Item} {S : List World} (h : IntsO w (fun k => lo ≤ k ∧ k < w.heap.size) l q) (hw : Cls H S w') (hs : w ∈ S) (hno : ∀ k, lo ≤ k → NotOwned H k) : IntsO w' (low w') l q :=
  IntsO.mono (fun k hk => Nat.lt_of_lt_of_le hk.2 (hw.kp w hs).size) (IntsO.stab (fun k hk => (hw.kp w hs).block k hk.2 (hno k hk.1).not) h)
theorem IntsO.take {w : World} {O : Nat → Prop} {l : List Int} {q : Option Addr} (h : IntsO w O l q) (i : Nat) : IntsO w O (l.take i) q := fun hl => by
  rw [List.length_take] at hl
  obtain ⟨a, h1, h2, h3⟩ := h (by omega)
  refine ⟨a, h1, h2, fun j v hj => ?_⟩
  unfold ints at hj
  rw [List.map_take] at hj
  by_cases hji : j < i
  · rw [List.getElem?_take_of_lt hji] at hj
    exact h3 j v hj
  · rw [List.getElem?_eq_none (by rw [List.length_take]; omega)] at hj
    cases hj
theorem oneR_zero {e : List Ex} {flat : Bool} {x : Ex} (h : oneE e flat x = 0) : nodeE e x = 0 := by
  unfold oneE at h
  split at h
  · omega
  · exact h
theorem shape_kids {x : Ex} (h : shapeB x = true) : (x.op = 7 ∨ x.op = 13 → x.kids.length = 1 + x.alts.length) ∧ (¬ (x.op = 7 ∨ x.op = 13) → x.alts.length = 0) ∧ (x.op = 5 → x.kids.length = x.binds.length + 1) := by
  unfold shapeB at h
  by_cases h7 : x.op = 7 ∨ x.op = 13
  · rw [if_pos h7] at h
    simp only [Bool.and_eq_true, altsB, decide_eq_true_eq] at h
    exact ⟨fun _ => h.1.1.1.2, fun h8 => absurd h7 h8, fun h5 => by omega⟩
  · rw [if_neg h7] at h
    split at h
    · cases h
    · rename_i k b u hs
      simp only [Bool.and_eq_true, decide_eq_true_eq] at h
      refine ⟨fun h8 => absurd h8 h7, fun _ => h.1.2, fun h5 => ?_⟩
      unfold sh at hs
      simp [h5] at hs
      omega
theorem free_ok {e : List Ex} {P : List Int} {ps : List Int} (ht : IsTree e) (hP : Parents e P) (h0 : 0 < e.length) (h : ∀ (j : Nat) (x : Ex), e[j]? = some x → x.op = 0 → bnd e P x.n j < 0 → x.n ∈ ps) : ∀ n ∈ fv (grow e (e.length - 1)) [], n ∈ ps := fun n hn => by
  obtain ⟨j, x, sc, h1, h2, h3, h4, h5⟩ := (mem_fv ht.down (e.length - 1) (by omega) []).1 hn
  subst h3
  refine h j x h1 h2 ((bnd_neg ht hP x.n (List.getElem?_eq_some_iff.1 h1).1).2 fun sc2 hu => ?_)
  rw [Under.uniq ht hu h4]
  simpa using h5
theorem free_bad {e : List Ex} {P : List Int} (ht : IsTree e) (hP : Parents e P) (h0 : 0 < e.length) {j : Nat} {x : Ex} (hx : e[j]? = some x) (hop : x.op = 0) (hb : bnd e P x.n j < 0) : x.n ∈ fv (grow e (e.length - 1)) [] := by
  have hj := (List.getElem?_eq_some_iff.1 hx).1
  obtain ⟨sc, hu⟩ := ht.root hj
  exact (mem_fv ht.down (e.length - 1) (by omega) []).2 ⟨j, x, sc, hx, hop, rfl, hu, by simpa using (bnd_neg ht hP x.n hj).1 hb sc hu⟩
theorem treeE_tree {e : List Ex} (h : e.length ≤ 4096) (hg : TreeP e) : treeE e = if 400 < high (grow e (e.length - 1)) then 2 else 0 := treeE_ok h hg.1 hg.2.1 hg.2.2
theorem binders_small {l : List Ex} (h : ∀ x ∈ l, Lim x) : (l.flatMap bindersX).length ≤ l.length * 65552 := by
  induction l with
  | nil => simp
  | cons x r ih =>
    have h1 := h x (.head _)
    have h2 := ih fun y hy => h y (.tail _ hy)
    have h3 := flat_len h1.ab
    have h4 := h1.a
    have h5 := h1.b
    have h6 : (bindersX x).length ≤ 65552 := by
      unfold bindersX
      have h8 : (if x.op = 2 ∨ x.op = 4 ∨ x.op = 5 then x.binds else []).length ≤ x.binds.length := by split <;> simp
      rw [List.length_append]
      omega
    rw [List.flatMap_cons, List.length_append, List.length_cons]
    omega
end Go.Co
namespace Go.Proofs.YtlboppiogeaicaaDoor.co
open Go.RowKit Go.Eng Go.Co
set_option linter.unusedVariables false
set_option linter.unusedSimpArgs false
set_option maxRecDepth 100000
theorem BodyFault_calls (es : List (Ex × ExY)) (q qp : Option Addr) (cap cp : Nat) (ps : List Int) (flat : Bool) (w : World) (he : Arr exR w (low w) es q) (hlen : es.length ≤ 9223372036854775807) (hp : IntsO w (low w) ps qp) (hpl : ps.length ≤ 4096) :
    Calls Tryd.prog 38 [.slice q es.length cap, .slice qp ps.length cp, .bool flat].toArray w fun e w' => e = .returned (.int .i64 (bodyE (es.map Prod.fst) ps flat)) ∧ Ext w w' := by
  obtain ⟨e, hee⟩ : ∃ e, es.map Prod.fst = e := ⟨_, rfl⟩
  have hel : e.length = es.length := by rw [← hee, List.length_map]
  rw [hee]
  refine enter Tryd.func38 rfl Tryd.ntmps38 rfl (Cls.start w) ?_
  (simp only [argEnv, Nat.zero_add, Nat.reduceAdd])
  apply W.sr
  apply oas; rfl; rfl
  apply OL.nx
  apply W.seq
  apply W.sr
  apply omv; rfl; rfl
  apply oop; rfl; apply Pev.len_slice; rfl; exact yes; rfl
  apply obn; rfl; rfl; rfl; apply Bin.gtr
  apply OL.nx
  (refine W.cnd (fun hbig => ?_) (fun hbig => ?_)) <;> (try (exfalso; first | omega | exact hbig trivial | contradiction))
  · apply W.sr
    apply oas; rfl; rfl
    apply OL.nx
    refine W.rt ?_
    ((with_reducible apply At.fin1); rfl; rfl; intro w' hw')
    have h2 := treeE_big (e := e) (by omega)
    exact ⟨by rw [bodyE_tree (by rw [h2]; simp), h2], by (exact hw'.fr)⟩
  have hl4 : es.length ≤ 4096 := by omega
  apply W.sk
  apply W.sr
  apply omv; rfl; rfl
  refine OL.callE (α := Option Addr × Nat × Nat × Bool × World) (fun z => .tuple #[.slice z.1 z.2.1 z.2.2.1, .bool z.2.2.2.1]) (fun z => (z.2.2.2.1 = true ↔ TreeP e) ∧ (z.2.2.2.1 = true → z.2.1 = es.length ∧ ∃ P, Parents e P ∧ IntsO z.2.2.2.2 (low z.2.2.2.2) P z.1) ∧ w.heap.size ≤ z.2.2.2.2.heap.size) (fun z => Cls [] [z.2.2.2.2, w]) rfl rfl (by exact Args.au) (fun w2 hw2 => (parentsOf_calls es q cap w2 (he.at hw2 (by exact mau) (fun k hk => by exact NotOwned.au)) hl4).mono (fun e1 w3 ⟨q', n, c, b, h1, h2, h3, h4⟩ => ⟨(q', n, c, b, w3), h1, ⟨by rw [hee] at h3; exact h3, by rw [hee] at h4; exact h4, Nat.le_trans (hw2.kp w (by exact mau)).size h2.size⟩, (hw2.ext h2).note⟩)) ?_
  rintro ⟨qr, n, cr, b, w1⟩ ⟨hbt, hbP, hsz1⟩
  simp only at hbt hbP hsz1 ⊢
  apply omv; rfl; rfl
  apply oex; rfl; rfl; rfl
  apply oex; rfl; rfl; rfl
  apply oas; rfl; rfl
  apply oas; rfl; rfl
  apply OL.nx
  apply W.seq
  apply W.sr
  apply omv; rfl; rfl
  apply oop; rfl; apply Pev.not; rfl; exact yes
  apply OL.nx
  (refine W.cnd (fun hnt => ?_) (fun hnt => ?_)) <;> (try (exfalso; first | omega | exact hnt trivial | contradiction))
  · have hnot : ¬ TreeP e := fun h => by have := hbt.2 h; simp_all
    have h3 : treeE e = 3 := treeE_bad (by omega) hnot
    apply W.sr
    apply oas; rfl; rfl
    apply OL.nx
    refine W.rt ?_
    ((with_reducible apply At.fin1); rfl; rfl; intro w' hw')
    exact ⟨by rw [bodyE_tree (by rw [h3]; simp), h3], by (exact hw'.fr)⟩
  have hb1 : b = true := by simpa using hnt
  have hT : TreeP e := hbt.1 hb1
  obtain ⟨rfl, P, hP, hPI⟩ := hbP hb1
  have ht := hT.tree
  have hpos := hT.1
  have hte := treeE_tree (by omega) hT
  rw [← depths_high ht hP hpos] at hte
  apply W.sk
  apply W.seq
  apply W.sr
  apply omv; rfl; rfl
  apply omv; rfl; rfl
  (((first | (with_reducible apply OL.op) | (with_reducible apply QL.op)); (exact Guard.au); rfl; rfl); (refine Pev.call (v := .int .i64 (depths e P e.length : Int)) rfl (by exact Args.au) (fun _ w2 hw2 => ?_)))
  · have h5 := Depth_calls e q qr cap cr P w2 ht hP (by omega) (hPI.at hw2 (by exact mau) (fun k hk => by exact NotOwned.au))
    rw [hel] at h5 ⊢
    exact h5.mono (fun e w3 h => ⟨h.1, hw2.ext h.2⟩)
  apply obn; rfl; rfl; rfl; apply Bin.gtr
  apply OL.nx
  (refine W.cnd (fun hdeep => ?_) (fun hdeep => ?_)) <;> (try (exfalso; first | omega | exact hdeep trivial | contradiction))
  · rw [if_pos (by omega)] at hte
    apply W.sr
    apply oas; rfl; rfl
    apply OL.nx
    refine W.rt ?_
    ((with_reducible apply At.fin1); rfl; rfl; intro w' hw')
    exact ⟨by rw [bodyE_tree (by rw [hte]; simp), hte], by (exact hw'.fr)⟩
  rw [if_neg (by omega)] at hte
  have hkd : ∀ p ∈ es, ∀ k ∈ p.1.kids, 0 ≤ k ∧ k < (es.length : Int) := fun p hp k hk => by
    obtain ⟨i, hi⟩ := List.getElem?_of_mem hp
    have hx : e[i]? = some p.1 := by rw [← hee, List.getElem?_map, hi]; rfl
    have := ht.down i p.1 hx k hk
    have := (List.getElem?_eq_some_iff.1 hx).1
    omega
  apply W.sk
  apply W.seq
  apply W.sr
  apply omv; rfl; rfl
  apply oop; rfl; apply Pev.len_slice; rfl; exact yes; rfl
  apply omv; rfl; rfl
  apply OL.nx
  apply W.block
  refine W.loop (G := Nat) (fun i => i ≤ es.length ∧ firstE (oneE e flat) (e.drop i) = firstE (oneE e flat) e) (fun i => es.length - i)
    (fun i => [(0, true, .slice q es.length cap), (1, true, .slice qp ps.length cp), (2, true, .bool flat), (7, true, .slice qr es.length cr), (33, true, .slice q es.length cap), (34, true, .int .i64 (es.length : Int)), (35, true, .int .i64 (i : Int))])
    (fun i => Cls [] [w1, w]) 0 ⟨by omega, rfl⟩ (by exact Sub.au) (fun w' hw' => hw') ?_
  rintro i ⟨hi, hrest⟩
  apply W.sr
  apply obn; rfl; rfl; rfl; apply Bin.lss
  apply OL.nx
  apply W.seq
  (refine W.cnd (fun hlt => ?_) (fun hlt => ?_)) <;> (try (exfalso; first | omega | exact hlt trivial | contradiction))
  · have hil : i < es.length := by omega
    obtain ⟨a, p, rfl, hab, hpi, hcell, hok⟩ := he.get hil
    have hab : a.block < w.heap.size := hab
    have hcell : CellsAt w (a.add (i * 5)) [.int .i64 p.1.op, .int .i64 p.1.n, .slice p.2.b.1 p.1.binds.length p.2.b.2, .slice p.2.k.1 p.1.kids.length p.2.k.2, .slice p.2.a.1 p.1.alts.length p.2.a.2] := hcell
    have hx : e[i]? = some p.1 := by rw [← hee, List.getElem?_map, hpi]; rfl
    rw [firstE_drop hx] at hrest
    have hone : oneE e flat p.1 = oneR e flat p.1 := (oneR_eq e flat p.1).symm
    apply W.sk
    apply W.sb
    apply W.sr
    apply oop; rfl; apply Pev.idx; rfl; exact yes; rfl; exact yes; rfl; rfl; intro hcond; omega
    apply oop; rfl; apply Pev.load_keptA; rfl; exact yes; exact .tail _ (.head _); rfl; intro hcond; assumption; rfl; intro hcond; (rw [add_block]; assumption); intro hcond; exact NotOwned.au
    apply OL.alloc; rfl; rfl; exact CellsL.agg; (intro bk hbk; simp only [AllLe, and_true] at hbk)
    apply OL.storeB; rfl; rfl; exact CellsL.agg; rfl; rfl; rfl; exact Swap.au; exact Put.au
    apply OL.nx
    apply W.seq
    apply W.sr
    apply omv; rfl; rfl
    apply oop; rfl; apply Pev.load_blkA; rfl; exact yes; exact .head _; rfl; exact Take.au
    apply omv; rfl; rfl
    (((first | (with_reducible apply OL.op) | (with_reducible apply QL.op)); (exact Guard.au); rfl; rfl); (exact Pev.call rfl (by exact Args.au) (fun _ w2 hw2 => (goodForm_calls es (some a) cap p.1 p.2 flat w2 (hok.at hw2 (by exact mau) (fun k hk => by exact NotOwned.au))).mono (fun e w3 h => ⟨h.1, hw2.ext h.2⟩))))
    apply oop; rfl; apply Pev.not; rfl; exact yes
    apply OL.nx
    (refine W.cnd (fun hgf => ?_) (fun hgf => ?_)) <;> (try (exfalso; first | omega | exact hgf trivial | contradiction))
    · have h3 : oneE e flat p.1 = 3 := by rw [hone]; unfold oneR; rw [if_pos (by cases h1 : flatBad flat p.1.op <;> cases h2 : formR p.1 <;> simp_all)]
      rw [h3] at hrest
      apply W.sr
      apply oas; rfl; rfl
      apply OL.nx
      refine W.rt ?_
      ((with_reducible apply At.fin1); rfl; rfl; intro w' hw')
      exact ⟨by rw [bodyE_one hte (by rw [← hrest]; simp), ← hrest]; simp, by (exact hw'.fr)⟩
    have hgf' : (!flatBad flat p.1.op && formR p.1) = true := by cases h1 : flatBad flat p.1.op <;> cases h2 : formR p.1 <;> simp_all
    have hsh : shapeB p.1 = true := by rw [← formR_eq]; exact (Bool.and_eq_true _ _ ▸ hgf' : _ ∧ _).2
    have hskk := shape_kids hsh
    apply W.sk
    apply W.seq
    apply W.sr
    apply oop; rfl; apply Pev.load_blkA; rfl; exact yes; exact .head _; rfl; exact Take.au
    (((first | (with_reducible apply OL.op) | (with_reducible apply QL.op)); (exact Guard.au); rfl; rfl); (exact Pev.call rfl (by exact Args.au) (fun _ w2 hw2 => (numbersError_calls p.1 p.2 w2 (hok.at hw2 (by exact mau) (fun k hk => by exact NotOwned.au))).mono (fun e w3 h => ⟨h.1, hw2.ext h.2⟩))))
    apply oas; rfl; rfl
    apply OL.nsr
    apply omv; rfl; rfl
    apply obn; rfl; rfl; rfl; apply Bin.neq
    apply OL.nx
    (refine W.cnd (fun hne => ?_) (fun hne => ?_)) <;> (try (exfalso; first | omega | exact hne trivial | contradiction))
    · have h3 : oneE e flat p.1 = numE p.1 := by rw [hone]; unfold oneR; rw [if_neg (by rw [hgf']; simp), if_pos (by simpa using hne)]
      rw [h3, if_neg (by simpa using hne)] at hrest
      apply W.sr
      apply omv; rfl; rfl
      apply oas; rfl; rfl
      apply OL.nx
      refine W.rt ?_
      ((with_reducible apply At.fin1); rfl; rfl; intro w' hw')
      exact ⟨by rw [bodyE_one hte (by rw [← hrest]; simpa using hne), ← hrest], by (exact hw'.fr)⟩
    apply W.sk
    apply W.sr
    apply omv; rfl; rfl
    apply oop; rfl; apply Pev.load_blkA; rfl; exact yes; exact .head _; rfl; exact Take.au
    (((first | (with_reducible apply OL.op) | (with_reducible apply QL.op)); (exact Guard.au); rfl; rfl); (exact Pev.call rfl (by exact Args.au) (fun _ w2 hw2 => (goodKids_calls es (some a) cap p.1 p.2 w2 (hok.at hw2 (by exact mau) (fun k hk => by exact NotOwned.au)) (he.at hw2 (by exact mau) (fun k hk => by exact NotOwned.au)) hl4 (hkd p (List.mem_of_getElem? hpi)) hskk.2.2).mono (fun e w3 h => ⟨h.1, hw2.ext h.2⟩))))
    rw [hee]
    apply oop; rfl; apply Pev.not; rfl; exact yes
    apply OL.nx
    (refine W.cnd (fun hgk => ?_) (fun hgk => ?_)) <;> (try (exfalso; first | omega | exact hgk trivial | contradiction))
    · have h3 : oneE e flat p.1 = 3 := by rw [hone]; unfold oneR; rw [if_neg (by rw [hgf']; simp), if_neg (by simpa using hne), if_pos (by simpa using hgk)]
      rw [h3] at hrest
      apply W.sr
      apply oas; rfl; rfl
      apply OL.nx
      refine W.rt ?_
      ((with_reducible apply At.fin1); rfl; rfl; intro w' hw')
      exact ⟨by rw [bodyE_one hte (by rw [← hrest]; simp), ← hrest]; simp, by (exact hw'.fr)⟩
    have h3 : oneE e flat p.1 = 0 := by rw [hone]; unfold oneR; rw [if_neg (by rw [hgf']; simp), if_neg (by simpa using hne), if_neg (by simpa using hgk)]
    rw [h3, if_pos rfl] at hrest
    apply W.skip
    with_reducible apply At.in_normal
    with_reducible apply At.next
    apply W.reg
    apply obn; rfl; rfl; rfl; apply Bin.add_in; omega
    apply omv; rfl; rfl
    apply OL.nil
    exact At.again (i + 1) ⟨by omega, hrest⟩ (by omega) (by exact Sub.au) (fun w' hw' => hw'.thin (by exact Thin.au))
  obtain rfl : i = es.length := by omega
  rw [← hel, List.drop_length] at hrest
  have hall : firstE (oneE e flat) e = 0 := hrest.symm
  have hzero : ∀ x ∈ e, nodeE e x = 0 ∧ x.kids.length ≤ 4096 := fun x hx => by
    obtain ⟨i, hi⟩ := List.getElem?_of_mem hx
    have h2 := kids_len ht hi
    exact ⟨oneR_zero (firstE_zero.1 hall x hx), by omega⟩
  have hlim : ∀ x ∈ e, Lim x := fun x hx => by
    obtain ⟨h1, h2⟩ := hzero x hx
    obtain ⟨h3, h4⟩ := nodeE_zero h1
    exact lim_of h3 h4 h2
  have hmem : ∀ p ∈ es, p.1 ∈ e := fun p hp => by rw [← hee]; exact List.mem_map_of_mem hp
  have hskk : ∀ p ∈ es, shapeB p.1 = true := fun p hp => (nodeE_zero (hzero p.1 (hmem p hp)).1).1
  clear hrest
  refine W.xt ?_
  with_reducible apply At.next
  apply W.sr
  apply omv; rfl; rfl
  refine OL.cls (C' := Cls [row w1.heap.size (fun _ => False) none 0 0 3 1 []] [w1, w]) (fun w' hw' => hw'.row_nil w1.heap.size 3 1) ?_
  skip
  (apply OL.appendK (news := ints ps)); rfl; rfl; rfl; rfl; (exact Hole.au); (exact fun w2 hw2 => (hp.at hw2 (.tail _ (.head _)) (fun k hk => by exact NotOwned.au)).slAt); (rw [ints_length, Nat.mul_one]); (exact ints_oneL _); (exact ⟨w1, .head _, Nat.le_refl _⟩); (omega); (intro O1 q1 c1)
  simp only [Nat.zero_add, List.nil_append]
  obtain ⟨all, hal⟩ : ∃ f : Nat → List Int, f = fun i => ps ++ (e.take i).flatMap bindersX := ⟨_, rfl⟩
  have hbnd : ∀ i, (all i).length ≤ 4096 + 4096 * 65552 := fun i => by
    have h1 := binders_small (l := e.take i) fun x hx => hlim x (List.mem_of_mem_take hx)
    rw [hal]
    simp only [List.length_append]
    have h2 : (e.take i).length ≤ 4096 := by rw [List.length_take]; omega
    have h3 : (e.take i).length * 65552 ≤ 4096 * 65552 := Nat.mul_le_mul_right _ h2
    omega
  have hall0 : all 0 = ps := by rw [hal]; simp
  have hallE : all es.length = ps ++ e.flatMap bindersX := by rw [hal]; simp only; rw [← hel, List.take_length]
  have hsnoc : ∀ {i : Nat} {x : Ex}, e[i]? = some x → all (i + 1) = all i ++ bindersX x := fun {i x} hx => by
    rw [hal]
    simp only
    rw [List.take_add_one, hx]
    simp
  clear hal
  apply oas; rfl; rfl
  apply OL.nx
  apply W.seq
  apply W.sr
  apply omv; rfl; rfl
  apply oop; rfl; apply Pev.len_slice; rfl; exact yes; rfl
  apply omv; rfl; rfl
  apply OL.nx
  apply W.block
  refine W.loop (G := Nat × GR) (fun g => g.1 ≤ es.length) (fun g => es.length - g.1)
    (fun g => [(0, true, .slice q es.length cap), (1, true, .slice qp ps.length cp), (7, true, .slice qr es.length cr), (12, true, .slice g.2.q (all g.1).length g.2.c), (56, true, .slice q es.length cap), (57, true, .int .i64 (es.length : Int)), (58, true, .int .i64 (g.1 : Int))])
    (fun g => Cls [row w1.heap.size g.2.O g.2.q (all g.1).length g.2.c 3 1 (ints (all g.1))] [w1, w]) (0, ⟨O1, q1, c1⟩) (by simp) (by rw [hall0]; exact Sub.au) (fun w' hw' => by rw [hall0]; exact hw') ?_
  rintro ⟨i, ⟨O2, q2, c2⟩⟩ hi2
  simp only at hi2 ⊢
  apply W.sr
  apply obn; rfl; rfl; rfl; apply Bin.lss
  apply OL.nx
  apply W.seq
  (refine W.cnd (fun hlt2 => ?_) (fun hlt2 => ?_)) <;> (try (exfalso; first | omega | exact hlt2 trivial | contradiction))
  · have hil : i < es.length := by omega
    obtain ⟨a, p, hqa, hab, hpi, hcell, hok⟩ := he.get hil
    have hab : a.block < w.heap.size := hab
    have hcell : CellsAt w (a.add (i * 5)) [.int .i64 p.1.op, .int .i64 p.1.n, .slice p.2.b.1 p.1.binds.length p.2.b.2, .slice p.2.k.1 p.1.kids.length p.2.k.2, .slice p.2.a.1 p.1.alts.length p.2.a.2] := hcell
    have hx : e[i]? = some p.1 := by rw [← hee, List.getElem?_map, hpi]; rfl
    have hL := hlim p.1 (List.mem_of_getElem? hx)
    have hb1 := hbnd i
    have hb2 := hbnd (i + 1)
    rw [hsnoc hx, List.length_append] at hb2
    rw [hqa]
    apply W.sk
    apply W.sb
    apply W.sr
    apply oop; rfl; apply Pev.idx; rfl; exact yes; rfl; exact yes; rfl; rfl; intro hcond; omega
    apply oop; rfl; apply Pev.load_keptA; rfl; exact yes; exact .tail _ (.head _); rfl; intro hcond; assumption; rfl; intro hcond; (rw [add_block]; assumption); intro hcond; exact NotOwned.au
    apply OL.alloc; rfl; rfl; exact CellsL.agg; (intro bk hbk; simp only [AllLe, and_true] at hbk)
    apply OL.storeB; rfl; rfl; exact CellsL.agg; rfl; rfl; rfl; exact Swap.au; exact Put.au
    apply OL.nx
    apply W.reg
    apply omv; rfl; rfl
    apply oop; rfl; apply Pev.load_blkA; rfl; exact yes; exact .head _; rfl; exact Take.au
    refine OL.callE (α := World × Nat × Option Addr × Nat) (fun x => .slice x.2.2.1 (bindersX p.1).length x.2.2.2) (fun x => w1.heap.size ≤ x.1.heap.size ∧ (∀ k, w1.heap.size ≤ k → O2 k → k < x.2.1) ∧ bk < x.2.1 ∧ w1.heap.size ≤ x.2.1 ∧ IntsO x.1 (fun k => x.2.1 ≤ k ∧ k < x.1.heap.size) (bindersX p.1) x.2.2.1) (fun x => Cls [blk bk 28 [.int .i64 p.1.op, .int .i64 p.1.n, .slice p.2.b.1 p.1.binds.length p.2.b.2, .slice p.2.k.1 p.1.kids.length p.2.k.2, .slice p.2.a.1 p.1.alts.length p.2.a.2], row w1.heap.size O2 q2 (all i).length c2 3 1 (ints (all i))] [x.1, w1, w]) rfl rfl (by exact Args.au) (fun w2 hw2 => ?_) ?_
    · have hlt3 := hw2.lt _ (.head _) bk rfl
      have hrow : ∀ k, w1.heap.size ≤ k → O2 k → k < w2.heap.size := fun k h1 h2 => hw2.lt _ (.tail _ (.head _)) k ⟨h1, h2⟩
      have hkw := (hw2.kp w1 (by exact mau)).size
      refine (Binds_calls p.1 p.2 w2 (hok.at hw2 (by exact mau) (fun k hk => by exact NotOwned.au)) hL.b hL.a hL.ab).mono fun e1 w3 ⟨q3, c3, h1, h2, h3, h4⟩ => ?_
      exact ⟨(w3, w2.heap.size, q3, c3), h1, ⟨Nat.le_trans hkw h2.size, hrow, hlt3, hkw, h3⟩, (hw2.ext h2).note⟩
    rintro ⟨w3, lo, q3, c3⟩ ⟨hsz3, hrow, hblo, hwlo, hI3⟩
    simp only at hsz3 hrow hblo hwlo hI3 ⊢
    have hb3 := hsnoc hx
    generalize hbi : bindersX p.1 = bs at *
    (apply OL.appendK (news := ints bs)); rfl; rfl; rfl; rfl; (exact Hole.au); (exact fun w4 hw4 => (hI3.part hw4 (.head _) (fun k hk => NotOwned.blk (by omega) (NotOwned.any (fun hm => by have := hrow k hm.1 hm.2; omega) NotOwned.nil))).slAt); (rw [ints_length, Nat.mul_one]); (exact ints_oneL _); (exact ⟨w1, .tail _ (.head _), Nat.le_refl _⟩); (omega); (intro O4 q4 c4)
    rw [← ints_append, ← List.length_append, ← hb3]
    apply oas; rfl; rfl
    apply OL.nil
    with_reducible apply At.in_normal
    with_reducible apply At.next
    apply W.reg
    apply obn; rfl; rfl; rfl; apply Bin.add_in; omega
    apply omv; rfl; rfl
    apply OL.nil
    refine At.again (i + 1, ⟨O4, q4, c4⟩) (by simp only; omega) (by simp only; omega) (by exact Sub.au) (fun w' hw' => (hw'.forget (by simp)).thin (by exact Thin.au))
  obtain rfl : i = es.length := by omega
  have hb1 := hbnd es.length
  rw [hallE] at hb1 ⊢
  clear hbnd hsnoc hall0
  refine W.exx (X := { x : World // IntsO x (low x) (ps ++ e.flatMap bindersX) q2 ∧ w1.heap.size ≤ x.heap.size ∧ (ps ++ e.flatMap bindersX).length ≤ c2 }) (C' := fun x => Cls [] [x.1, w1, w]) (fun w2 hw2 => ⟨⟨w2, IntsO.mono (fun k hk => hk.2) (rowInts hw2 (.head _) (Nat.le_refl _)), (hw2.kp w1 (by exact mau)).size, row_cap (hw2.item (.head _))⟩, (hw2.thin (Thin.any (fun k hk => ⟨hk.1, Nat.le_trans hsz1 hk.1, trivial⟩) Thin.nil)).note⟩) ?_
  rintro ⟨w5, hI5, hsz5, hcap5⟩
  simp only
  have hbt2 := bodyE_twice (ps := ps) hte hall
  have hbf2 := fun n => bodyE_free (ps := ps) (n := n) hte hall
  have hbo2 := bodyE_ok (ps := ps) hte hall
  generalize ps ++ e.flatMap bindersX = L at *
  refine W.xt ?_
  with_reducible apply At.next
  apply W.seq
  apply W.sr
  apply omv; rfl; rfl
  apply oop; rfl; apply Pev.len_slice; rfl; exact yes; rfl
  apply omv; rfl; rfl
  apply OL.nx
  apply W.block
  refine W.loop (G := Nat) (fun i => i ≤ L.length ∧ (L.take i).Nodup) (fun i => L.length - i)
    (fun i => [(0, true, .slice q es.length cap), (1, true, .slice qp ps.length cp), (7, true, .slice qr es.length cr), (12, true, .slice q2 L.length c2), (67, true, .slice q2 L.length c2), (68, true, .int .i64 (L.length : Int)), (69, true, .int .i64 (i : Int))])
    (fun _ => Cls [] [w5, w1, w]) 0 ⟨by omega, by simp⟩ (by exact Sub.au) (fun w' hw' => hw') ?_
  rintro i ⟨hi, hnd⟩
  apply W.sr
  apply obn; rfl; rfl; rfl; apply Bin.lss
  apply OL.nx
  apply W.seq
  (refine W.cnd (fun hlt3 => ?_) (fun hlt3 => ?_)) <;> (try (exfalso; first | omega | exact hlt3 trivial | contradiction))
  · have hil : i < L.length := by omega
    obtain ⟨a, v, rfl, hab, hv, hcell⟩ := hI5.get hil
    have hab : a.block < w5.heap.size := hab
    have hlT : (L.take i).length = i := by rw [List.length_take]; omega
    have hsplit : L = L.take i ++ v :: L.drop (i + 1) := by
      obtain ⟨h1, rfl⟩ := List.getElem?_eq_some_iff.1 hv
      rw [← List.drop_eq_getElem_cons h1, List.take_append_drop]
    have htake : L.take (i + 1) = L.take i ++ [v] := by rw [List.take_add_one, hv]; rfl
    apply W.sk
    apply W.sb
    apply W.sr
    apply omv; rfl; rfl
    apply oop; rfl; apply Pev.idx; rfl; exact yes; rfl; exact yes; rfl; rfl; intro hcond; omega
    apply oop; rfl; apply Pev.load_kept; rfl; exact yes; exact .head _; rfl; intro hcond; assumption; intro hcond; (rw [add_block]; assumption); intro hcond; exact NotOwned.au
    apply oas; rfl; rfl
    apply oas; rfl; rfl
    apply OL.nsr
    apply omv; rfl; rfl
    apply omv; rfl; rfl
    apply oop; rfl; apply Pev.slice_hi; rfl; exact yes; rfl; exact yes; rfl; rfl; intro hcond; omega
    apply omv; rfl; rfl
    (((first | (with_reducible apply OL.op) | (with_reducible apply QL.op)); (exact Guard.au); rfl; rfl); (refine Pev.call (v := .bool (decide (v ∈ L.take i))) rfl (by exact Args.au) (fun _ w2 hw2 => ?_)))
    · have h5 := In_calls (some a) c2 (L.take i) v w2 (by omega) ((hI5.take i).at hw2 (by exact mau) (fun k hk => by exact NotOwned.au))
      rw [hlT] at h5
      exact h5.mono (fun e w3 h => ⟨h.1, hw2.ext h.2⟩)
    apply OL.nx
    (refine W.cnd (fun hin => ?_) (fun hin => ?_)) <;> (try (exfalso; first | omega | exact hin trivial | contradiction))
    · apply W.sr
      apply oas; rfl; rfl
      apply OL.nx
      refine W.rt ?_
      ((with_reducible apply At.fin1); rfl; rfl; intro w' hw')
      have hnn : ¬ L.Nodup := by
        rw [hsplit]
        exact not_nodup hin
      exact ⟨by rw [hbt2 hnn], by (exact hw'.fr)⟩
    apply W.skip
    with_reducible apply At.in_normal
    with_reducible apply At.next
    apply W.reg
    apply obn; rfl; rfl; rfl; apply Bin.add_in; omega
    apply omv; rfl; rfl
    apply OL.nil
    exact At.again (i + 1) ⟨by omega, by rw [htake]; exact nodup_snoc hnd hin⟩ (by omega) (by exact Sub.au) (fun w' hw' => hw')
  obtain rfl : i = L.length := by omega
  rw [List.take_length] at hnd
  refine W.xt ?_
  with_reducible apply At.next
  apply W.seq
  apply W.sr
  apply omv; rfl; rfl
  apply oop; rfl; apply Pev.len_slice; rfl; exact yes; rfl
  apply omv; rfl; rfl
  apply OL.nx
  apply W.block
  refine W.loop (G := Nat) (fun i => i ≤ es.length ∧ ∀ (j : Nat) (x : Ex), j < i → e[j]? = some x → x.op = 0 → bnd e P x.n j < 0 → x.n ∈ ps) (fun i => es.length - i)
    (fun i => [(0, true, .slice q es.length cap), (1, true, .slice qp ps.length cp), (7, true, .slice qr es.length cr), (80, true, .slice q es.length cap), (81, true, .int .i64 (es.length : Int)), (82, true, .int .i64 (i : Int))])
    (fun _ => Cls [] [w1, w]) 0 ⟨by omega, fun j x hj => by omega⟩ (by exact Sub.au) (fun w' hw' => hw'.forget (by simp)) ?_
  rintro i ⟨hi, hfr⟩
  apply W.sr
  apply obn; rfl; rfl; rfl; apply Bin.lss
  apply OL.nx
  apply W.seq
  (refine W.cnd (fun hlt4 => ?_) (fun hlt4 => ?_)) <;> (try (exfalso; first | omega | exact hlt4 trivial | contradiction))
  · have hil : i < es.length := by omega
    obtain ⟨a, p, hqa, hab, hpi, hcell, hok⟩ := he.get hil
    have hab : a.block < w.heap.size := hab
    have hcell : CellsAt w (a.add (i * 5)) [.int .i64 p.1.op, .int .i64 p.1.n, .slice p.2.b.1 p.1.binds.length p.2.b.2, .slice p.2.k.1 p.1.kids.length p.2.k.2, .slice p.2.a.1 p.1.alts.length p.2.a.2] := hcell
    have hx : e[i]? = some p.1 := by rw [← hee, List.getElem?_map, hpi]; rfl
    rw [hqa]
    apply W.sk
    apply W.sb
    apply W.sr
    apply omv; rfl; rfl
    apply oop; rfl; apply Pev.idx; rfl; exact yes; rfl; exact yes; rfl; rfl; intro hcond; omega
    apply oop; rfl; apply Pev.load_keptA; rfl; exact yes; exact .tail _ (.head _); rfl; intro hcond; assumption; rfl; intro hcond; (rw [add_block]; assumption); intro hcond; exact NotOwned.au
    apply OL.alloc; rfl; rfl; exact CellsL.agg; (intro bk hbk; simp only [AllLe, and_true] at hbk)
    apply oas; rfl; rfl
    apply OL.storeB; rfl; rfl; exact CellsL.agg; rfl; rfl; rfl; exact Swap.au; exact Put.au
    apply OL.nsr
    apply ofa; rfl; rfl; rfl
    apply old; rfl; rfl; exact .head _; rfl; rfl
    apply obn; rfl; rfl; rfl; apply Bin.eql
    apply omv; rfl; rfl
    apply oy; rfl; rfl; rfl; apply Pev.move; rfl; exact yes
    apply oy; rfl; rfl; rfl; apply Pev.move; rfl; exact yes
    apply oy; rfl; rfl; rfl; apply Pev.move; rfl; exact yes
    (((first | (with_reducible apply OL.op) | (with_reducible apply QL.op)); (exact Guard.au); rfl; rfl); (exact Pev.call (v := .int .i64 (bnd e P p.1.n i)) rfl (by exact Args.au) (fun _ w2 hw2 => by
      have h5 := binder_calls es (some a) qr cap cr P i p.1 w2 (hqa ▸ he.at hw2 (by exact mau) (fun k hk => by exact NotOwned.au)) hl4 (by rw [hee]; exact ht) (by rw [hee]; exact hP) (hPI.at hw2 (by exact mau) (fun k hk => by exact NotOwned.au)) (by rw [hee]; exact hx) (fun p hp => (shape_kids (hskk p hp)).1) (fun p hp => (shape_kids (hskk p hp)).2.1)
      rw [hee] at h5
      exact h5.mono (fun e w3 h => ⟨h.1, hw2.ext h.2⟩))))
    apply oy; rfl; rfl; rfl; apply Pev.bin; rfl; exact fun h => h; rfl; exact yes; intro hcond; apply Bin.lss
    apply oop; rfl; apply Pev.pick_and; rfl; exact yes; rfl; exact fun h => h
    apply omv; rfl; rfl
    apply oy; rfl; rfl; rfl; apply Pev.move; rfl; exact yes
    apply oy; rfl; rfl; rfl; apply Pev.fld; rfl; exact yes; rfl
    apply oy; rfl; rfl; rfl; apply Pev.load_blk; rfl; exact fun h => h; exact .head _; rfl; rfl
    (((first | (with_reducible apply OL.op) | (with_reducible apply QL.op)); (exact Guard.au); rfl; rfl); (exact Pev.call rfl (by exact Args.au) (fun _ w2 hw2 => (In_calls qp cp ps p.1.n w2 (by omega) (hp.at hw2 (by exact mau) (fun k hk => by exact NotOwned.au))).mono (fun e w3 h => ⟨h.1, hw2.ext h.2⟩))))
    apply oy; rfl; rfl; rfl; apply Pev.not; rfl; exact fun h => h
    apply oop; rfl; apply Pev.pick_and; rfl; exact yes; rfl; exact fun h => h
    apply OL.nx
    refine W.cond rfl (fun hb => ?_) (fun hb => ?_)
    · simp only [Bool.and_eq_true, decide_eq_true_eq, Bool.not_eq_true', decide_eq_false_iff_not] at hb
      apply W.sr
      apply oas; rfl; rfl
      apply OL.nx
      refine W.rt ?_
      ((with_reducible apply At.fin1); rfl; rfl; intro w' hw')
      exact ⟨by rw [hbf2 p.1.n hnd (free_bad ht hP hpos hx hb.1.1 hb.1.2) hb.2], by (exact hw'.fr)⟩
    · simp only [Bool.and_eq_false_iff, decide_eq_false_iff_not, Bool.not_eq_false', decide_eq_true_eq] at hb
      apply W.skip
      with_reducible apply At.in_normal
      with_reducible apply At.next
      apply W.reg
      apply obn; rfl; rfl; rfl; apply Bin.add_in; omega
      apply omv; rfl; rfl
      apply OL.nil
      refine At.again (i + 1) ⟨by omega, fun j x hj hxj hop hbn => ?_⟩ (by omega) (by exact Sub.au) (fun w' hw' => hw'.thin (by exact Thin.au))
      by_cases ej : j = i
      · subst ej
        rw [hx] at hxj
        obtain rfl := Option.some.inj hxj
        rcases hb with (hb | hb) | hb
        · exact absurd hop hb
        · omega
        · exact hb
      · exact hfr j x (by omega) hxj hop hbn
  · obtain rfl : i = es.length := by omega
    refine W.xt ?_
    with_reducible apply At.next
    apply W.sr
    apply oas; rfl; rfl
    apply OL.nx
    apply W.ret
    ((with_reducible apply At.fin1); rfl; rfl; intro w' hw')
    exact ⟨by rw [hbo2 hnd (free_ok ht hP hpos fun j x hx => hfr j x (by have := (List.getElem?_eq_some_iff.1 hx).1; omega) hx)], by (exact hw'.fr)⟩
theorem Fault_calls (es : List (Ex × ExY)) (q : Option Addr) (cap : Nat) (w : World) (he : Arr exR w (low w) es q) (hlen : es.length ≤ 9223372036854775807) :
    Calls Tryd.prog 12 [.slice q es.length cap].toArray w fun e w' => e = .returned (.int .i64 (bodyE (es.map Prod.fst) [] false)) ∧ Ext w w' := by
  refine enter Tryd.func12 rfl Tryd.ntmps12 rfl (Cls.start w) ?_
  (simp only [argEnv, Nat.zero_add, Nat.reduceAdd])
  apply W.sr
  apply oas; rfl; rfl
  apply OL.nsr
  apply omv; rfl; rfl
  (((first | (with_reducible apply OL.op) | (with_reducible apply QL.op)); (exact Guard.au); rfl; rfl); (exact Pev.call rfl (by exact Args.au) (fun _ w2 hw2 => (BodyFault_calls es q none cap 0 [] false w2 (he.at hw2 (by exact mau) (fun k hk => by exact NotOwned.au)) hlen IntsO.nil (by simp)).mono (fun e w3 h => ⟨h.1, hw2.ext h.2⟩))))
  apply oas; rfl; rfl
  apply OL.nx
  apply W.ret
  ((with_reducible apply At.fin1); rfl; rfl; intro w' hw')
  exact ⟨rfl, by (exact hw'.fr)⟩
end Go.Proofs.YtlboppiogeaicaaDoor.co

/- Append onto a full slice that reads (a new row), and onto a slice that is a block of the call's own. General. No condition. -/
namespace Go.Eng
open Go.RowKit
set_option linter.unusedVariables false
set_option linter.unusedSimpArgs false
section
variable {P : Program} {n : Nat} {l : Env} {H : List Item} {S : List World} {C : World → Prop} {ty : TypeId} {pos : String} {af : Array Edge}
variable {ops : Array Oper} {rest : List Oper} {Q : Exit → Act → World → Prop} {t : TypeId} {x y : Operand}
theorem Hole.at {p : Nat} {i : Item} {F : Item → List Item} (h : Hole p H i F) (j : Item) : Hole p (F j) j F := by
  induction h with
  | z => exact Hole.z
  | s _ ih => exact Hole.s ih
theorem Cls.blk_row_at {p b base m sz : Nat} {e : TypeId} {cs : List Value} {w : World} {F : Item → List Item} (hh : Hole p H (blk b e cs) F) (h : Cls H S w) (hb : base ≤ b) (hl : cs.length = m * sz) (hm : m ≤ maxLen) :
    Cls (F (row base (fun k => k = b) (some ⟨b, 0, none⟩) m m e sz cs)) S w := by
  obtain ⟨h1, h2⟩ := hh.eq
  rw [h2]
  have hmem := List.mem_of_getElem? h1
  have h0 : (blk b e cs).holds w := h.holds _ hmem
  refine h.turn p h1 (Keep.refl _ _) ⟨fun a ha => by cases ha; rfl, hl, .inr ⟨b, m, cs.toArray, rfl, hb, h0, Nat.le_refl _, hm, by simpa using hl, List.take_of_length_le (by simp [hl])⟩⟩ (fun k hk => ?_) (fun k hk => ?_)
  · exact ⟨.inl hk.2, h.lt _ hmem k hk.2⟩
  · have hk' : k = b := hk
    exact ⟨by rw [hk']; exact hb, hk'⟩
/-- one slice behind a block that is full -/
theorem OL.appendB {F : Item → List Item} {e : TypeId} {dd sz bb p m cap2 m2 base b : Nat} {q2 : Option Addr} {cs news : List Value}
    (hx : evl l x = some (true, .slice (some ⟨b, 0, none⟩) m m)) (hy : evl l y = some (true, .slice q2 m2 cap2)) (hn : Nat.ble (dd + 1) n = true)
    (hu : rowElem P t = some (e, sz, bb)) (hp' : Hole p H (blk b e cs) F) (hb : base ≤ b) (hlc : cs.length = m * sz) (hsl : ∀ w, Cls (F (row base (fun k => k = b) (some ⟨b, 0, none⟩) m m e sz cs)) S w → SlAt w w.heap.size q2 news) (hl : news.length = m2 * sz) (h1 : oneL news = true)
    (hs : ∃ s ∈ S, base ≤ s.heap.size) (hlim : (m + m2) ≤ 9223372036854775807 ∧ (m + m2) * bb ≤ 140737488355328)
    (k : ∀ (O' : Nat → Prop) (q' : Option Addr) (cap' : Nat), OL P n ops Q rest ((dd, true, .slice q' (m + m2) cap') :: l) (Cls (F (row base O' q' (m + m2) cap' e sz (cs ++ news))) S)) :
    OL P n ops Q (⟨some dd, .call { callee := .builtin .append, args := #[x, y], argTypes := #[t, t] }, ty, pos, af, none⟩ :: rest) l (Cls H S) := by
  refine OL.cls (C' := Cls (F (row base (fun k => k = b) (some ⟨b, 0, none⟩) m m e sz cs)) S) (fun w hw => hw.blk_row_at hp' hb hlc (by simp only [maxLen]; omega)) ?_
  exact OL.appendK hx hy hn hu (hp'.at _) hsl hl h1 hs hlim k
/-- one slice behind another one that is full: a new row -/
theorem OL.appendF {F : Item → List Item} {e : TypeId} {dd sz bb p m cap2 m2 base : Nat} {q q2 : Option Addr} {xs news : List Value}
    (hx : evl l x = some (true, .slice q m m)) (hy : evl l y = some (true, .slice q2 m2 cap2)) (hn : Nat.ble (dd + 1) n = true)
    (hu : rowElem P t = some (e, sz, bb)) (hp' : Hole p H nothing F) (hsx : ∀ w, Cls H S w → SlAt w w.heap.size q xs) (hlx : xs.length = m * sz) (hsl : ∀ w, Cls H S w → SlAt w w.heap.size q2 news) (hl : news.length = m2 * sz) (h1 : oneL news = true) (hpos : 0 < m2)
    (hs : ∃ s ∈ S, base ≤ s.heap.size) (hlim : (m + m2) ≤ 9223372036854775807 ∧ (m + m2) * bb ≤ 140737488355328) (hq0 : q = none → m = 0)
    (k : ∀ (O' : Nat → Prop) (q' : Option Addr) (cap' : Nat), OL P n ops Q rest ((dd, true, .slice q' (m + m2) cap') :: l) (Cls (F (row base O' q' (m + m2) cap' e sz (xs ++ news))) S)) :
    OL P n ops Q (⟨some dd, .call { callee := .builtin .append, args := #[x, y], argTypes := #[t, t] }, ty, pos, af, none⟩ :: rest) l (Cls H S) := by
  refine OL.newT (α := (Nat → Prop) × Option Addr × Nat) (C' := fun r w => Cls (F (row base r.1 r.2.1 (m + m2) r.2.2 e sz (xs ++ news))) S w) rfl rfl hn (fun r => .slice r.2.1 (m + m2) r.2.2) (fun a w hs' hc => ?_) (fun r => k r.1 r.2.1 r.2.2)
  obtain ⟨i, z, g1, g2, g3, g4, g5, g6, g7⟩ := rowElem_spec hu
  obtain ⟨s, hsm, hsb⟩ := hs
  have hbw : base ≤ w.heap.size := Nat.le_trans hsb (hc.kp s hsm).size
  have hnl : 0 < news.length := by rw [hl]; exact Nat.mul_pos hpos g7
  obtain ⟨ad, rfl, _, hca⟩ := hsl w hc hnl
  have hnews : ∀ j u, news[j]? = some u → w.cell? (ad.add j) = some u := fun j u hj => hca j u hj
  have key : ∃ v' w', (Builtin.append_ #[t, t] ty #[.slice q m m, .slice (some ad) m2 cap2]).run P w = .ok v' w' ∧ w'.ownsRow w.heap.size e sz v' (m + m2) (xs ++ news) ∧ w.grownBy w' none := by
    cases q with
    | none =>
      have hm := hq0 rfl
      subst hm
      have hxs : xs = [] := List.eq_nil_of_length_eq_zero (by omega)
      subst hxs
      obtain ⟨v', w', hr, h2, h3, h4, h5⟩ := run_append_own_at (P := P) (w := w) w.heap.size t ty e i z sz bb g1 g2 g3 g4 g5 g6 g7 (.slice none 0 0) 0 [] ⟨by simp, .inl ⟨rfl, rfl⟩⟩ ad m2 cap2 news hl hnews (fun u hu => oneL_mem h1 u hu) (by simp only [maxLen]; omega) hlim.2 (Nat.le_refl _)
      exact ⟨v', w', hr, h2, h3⟩
    | some ax =>
      have holds : ∀ j u, xs[j]? = some u → w.cell? (ax.add j) = some u := fun j u hj => by
        obtain ⟨a2, e2, _, hc2⟩ := hsx w hc (by have := (List.getElem?_eq_some_iff.1 hj).1; omega)
        obtain rfl := Option.some.inj e2
        exact hc2 j u hj
      exact run_append_arg_grows (P := P) (w := w) t ty e i z sz bb g1 g2 g3 g4 g5 g6 g7 ax m m xs hlx holds ad m2 cap2 news hl hnews (by omega) (by simp only [maxLen]; omega) hlim.2
  obtain ⟨v', w', hr, h2, h3⟩ := key
  have hext : Ext w w' := ⟨h3.os, h3.tape, h3.output, h3.size, fun k hk hn => h3.block k hk (fun h => by cases h)⟩
  rcases h2.2 with ⟨_, h0⟩ | ⟨g', cap', cur, rfl, hb', hg', hrest⟩
  · omega
  · refine ⟨(fun k => k = g', some ⟨g', 0, none⟩, cap'), w', ?_, ?_⟩
    · simp only [execOp, resolve, invoke, builtin, Sem.run_bind, Sem.run_pure, Result.andThen_ok, List.map_toArray, List.map_cons, List.map_nil, hs'.eval hx rfl, hs'.eval hy rfl, hr]
    · refine Cls.fill hp' (hc.add hext _ ⟨fun a ha => by cases ha; rfl, h2.1, .inr ⟨g', cap', cur, rfl, Nat.le_trans hbw hb', hg', hrest⟩⟩ (fun k hk => ?_))
      have hk' : k = g' := hk.2
      rw [hk']
      exact ⟨hb', (Array.getElem?_eq_some_iff.1 hg').1⟩
end
end Go.Eng

/- The walk of the reference's UsageOf. Conditions: none. (Printed by usr.py.) -/
namespace Go.Co
open Go.Eng Go.RowKit
set_option linter.unusedVariables false
set_option linter.unusedSimpArgs false
theorem tw_takeU {n : Int} : ∀ {l : List Int} {k : Nat}, (∀ (j : Nat) x, j < k → l[j]? = some x → x < n) → (∀ x, l[k]? = some x → ¬ x < n) → l.takeWhile (fun x => decide (x < n)) = l.take k ∧ l.dropWhile (fun x => decide (x < n)) = l.drop k
  | [], k, _, _ => by simp
  | a :: r, 0, _, h => by
    have := h a rfl
    simp [List.takeWhile_cons, List.dropWhile_cons, this]
  | a :: r, k + 1, h1, h2 => by
    have ha := h1 0 a (by omega) rfl
    obtain ⟨h3, h4⟩ := tw_takeU (l := r) (k := k) (fun j x hj hx => h1 (j + 1) x (by omega) (by simpa using hx)) (fun x hx => h2 x (by simpa using hx))
    simp [List.takeWhile_cons, List.dropWhile_cons, ha, h3, h4]
theorem body_treePU {e : List Ex} {ps : List Int} {flat : Bool} (h : bodyE e ps flat = 0) : TreeP e := by
  have h1 : treeE e = 0 := by
    by_cases h1 : treeE e = 0
    · exact h1
    · rw [bodyE_tree h1] at h; exact h
  unfold treeE at h1
  split at h1
  · cases h1
  · split at h1
    · assumption
    · cases h1
theorem kids13 {x : Ex} (h : shapeB x = true) (h13 : x.op = 13) : 0 < x.kids.length := by
  unfold shapeB altsB at h
  rw [if_pos (.inr h13)] at h
  simp at h
  omega
structure XF (w5 : World) where
  b6 : Nat
  hb6 : w5.heap.size ≤ b6
  O10 : Nat → Prop
  q10 : Option Addr
  c10 : Nat
  O11 : Nat → Prop
  q11 : Option Addr
  c11 : Nat
  old : Nat → Value
structure FU where
  w5 : World
  q : Option Addr
  c : Nat
def usesTo (e : List Ex) (n : Int) (i : Nat) : Nat := (List.range i).countP (occB e n)
def farTo (e : List Ex) (P : List Int) (n : Int) (i : Nat) : Bool := (List.range i).any (farB e P (bdv e P) n)
theorem usesTo_succ (e : List Ex) (n : Int) (i : Nat) : usesTo e n (i + 1) = usesTo e n i + if occB e n i then 1 else 0 := by
  unfold usesTo
  rw [List.range_succ, List.countP_append]
  simp [List.countP_cons]
theorem farTo_succ (e : List Ex) (P : List Int) (n : Int) (i : Nat) : farTo e P n (i + 1) = (farTo e P n i || farB e P (bdv e P) n i) := by
  unfold farTo
  rw [List.range_succ, List.any_append]
  simp
theorem usesTo_le (e : List Ex) (n : Int) (i : Nat) : usesTo e n i ≤ i := by
  have := List.countP_le_length (p := occB e n) (l := List.range i)
  rw [List.length_range] at this
  exact this
theorem occB_at {e : List Ex} {n : Int} {i : Nat} {x : Ex} (hx : e[i]? = some x) : occB e n i = (decide (x.op = 0) && decide (x.n = n)) := by
  unfold occB
  simp only [List.getD_eq_getElem?_getD, hx, Option.getD_some]
theorem usage_cases (u : Nat) (f : Bool) : (u = 0 → howN u (if f then 1 else 0) = 0) ∧ (u = 1 → f = false → howN u (if f then 1 else 0) = 1) ∧ (u ≠ 0 → ¬ (u = 1 ∧ f = false) → howN u (if f then 1 else 0) = 2) := by
  unfold howN
  refine ⟨fun h => by simp [h], fun h h2 => by simp [h, h2], fun h h2 => ?_⟩
  rw [if_neg (by omega), if_neg]
  cases f <;> simp at h2 ⊢
  omega
end Go.Co
namespace Go.Proofs.YtlboppiogeaicaaDoor.co
open Go.RowKit Go.Eng Go.Co
set_option linter.unusedVariables false
set_option linter.unusedSimpArgs false
set_option maxRecDepth 100000
set_option maxHeartbeats 1000000 in
theorem UsageOf_calls (es : List (Ex × ExY)) (q : Option Addr) (cap : Nat) (w : World) (he : Arr exR w (low w) es q) (hb : bodyE (es.map Prod.fst) [] false = 0) :
    Calls Tryd.prog 36 [.slice q es.length cap].toArray w fun e w' => ∃ (ql : Option Addr) (cl : Nat) (P : List Int), e = .returned (.slice ql ((es.map Prod.fst).flatMap bindersX).length cl) ∧ Ext w w' ∧ Parents (es.map Prod.fst) P ∧ SlAt w' w'.heap.size ql (cat uc ((sortI ((es.map Prod.fst).flatMap bindersX)).map fun n => (n, usageOf (es.map Prod.fst) P n))) := by
  obtain ⟨e, hee⟩ : ∃ e, es.map Prod.fst = e := ⟨_, rfl⟩
  have hel : e.length = es.length := by rw [← hee, List.length_map]
  rw [hee] at hb ⊢
  have hok := BodyOk.of hb
  have hl4 := hok.tree.len
  have hpos := hok.tree.pos
  have ht := hok.tree.tree
  have hnd : (e.flatMap bindersX).Nodup := by have := hok.nd; simpa using this
  have hin : ∀ p ∈ es, p.1 ∈ e := fun p hp => by rw [← hee]; exact List.mem_map_of_mem hp
  have hlim : ∀ p ∈ es, Lim p.1 := fun p hp => hok.lim (hin p hp)
  have hskk : ∀ p ∈ es, shapeB p.1 = true := fun p hp => (nodeE_zero (hok.node (hin p hp)).1).1
  have hbl := bnds_le (e := e) (fun x hx => binders_len (hok.lim hx))
  refine enter Tryd.func36 rfl Tryd.ntmps36 rfl (Cls.start w) ?_
  (simp only [argEnv, Nat.zero_add, Nat.reduceAdd])
  apply W.sr
  apply oas; rfl; rfl
  apply OL.nsr
  apply omv; rfl; rfl
  refine OL.callE (α := (Option Addr × Nat × List Int) × World) (fun z => .tuple #[.slice z.1.1 es.length z.1.2.1, .bool true]) (fun z => Parents e z.1.2.2 ∧ IntsO z.2 (low z.2) z.1.2.2 z.1.1 ∧ w.heap.size ≤ z.2.heap.size) (fun z => Cls [] [z.2, w]) rfl rfl (by exact Args.au) (fun w2 hw2 => (parentsOf_calls es q cap w2 (he.at hw2 (by exact mau) (fun k hk => by exact NotOwned.au)) (by omega)).mono (fun e1 w3 ⟨q', n', c', b', h1, h2, h3, h4⟩ => by
    rw [hee] at h3 h4
    have hbt : b' = true := h3.2 (body_treePU hb)
    obtain ⟨h5, PP, h6, h7⟩ := h4 hbt
    exact ⟨((q', c', PP), w3), by rw [h1, hbt, h5], ⟨h6, h7, Nat.le_trans (hw2.kp w (by exact mau)).size h2.size⟩, (hw2.ext h2).note⟩)) ?_
  rintro ⟨⟨qr, cr, P⟩, w1⟩ ⟨hP, hPI, hsz1⟩
  simp only at hP hPI hsz1 ⊢
  obtain ⟨uf2, hufd⟩ : ∃ f : Int → Int × Int, (fun n => (n, usageOf e P n)) = f := ⟨_, rfl⟩
  have huf : ∀ n, uf2 n = (n, usageOf e P n) := fun n => by rw [← hufd]
  have hPl : P.length = es.length := by rw [hP.len, hel]
  apply omv; rfl; rfl
  apply oex; rfl; rfl; rfl
  apply oex; rfl; rfl; rfl
  apply oas; rfl; rfl
  apply oas; rfl; rfl
  apply OL.nsr
  apply oas; rfl; rfl
  apply OL.nx
  apply W.seq
  apply W.sr
  apply omv; rfl; rfl
  apply oop; rfl; apply Pev.len_slice; rfl; exact yes; rfl
  apply omv; rfl; rfl
  apply OL.nx
  apply W.block
  refine W.loop (G := Nat × FU) (fun g => g.1 ≤ es.length ∧ w1.heap.size ≤ g.2.w5.heap.size ∧ (bnds e g.1).length ≤ g.2.c ∧ SlAt g.2.w5 g.2.w5.heap.size g.2.q (cat uc ((sortI (bnds e g.1)).map uf2)) ∧ (g.2.q = none → bnds e g.1 = [])) (fun g => es.length - g.1)
    (fun g => [(0, true, .slice q es.length cap), (3, true, .slice qr es.length cr), (5, true, .slice g.2.q (bnds e g.1).length g.2.c), (24, true, .slice q es.length cap), (25, true, .int .i64 (es.length : Int)), (26, true, .int .i64 (g.1 : Int))])
    (fun g => Cls [] [g.2.w5, w1, w]) (0, ⟨w1, none, 0⟩) ⟨by simp, Nat.le_refl _, by simp [bnds], by simpa [bnds, sortI, cat] using SlAt.nil, fun _ => by simp [bnds]⟩ (by exact Sub.au) (fun w' hw' => ⟨hw'.holds, hw'.lt, hw'.dj, fun s hs => by rcases List.mem_cons.1 hs with rfl | hs; exact hw'.kp _ (.head _); exact hw'.kp s hs⟩) ?_
  rintro ⟨i, ⟨w4, q4, c4⟩⟩ ⟨hi, hsz4, hlc4, hS4, hq4⟩
  simp only at hi hsz4 hlc4 hS4 hq4 ⊢
  apply W.sr
  apply obn; rfl; rfl; rfl; apply Bin.lss
  apply OL.nx
  apply W.seq
  (refine W.cnd (fun hlt => ?_) (fun hlt => ?_)) <;> (try (exfalso; first | omega | exact hlt trivial | contradiction))
  · have hil : i < es.length := by omega
    obtain ⟨a, p, rfl, hab, hp, hcell, hok1⟩ := he.get hil
    have hab : a.block < w.heap.size := hab
    have hcell : CellsAt w (a.add (i * 5)) [.int .i64 p.1.op, .int .i64 p.1.n, .slice p.2.b.1 p.1.binds.length p.2.b.2, .slice p.2.k.1 p.1.kids.length p.2.k.2, .slice p.2.a.1 p.1.alts.length p.2.a.2] := hcell
    have hx : e[i]? = some p.1 := by rw [← hee, List.getElem?_map, hp]; rfl
    have hL1 := hlim p (List.mem_of_getElem? hp)
    have hb2 := binders_len hL1
    have hDs := bnds_succ hx
    have hbi := hbl i (by omega)
    generalize hDe : bnds e i = D at *
    apply W.sk
    apply W.sb
    apply W.sr
    apply omv; rfl; rfl
    apply oop; rfl; apply Pev.idx; rfl; exact yes; rfl; exact yes; rfl; rfl; intro hcond; omega
    apply oop; rfl; apply Pev.load_keptA; rfl; exact yes; exact .tail _ (.tail _ (.head _)); rfl; intro hcond; assumption; rfl; intro hcond; (rw [add_block]; assumption); intro hcond; exact NotOwned.au
    apply OL.alloc; rfl; rfl; exact CellsL.agg; (intro bk hbk; simp only [AllLe, and_true] at hbk)
    apply oas; rfl; rfl
    apply OL.storeB; rfl; rfl; exact CellsL.agg; rfl; rfl; rfl; exact Swap.au; exact Put.au
    apply OL.nsr
    apply oop; rfl; apply Pev.load_blkA; rfl; exact yes; exact .head _; rfl; exact Take.au
    refine OL.callE (α := (Option Addr × Nat) × World) (fun z => .slice z.1.1 (bindersX p.1).length z.1.2) (fun z => IntsO z.2 (low z.2) (bindersX p.1) z.1.1 ∧ w4.heap.size ≤ z.2.heap.size) (fun z => Cls [] [z.2, w4, w1, w]) rfl rfl (by exact Args.au) (fun w2 hw2 => ?_) ?_
    · refine (Binds_calls p.1 p.2 w2 (hok1.at hw2 (by exact mau) (fun k hk => by exact NotOwned.au)) hL1.b hL1.a hL1.ab).mono fun e1 w3 ⟨q3, c3, h1, h2, h3, _⟩ => ?_
      exact ⟨((q3, c3), w3), h1, ⟨h3.mono (fun k hk => hk.2), Nat.le_trans (hw2.kp w4 (by exact mau)).size h2.size⟩, ((hw2.ext h2).thin (by exact Thin.au)).note⟩
    rintro ⟨⟨q3, c3⟩, w6⟩ ⟨hBI, hsz6⟩
    simp only at hBI hsz6 ⊢
    have hBx : ∀ n ∈ bindersX p.1, n ∈ bindersX p.1 := fun n h => h
    have hXe : bindersX p.1 = bindersX p.1 := rfl
    generalize hBd : bindersX p.1 = B at *
    apply oop; rfl; apply Pev.len_slice; rfl; exact yes; rfl
    apply omv; rfl; rfl
    apply OL.nx
    apply W.block
    refine W.exx (X := { x : World // w6.heap.size ≤ x.heap.size ∧ SlAt x x.heap.size q4 (cat uc ((sortI D).map uf2)) }) (C' := fun x => Cls [] [x.1, w6, w1, w]) (fun w' hw' => ⟨⟨w', (hw'.kp w6 (by exact mau)).size, hS4.atW hw' (by exact mau) (fun k hk => NotOwned.nil)⟩, (hw'.forget (fun s hs => by simp at hs ⊢; rcases hs with rfl | rfl | rfl <;> simp)).note⟩) ?_
    rintro ⟨w7, hsz7, hS7⟩
    simp only
    refine W.loop (G := Nat × FU) (fun g => g.1 ≤ B.length ∧ w6.heap.size ≤ g.2.w5.heap.size ∧ (D ++ B.take g.1).length ≤ g.2.c ∧ SlAt g.2.w5 g.2.w5.heap.size g.2.q (cat uc ((sortI (D ++ B.take g.1)).map uf2)) ∧ (g.2.q = none → D ++ B.take g.1 = [])) (fun g => B.length - g.1)
      (fun g => [(0, true, .slice (some a) es.length cap), (3, true, .slice qr es.length cr), (5, true, .slice g.2.q (D ++ B.take g.1).length g.2.c), (6, true, .int .i64 (i : Int)), (24, true, .slice (some a) es.length cap), (25, true, .int .i64 (es.length : Int)), (26, true, .int .i64 (i : Int)), (32, true, .slice q3 B.length c3), (33, true, .int .i64 (B.length : Int)), (34, true, .int .i64 (g.1 : Int))])
      (fun g => Cls [] [g.2.w5, w6, w1, w]) (0, ⟨w7, q4, c4⟩) ⟨by simp, hsz7, by simpa using hlc4, by simpa using hS7, by simpa using hq4⟩ (by simp only [List.take_zero, List.append_nil]; exact Sub.au) (fun w' hw' => hw') ?_
    rintro ⟨j, ⟨w5, q5, c5⟩⟩ ⟨hj, hsz5, hlc, hS5, hq5⟩
    simp only at hj hsz5 hlc hS5 hq5 ⊢
    apply W.sr
    apply obn; rfl; rfl; rfl; apply Bin.lss
    apply OL.nx
    apply W.seq
    (refine W.cnd (fun hlt2 => ?_) (fun hlt2 => ?_)) <;> (try (exfalso; first | omega | exact hlt2 trivial | contradiction))
    · have hjl : j < B.length := by omega
      obtain ⟨av, id, rfl, habv, hid, hcv⟩ := hBI.get hjl
      have habv : av.block < w6.heap.size := habv
      have hBt : B.take (j + 1) = B.take j ++ [id] := by rw [List.take_add_one, hid]; rfl
      have hlj : (D ++ B.take j).length ≤ 900000000 := by rw [List.length_append, List.length_take]; omega
      have hidB : id ∈ bindersX p.1 := by rw [hBd]; exact List.mem_of_getElem? hid
      have hDn : D ++ B.take (j + 1) = (D ++ B.take j) ++ [id] := by rw [hBt, ← List.append_assoc]
      obtain ⟨Dj, hDj⟩ : ∃ Dj, D ++ B.take j = Dj := ⟨_, rfl⟩
      have hidD : ¬ id ∈ Dj := by
        have h1 : (bnds e (i + 1)).Nodup := by
          have : bnds e (i + 1) <+: bnds e e.length := by
            unfold bnds
            rw [List.take_length]
            conv => rhs; rw [← List.take_append_drop (i + 1) e]
            rw [List.flatMap_append]
            exact List.prefix_append _ _
          rw [bnds_all] at this
          exact this.sublist.nodup hnd
        rw [hDs] at h1
        have h2 : D ++ B = D ++ B.take j ++ id :: B.drop (j + 1) := by
          rw [List.append_assoc]
          congr 1
          obtain ⟨h3, rfl⟩ := List.getElem?_eq_some_iff.1 hid
          rw [← List.drop_eq_getElem_cons h3, List.take_append_drop]
        rw [h2, hDj, List.nodup_append] at h1
        exact fun hm => h1.2.2 id hm id (.head _) rfl
      rw [hDj] at hlj hDn hlc hS5 hq5 ⊢
      apply W.sk
      apply W.sb
      apply W.sr
      apply oop; rfl; apply Pev.idx; rfl; exact yes; rfl; exact yes; rfl; rfl; intro hcond; omega
      apply oop; rfl; apply Pev.load_kept; rfl; exact yes; exact .tail _ (.head _); rfl; intro hcond; assumption; intro hcond; (rw [add_block]; assumption); intro hcond; exact NotOwned.au
      apply oas; rfl; rfl
      apply OL.nsr
      apply oas; rfl; rfl
      apply oas; rfl; rfl
      apply OL.nx
      apply W.seq
      apply W.sr
      apply omv; rfl; rfl
      apply oop; rfl; apply Pev.len_slice; rfl; exact yes; rfl
      apply omv; rfl; rfl
      apply OL.nx
      apply W.block
      refine W.loop (G := Nat) (fun i2 => i2 ≤ es.length) (fun i2 => es.length - i2)
        (fun i2 => [(0, true, .slice (some a) es.length cap), (3, true, .slice qr es.length cr), (5, true, .slice q5 Dj.length c5), (6, true, .int .i64 (i : Int)), (9, true, .int .i64 id), (10, true, .int .i64 (usesTo e id i2 : Int)), (11, true, .bool (farTo e P id i2)), (24, true, .slice (some a) es.length cap), (25, true, .int .i64 (es.length : Int)), (26, true, .int .i64 (i : Int)), (32, true, .slice (some av) B.length c3), (33, true, .int .i64 (B.length : Int)), (34, true, .int .i64 (j : Int)), (38, true, .slice (some a) es.length cap), (39, true, .int .i64 (es.length : Int)), (40, true, .int .i64 (i2 : Int))])
        (fun _ => Cls [] [w5, w6, w1, w]) 0 (by omega) (by exact Sub.au) (fun w' hw' => hw') ?_
      intro i2 hi2
      have hul := usesTo_le e id i2
      apply W.sr
      apply obn; rfl; rfl; rfl; apply Bin.lss
      apply OL.nx
      apply W.seq
      (refine W.cnd (fun hlt3 => ?_) (fun hlt3 => ?_)) <;> (try (exfalso; first | omega | exact hlt3 trivial | contradiction))
      · have hil2 : i2 < es.length := by omega
        obtain ⟨a2, p2, hqa2, hab2, hp2, hcell2, hok2⟩ := he.get hil2
        obtain rfl := Option.some.inj hqa2
        have hcell2 : CellsAt w (a.add (i2 * 5)) [.int .i64 p2.1.op, .int .i64 p2.1.n, .slice p2.2.b.1 p2.1.binds.length p2.2.b.2, .slice p2.2.k.1 p2.1.kids.length p2.2.k.2, .slice p2.2.a.1 p2.1.alts.length p2.2.a.2] := hcell2
        have hx2 : e[i2]? = some p2.1 := by rw [← hee, List.getElem?_map, hp2]; rfl
        have hus := usesTo_succ e id i2
        have hfs := farTo_succ e P id i2
        have hoc := occB_at (n := id) hx2
        apply W.sk
        apply W.sb
        apply W.sr
        apply omv; rfl; rfl
        apply oop; rfl; apply Pev.idx; rfl; exact yes; rfl; exact yes; rfl; rfl; intro hcond; omega
        apply oop; rfl; apply Pev.load_keptA; rfl; exact yes; exact .tail _ (.tail _ (.tail _ (.head _))); rfl; intro hcond; assumption; rfl; intro hcond; (rw [add_block]; assumption); intro hcond; exact NotOwned.au
        apply OL.alloc; rfl; rfl; exact CellsL.agg; (intro bk hbk; simp only [AllLe, and_true] at hbk)
        apply oas; rfl; rfl
        apply OL.storeB; rfl; rfl; exact CellsL.agg; rfl; rfl; rfl; exact Swap.au; exact Put.au
        apply OL.nx
        apply W.seq
        apply W.sr
        apply ofa; rfl; rfl; rfl
        apply old; rfl; rfl; exact .head _; rfl; rfl
        apply obn; rfl; rfl; rfl; apply Bin.neq
        apply omv; rfl; rfl
        apply ono; rfl; rfl; rfl; apply Pev.fld; rfl; exact yes; rfl
        apply ono; rfl; rfl; rfl; apply Pev.load_blk; rfl; exact fun h => h; exact .head _; rfl; rfl
        apply ono; rfl; rfl; rfl; apply Pev.move; rfl; exact yes
        apply ono; rfl; rfl; rfl; apply Pev.bin; rfl; exact fun h => h; rfl; exact fun h => h; intro hcond; apply Bin.neq
        apply oop; rfl; apply Pev.pick_or; rfl; exact yes; rfl; exact fun h => h
        apply OL.nx
        refine W.cond rfl (fun hb => ?_) (fun hb => ?_)
        · have h0 : occB e id i2 = false := by
            rw [hoc]
            simp at hb
            simp
            exact fun h => hb.resolve_left (fun h2 => h2 h)
          have hu2 : usesTo e id (i2 + 1) = usesTo e id i2 := by rw [hus, h0]; rfl
          have hf2 : farTo e P id (i2 + 1) = farTo e P id i2 := by rw [hfs]; simp [farB, h0]
          refine W.xt ?_
          with_reducible apply At.next
          apply W.reg
          apply obn; rfl; rfl; rfl; apply Bin.add_in; omega
          apply omv; rfl; rfl
          apply OL.nil
          exact At.again (i2 + 1) (by omega) (by omega) (by rw [hu2, hf2]; exact Sub.au) (fun w' hw' => hw'.thin (by exact Thin.au))
        have hon : p2.1.op = 0 ∧ p2.1.n = id := by simpa using hb
        have h1 : occB e id i2 = true := by rw [hoc]; simp [hon.1, hon.2]
        have hu2 : usesTo e id (i2 + 1) = usesTo e id i2 + 1 := by rw [hus, h1]; rfl
        obtain ⟨kk, hkk1, hkk2, hkk3, hway⟩ := Wup.start hok hP hx2 hon.1 hx (by rw [hon.2]; exact hidB) (farTo e P id i2)
        rw [hon.2] at hkk3 hway
        have hway0 : i2 ≤ i := by
          rcases hway with ⟨h, _⟩ | ⟨_, h, _⟩ <;> omega
        apply W.sk
        apply W.sr
        apply omv; rfl; rfl
        apply obn; rfl; rfl; rfl; apply Bin.add_in; omega
        apply oas; rfl; rfl
        apply OL.nsr
        apply omv; rfl; rfl
        apply oas; rfl; rfl
        apply OL.nx
        apply W.block
        refine W.loop (G := Nat × Bool) (fun g => Wup e P (bdv e P) id i kk i2 g.1 (farTo e P id i2) g.2 ∧ g.1 ≤ i) (fun g => i - g.1)
          (fun g => [(0, true, .slice (some a) es.length cap), (3, true, .slice qr es.length cr), (5, true, .slice q5 Dj.length c5), (6, true, .int .i64 (i : Int)), (9, true, .int .i64 id), (10, true, .int .i64 ((usesTo e id i2 : Int) + 1)), (11, true, .bool g.2), (14, true, .int .i64 (g.1 : Int)), (24, true, .slice (some a) es.length cap), (25, true, .int .i64 (es.length : Int)), (26, true, .int .i64 (i : Int)), (32, true, .slice (some av) B.length c3), (33, true, .int .i64 (B.length : Int)), (34, true, .int .i64 (j : Int)), (38, true, .slice (some a) es.length cap), (39, true, .int .i64 (es.length : Int)), (40, true, .int .i64 (i2 : Int))])
          (fun _ => Cls [blk bk 28 [.int .i64 p2.1.op, .int .i64 p2.1.n, .slice p2.2.b.1 p2.1.binds.length p2.2.b.2, .slice p2.2.k.1 p2.1.kids.length p2.2.k.2, .slice p2.2.a.1 p2.1.alts.length p2.2.a.2]] [w5, w6, w1, w]) (i2, farTo e P id i2) ⟨hway, hway0⟩ (by exact Sub.au) (fun w' hw' => hw') ?_
        rintro ⟨k, far⟩ ⟨hwk, hki⟩
        simp only at hwk hki ⊢
        apply W.seq
        apply W.sr
        apply omv; rfl; rfl
        apply omv; rfl; rfl
        apply obn; rfl; rfl; rfl; apply Bin.neq
        apply OL.nx
        (refine W.cnd (fun hne => ?_) (fun hne => ?_)) <;> (try (exfalso; first | omega | exact hne trivial | contradiction))
        · have hne2 : k ≠ i := fun h => hne (by rw [h])
          obtain ⟨pp, x3, hP3, hlt3, hle3, hx3, hway3⟩ := Wup.step ht hP hwk hne2 hkk1 hkk2 hkk3
          obtain ⟨aP, vP, hqP, haPb, hvP, hcP⟩ := hPI.get (i := k) (by omega)
          have haPb : aP.block < w1.heap.size := haPb
          rw [hP3] at hvP
          obtain rfl := Option.some.inj hvP
          have hppl : pp < es.length := by omega
          obtain ⟨a3, p3, hqa3, hab3, hp3, hcell3, hok3⟩ := he.get hppl
          obtain rfl := Option.some.inj hqa3
          have hcell3 : CellsAt w (a.add (pp * 5)) [.int .i64 p3.1.op, .int .i64 p3.1.n, .slice p3.2.b.1 p3.1.binds.length p3.2.b.2, .slice p3.2.k.1 p3.1.kids.length p3.2.k.2, .slice p3.2.a.1 p3.1.alts.length p3.2.a.2] := hcell3
          have hx3' : e[pp]? = some p3.1 := by rw [← hee, List.getElem?_map, hp3]; rfl
          rw [hx3] at hx3'
          obtain rfl := Option.some.inj hx3'
          rw [hqP]
          by_cases h13 : p3.1.op = 13
          · have hkl3 := kids13 (hskk p3 (List.mem_of_getElem? hp3)) h13
            obtain ⟨ak, v0, hqk, hakb, hv0, hck⟩ := hok3.k.get (i := 0) hkl3
            have hakb : ak.block < w.heap.size := hakb
            rw [hqk] at hcell3
            have hway3k := hway3
            apply W.sk
            apply W.sb
            apply W.sr
            apply omv; rfl; rfl
            apply omv; rfl; rfl
            apply oop; rfl; apply Pev.idx; rfl; exact yes; rfl; exact yes; rfl; rfl; intro hcond; omega
            apply oop; rfl; apply Pev.load_kept; rfl; exact yes; exact .tail _ (.tail _ (.head _)); rfl; intro hcond; assumption; intro hcond; (rw [add_block]; assumption); intro hcond; exact NotOwned.au
            apply oas; rfl; rfl
            apply OL.nsr
            apply omv; rfl; rfl
            apply omv; rfl; rfl
            apply oop; rfl; apply Pev.idx; rfl; exact yes; rfl; exact yes; rfl; rfl; intro hcond; omega
            apply oop; rfl; apply Pev.fldA; rfl; exact yes; rfl
            apply oop; rfl; apply Pev.load_kept; rfl; exact yes; exact .tail _ (.tail _ (.tail _ (.head _))); rfl; intro hcond; apply CellsAt.at_ (by assumption) rfl; intro hcond; (simp only [add_block]; assumption); intro hcond; exact NotOwned.au
            apply obn; rfl; rfl; rfl; apply Bin.eql
            apply omv; rfl; rfl
            apply ono; rfl; rfl; rfl; apply Pev.move; rfl; exact yes
            apply ono; rfl; rfl; rfl; apply Pev.move; rfl; exact yes
            apply ono; rfl; rfl; rfl; apply Pev.idx; rfl; exact fun h => h; rfl; exact fun h => h; rfl; rfl; intro hcond; omega
            apply ono; rfl; rfl; rfl; apply Pev.fldA; rfl; exact fun h => h; rfl
            apply ono; rfl; rfl; rfl; apply Pev.load_kept; rfl; exact fun h => h; exact .tail _ (.tail _ (.tail _ (.head _))); rfl; intro hcond; apply CellsAt.at_ (by assumption) rfl; intro hcond; (simp only [add_block]; assumption); intro hcond; exact NotOwned.au
            apply ono; rfl; rfl; rfl; apply Pev.bin; rfl; exact fun h => h; rfl; exact yes; intro hcond; apply Bin.eql
            apply ono; rfl; rfl; rfl; apply Pev.move; rfl; exact fun h => h
            apply OL.op; exact Guard.cyes rfl rfl; rfl; rfl; apply Pev.move; rfl; exact yes
            apply OL.op; exact Guard.cyes rfl rfl; rfl; rfl; apply Pev.move; rfl; exact yes
            apply OL.op; exact Guard.cyes rfl rfl; rfl; rfl; apply Pev.idx; rfl; exact fun h => h; rfl; exact fun h => h; rfl; rfl; intro hcond; omega
            apply OL.op; exact Guard.cyes rfl rfl; rfl; rfl; apply Pev.fldA; rfl; exact fun h => h; rfl
            apply OL.op; exact Guard.cyes rfl rfl; rfl; rfl; apply Pev.load_kept; rfl; exact fun h => h; exact .tail _ (.tail _ (.tail _ (.head _))); rfl; intro hcond; apply CellsAt.at_ (by assumption) rfl; intro hcond; (simp only [add_block]; assumption); intro hcond; exact NotOwned.au
            apply OL.op; exact Guard.cyes rfl rfl; rfl; rfl; apply Pev.idx; rfl; exact fun h => h; rfl; exact yes; rfl; rfl; intro hcond; omega
            apply OL.op; exact Guard.cyes rfl rfl; rfl; rfl; apply Pev.load_kept; rfl; exact fun h => h; exact .tail _ (.tail _ (.tail _ (.head _))); rfl; intro hcond; assumption; intro hcond; assumption; intro hcond; exact NotOwned.au
            apply OL.op; exact Guard.cyes rfl rfl; rfl; rfl; apply Pev.move; rfl; exact yes
            apply OL.op; exact Guard.cyes rfl rfl; rfl; rfl; apply Pev.bin; rfl; exact fun h => h; rfl; exact fun h => h; intro hcond; apply Bin.neq
            apply ono; rfl; rfl; rfl; apply Pev.pick_and; rfl; exact fun h => h; rfl; exact fun h => h
            apply oop; rfl; apply Pev.pick_or; rfl; exact yes; rfl; exact fun h => h
            apply oas; rfl; rfl
            apply OL.nsr
            apply omv; rfl; rfl
            apply omv; rfl; rfl
            apply oy; rfl; rfl; rfl; apply Pev.move; rfl; exact yes
            apply oy; rfl; rfl; rfl; apply Pev.move; rfl; exact yes
            apply oy; rfl; rfl; rfl; apply Pev.bin; rfl; exact fun h => h; rfl; exact fun h => h; intro hcond; apply Bin.neq
            apply oop; rfl; apply Pev.pick_and; rfl; exact yes; rfl; exact fun h => h
            apply OL.nx
            refine W.cond rfl (fun hb3 => ?_) (fun hb3 => ?_)
            · have hv : (decide (rpK p3.1 k = 1) && !decide (pp = i)) = true := by
                simp at hb3
                unfold rpK
                rw [hv0]
                simp [h13] at hb3 ⊢
                omega
              rw [hv, Bool.or_true] at hway3
              apply W.reg
              apply oas; rfl; rfl
              apply OL.nil
              with_reducible apply At.in_normal
              with_reducible apply At.next
              apply W.reg
              apply omv; rfl; rfl
              apply omv; rfl; rfl
              apply oop; rfl; apply Pev.idx; rfl; exact yes; rfl; exact yes; rfl; rfl; intro hcond; omega
              apply oop; rfl; apply Pev.load_kept; rfl; exact yes; exact .tail _ (.tail _ (.head _)); rfl; intro hcond; assumption; intro hcond; (rw [add_block]; assumption); intro hcond; exact NotOwned.au
              apply oas; rfl; rfl
              apply OL.nil
              exact At.again (pp, true) ⟨hway3, hle3⟩ (by simp only; omega) (by exact Sub.au) (fun w' hw' => hw')
            · have hv : (decide (rpK p3.1 k = 1) && !decide (pp = i)) = false := by
                simp at hb3
                unfold rpK
                rw [hv0]
                simp [h13] at hb3 ⊢
                omega
              rw [hv, Bool.or_false] at hway3
              apply W.skip
              with_reducible apply At.in_normal
              with_reducible apply At.next
              apply W.reg
              apply omv; rfl; rfl
              apply omv; rfl; rfl
              apply oop; rfl; apply Pev.idx; rfl; exact yes; rfl; exact yes; rfl; rfl; intro hcond; omega
              apply oop; rfl; apply Pev.load_kept; rfl; exact yes; exact .tail _ (.tail _ (.head _)); rfl; intro hcond; assumption; intro hcond; (rw [add_block]; assumption); intro hcond; exact NotOwned.au
              apply oas; rfl; rfl
              apply OL.nil
              exact At.again (pp, far) ⟨hway3, hle3⟩ (by simp only; omega) (by exact Sub.au) (fun w' hw' => hw')
          · skip
            have hway3k := hway3
            apply W.sk
            apply W.sb
            apply W.sr
            apply omv; rfl; rfl
            apply omv; rfl; rfl
            apply oop; rfl; apply Pev.idx; rfl; exact yes; rfl; exact yes; rfl; rfl; intro hcond; omega
            apply oop; rfl; apply Pev.load_kept; rfl; exact yes; exact .tail _ (.tail _ (.head _)); rfl; intro hcond; assumption; intro hcond; (rw [add_block]; assumption); intro hcond; exact NotOwned.au
            apply oas; rfl; rfl
            apply OL.nsr
            apply omv; rfl; rfl
            apply omv; rfl; rfl
            apply oop; rfl; apply Pev.idx; rfl; exact yes; rfl; exact yes; rfl; rfl; intro hcond; omega
            apply oop; rfl; apply Pev.fldA; rfl; exact yes; rfl
            apply oop; rfl; apply Pev.load_kept; rfl; exact yes; exact .tail _ (.tail _ (.tail _ (.head _))); rfl; intro hcond; apply CellsAt.at_ (by assumption) rfl; intro hcond; (simp only [add_block]; assumption); intro hcond; exact NotOwned.au
            apply obn; rfl; rfl; rfl; apply Bin.eql
            apply omv; rfl; rfl
            apply ono; rfl; rfl; rfl; apply Pev.move; rfl; exact yes
            apply ono; rfl; rfl; rfl; apply Pev.move; rfl; exact yes
            apply ono; rfl; rfl; rfl; apply Pev.idx; rfl; exact fun h => h; rfl; exact fun h => h; rfl; rfl; intro hcond; omega
            apply ono; rfl; rfl; rfl; apply Pev.fldA; rfl; exact fun h => h; rfl
            apply ono; rfl; rfl; rfl; apply Pev.load_kept; rfl; exact fun h => h; exact .tail _ (.tail _ (.tail _ (.head _))); rfl; intro hcond; apply CellsAt.at_ (by assumption) rfl; intro hcond; (simp only [add_block]; assumption); intro hcond; exact NotOwned.au
            apply ono; rfl; rfl; rfl; apply Pev.bin; rfl; exact fun h => h; rfl; exact yes; intro hcond; apply Bin.eql
            apply ono; rfl; rfl; rfl; apply Pev.move; rfl; exact fun h => h
            apply OL.op; exact Guard.cyes rfl rfl; rfl; rfl; apply Pev.move; rfl; exact yes
            apply OL.op; exact Guard.cyes rfl rfl; rfl; rfl; apply Pev.move; rfl; exact yes
            apply OL.op; exact Guard.cyes rfl rfl; rfl; rfl; apply Pev.idx; rfl; exact fun h => h; rfl; exact fun h => h; rfl; rfl; intro hcond; omega
            apply OL.op; exact Guard.cyes rfl rfl; rfl; rfl; apply Pev.fldA; rfl; exact fun h => h; rfl
            apply OL.op; exact Guard.cyes rfl rfl; rfl; rfl; apply Pev.load_kept; rfl; exact fun h => h; exact .tail _ (.tail _ (.tail _ (.head _))); rfl; intro hcond; apply CellsAt.at_ (by assumption) rfl; intro hcond; (simp only [add_block]; assumption); intro hcond; exact NotOwned.au
            apply OL.gateOff; exact Guard.cyes rfl rfl; (simp; omega); rfl
            apply OL.gateOff; exact Guard.cyes rfl rfl; (simp; omega); rfl
            apply OL.op; exact Guard.cyes rfl rfl; rfl; rfl; apply Pev.move; rfl; exact yes
            apply OL.gateOff; exact Guard.cyes rfl rfl; (simp; omega); rfl
            apply ono; rfl; rfl; rfl; apply Pev.pick_off; rfl; exact fun h => h; (intro hcond; simp; omega); rfl; exact yes
            apply oop; rfl; apply Pev.pick_or; rfl; exact yes; rfl; exact fun h => h
            apply oas; rfl; rfl
            apply OL.nsr
            apply omv; rfl; rfl
            apply omv; rfl; rfl
            apply oy; rfl; rfl; rfl; apply Pev.move; rfl; exact yes
            apply oy; rfl; rfl; rfl; apply Pev.move; rfl; exact yes
            apply oy; rfl; rfl; rfl; apply Pev.bin; rfl; exact fun h => h; rfl; exact fun h => h; intro hcond; apply Bin.neq
            apply oop; rfl; apply Pev.pick_and; rfl; exact yes; rfl; exact fun h => h
            apply OL.nx
            refine W.cond rfl (fun hb3 => ?_) (fun hb3 => ?_)
            · have hv : (decide (rpK p3.1 k = 1) && !decide (pp = i)) = true := by
                simp at hb3
                unfold rpK
                simp [h13] at hb3 ⊢
                omega
              rw [hv, Bool.or_true] at hway3
              apply W.reg
              apply oas; rfl; rfl
              apply OL.nil
              with_reducible apply At.in_normal
              with_reducible apply At.next
              apply W.reg
              apply omv; rfl; rfl
              apply omv; rfl; rfl
              apply oop; rfl; apply Pev.idx; rfl; exact yes; rfl; exact yes; rfl; rfl; intro hcond; omega
              apply oop; rfl; apply Pev.load_kept; rfl; exact yes; exact .tail _ (.tail _ (.head _)); rfl; intro hcond; assumption; intro hcond; (rw [add_block]; assumption); intro hcond; exact NotOwned.au
              apply oas; rfl; rfl
              apply OL.nil
              exact At.again (pp, true) ⟨hway3, hle3⟩ (by simp only; omega) (by exact Sub.au) (fun w' hw' => hw')
            · have hv : (decide (rpK p3.1 k = 1) && !decide (pp = i)) = false := by
                simp at hb3
                unfold rpK
                simp [h13] at hb3 ⊢
                omega
              rw [hv, Bool.or_false] at hway3
              apply W.skip
              with_reducible apply At.in_normal
              with_reducible apply At.next
              apply W.reg
              apply omv; rfl; rfl
              apply omv; rfl; rfl
              apply oop; rfl; apply Pev.idx; rfl; exact yes; rfl; exact yes; rfl; rfl; intro hcond; omega
              apply oop; rfl; apply Pev.load_kept; rfl; exact yes; exact .tail _ (.tail _ (.head _)); rfl; intro hcond; assumption; intro hcond; (rw [add_block]; assumption); intro hcond; exact NotOwned.au
              apply oas; rfl; rfl
              apply OL.nil
              exact At.again (pp, far) ⟨hway3, hle3⟩ (by simp only; omega) (by exact Sub.au) (fun w' hw' => hw')
        · have hkb : k = i := by omega
          subst hkb
          have hff : farTo e P id (i2 + 1) = far := by
            rcases hwk with ⟨_, h⟩ | ⟨_, h, _⟩
            · rw [hfs, h]
              simp [farB, h1]
            · omega
          refine W.xt ?_
          with_reducible apply At.in_normal
          with_reducible apply At.next
          apply W.reg
          apply obn; rfl; rfl; rfl; apply Bin.add_in; omega
          apply omv; rfl; rfl
          apply OL.nil
          exact At.again (i2 + 1) (by omega) (by omega) (by rw [hu2, hff, Int.natCast_succ]; exact Sub.au) (fun w' hw' => hw'.thin (by exact Thin.au))
      · obtain rfl : i2 = es.length := by omega
        obtain ⟨g1, g2, g3⟩ := usage_cases (usesTo e id es.length) (farTo e P id es.length)
        have hue : howN (usesTo e id es.length : Int) (if farTo e P id es.length then 1 else 0) = usageOf e P id := by
          unfold usageOf usesOf farsOf usesTo farTo
          rw [hel]
        rw [hue] at g1 g2 g3
        generalize usesTo e id es.length = nu at *
        generalize farTo e P id es.length = fa at *
        obtain ⟨hw, hhw⟩ : ∃ hw, usageOf e P id = hw := ⟨_, rfl⟩
        rw [hhw] at g1 g2 g3
        have hu1 : uf2 id = (id, hw) := by rw [huf, hhw]
        have hsl : (sortI Dj).length = Dj.length := sortI_len Dj
        have hsn := sortI_snoc Dj id
        refine W.xt ?_
        with_reducible apply At.next
        apply W.sr
        apply oas; rfl; rfl
        apply OL.nx
        apply W.seq
        apply W.sr
        apply omv; rfl; rfl
        apply obn; rfl; rfl; rfl; apply Bin.eql
        apply OL.nx
        refine W.joinx (G := Int) (fun h => h = if nu = 0 then 0 else 2) (fun h => [(0, true, .slice (some a) es.length cap), (3, true, .slice qr es.length cr), (5, true, .slice q5 Dj.length c5), (6, true, .int .i64 (i : Int)), (9, true, .int .i64 id), (10, true, .int .i64 (nu : Int)), (11, true, .bool fa), (17, true, .int .i64 h), (24, true, .slice (some a) es.length cap), (25, true, .int .i64 (es.length : Int)), (26, true, .int .i64 (i : Int)), (32, true, .slice (some av) B.length c3), (33, true, .int .i64 (B.length : Int)), (34, true, .int .i64 (j : Int))]) (fun _ => Cls [] [w5, w6, w1, w]) ?_ ?_
        · (refine W.cnd (fun hn0 => ?_) (fun hn0 => ?_)) <;> (try (exfalso; first | omega | exact hn0 trivial | contradiction))
          · apply W.reg
            apply oas; rfl; rfl
            apply OL.nil
            exact At.joinedx 0 (by rw [if_pos (by omega)]) (by exact Sub.au) (fun w' hw' => hw')
          · apply W.skip
            exact At.joinedx 2 (by rw [if_neg (by omega)]) (by exact Sub.au) (fun w' hw' => hw')
        rintro h rfl
        apply W.seq
        apply W.sr
        apply omv; rfl; rfl
        apply obn; rfl; rfl; rfl; apply Bin.eql
        apply omv; rfl; rfl
        apply oy; rfl; rfl; rfl; apply Pev.move; rfl; exact yes
        apply oy; rfl; rfl; rfl; apply Pev.not; rfl; exact fun h => h
        apply oop; rfl; apply Pev.pick_and; rfl; exact yes; rfl; exact fun h => h
        apply OL.nx
        refine W.joinx (G := Unit) (fun _ => True) (fun _ => [(0, true, .slice (some a) es.length cap), (3, true, .slice qr es.length cr), (5, true, .slice q5 Dj.length c5), (6, true, .int .i64 (i : Int)), (9, true, .int .i64 id), (17, true, .int .i64 hw), (24, true, .slice (some a) es.length cap), (25, true, .int .i64 (es.length : Int)), (26, true, .int .i64 (i : Int)), (32, true, .slice (some av) B.length c3), (33, true, .int .i64 (B.length : Int)), (34, true, .int .i64 (j : Int))]) (fun _ => Cls [] [w5, w6, w1, w]) ?_ ?_
        · refine W.cond rfl (fun hb1 => ?_) (fun hb1 => ?_)
          · have h2 : nu = 1 ∧ fa = false := by
              simp at hb1
              exact ⟨by omega, hb1.2⟩
            have h3 := g2 h2.1 h2.2
            apply W.reg
            apply oas; rfl; rfl
            apply OL.nil
            exact At.joinedx () trivial (by rw [h3]; exact Sub.au) (fun w' hw' => hw')
          · have h2 : ¬ (nu = 1 ∧ fa = false) := fun h => by
              simp [h.1, h.2] at hb1
            have h3 : (if nu = 0 then (0 : Int) else 2) = hw := by
              split
              · rename_i h0
                exact (g1 h0).symm
              · rename_i h0
                exact (g3 h0 h2).symm
            rw [h3]
            apply W.skip
            exact At.joinedx () trivial (by exact Sub.au) (fun w' hw' => hw')
        rintro _ _
        generalize hl0 : sortI Dj = l at *
        rw [← hsl]
        have hll : l.length ≤ 900000000 := by omega
        have hlc2 : l.length ≤ c5 := by omega
        apply W.sr
        apply oas; rfl; rfl
        apply OL.nx
        apply W.seq
        refine W.joinx (G := Nat) (fun k => k ≤ l.length ∧ (∀ (j : Nat) x, j < k → l[j]? = some x → x < id) ∧ ∀ x, l[k]? = some x → ¬ x < id) (fun k => [(0, true, .slice (some a) es.length cap), (3, true, .slice qr es.length cr), (5, true, .slice q5 l.length c5), (6, true, .int .i64 (i : Int)), (9, true, .int .i64 id), (17, true, .int .i64 hw), (18, true, .int .i64 (k : Int)), (24, true, .slice (some a) es.length cap), (25, true, .int .i64 (es.length : Int)), (26, true, .int .i64 (i : Int)), (32, true, .slice (some av) B.length c3), (33, true, .int .i64 (B.length : Int)), (34, true, .int .i64 (j : Int))]) (fun _ => Cls [] [w5, w6, w1, w]) ?_ ?_
        · apply W.block
          refine W.loop (G := Nat) (fun k => k ≤ l.length ∧ ∀ (j : Nat) x, j < k → l[j]? = some x → x < id) (fun k => l.length - k)
            (fun k => [(0, true, .slice (some a) es.length cap), (3, true, .slice qr es.length cr), (5, true, .slice q5 l.length c5), (6, true, .int .i64 (i : Int)), (9, true, .int .i64 id), (17, true, .int .i64 hw), (18, true, .int .i64 (k : Int)), (24, true, .slice (some a) es.length cap), (25, true, .int .i64 (es.length : Int)), (26, true, .int .i64 (i : Int)), (32, true, .slice (some av) B.length c3), (33, true, .int .i64 (B.length : Int)), (34, true, .int .i64 (j : Int))]) (fun _ => Cls [] [w5, w6, w1, w]) 0 ⟨by omega, fun j x hj => by omega⟩ (by exact Sub.au) (fun w' hw' => hw') ?_
          rintro k ⟨hkl, hbelow⟩
          by_cases hkl2 : k < l.length
          · obtain ⟨a5, v5, rfl, hab5, hv5, hcv5⟩ := hS5.elem (l := l.map uf2) uc_len (by omega) (i := k) (by rw [List.length_map]; exact hkl2)
            obtain ⟨n5, hn5⟩ : ∃ n5, l[k]? = some n5 := ⟨_, List.getElem?_eq_getElem hkl2⟩
            have hv5' : v5 = (n5, usageOf e P n5) := by
              rw [List.getElem?_map, hn5] at hv5
              rw [← huf]
              exact (Option.some.inj hv5).symm
            subst hv5'
            have hcv5 : CellsAt w5 (a5.add (k * 2)) [.int .i64 n5, .int .i64 (usageOf e P n5)] := hcv5
            apply W.seq
            apply W.sr
            apply omv; rfl; rfl
            apply omv; rfl; rfl
            apply oop; rfl; apply Pev.len_slice; rfl; exact yes; rfl
            apply obn; rfl; rfl; rfl; apply Bin.lss
            apply omv; rfl; rfl
            apply oy; rfl; rfl; rfl; apply Pev.move; rfl; exact yes
            apply oy; rfl; rfl; rfl; apply Pev.move; rfl; exact yes
            apply oy; rfl; rfl; rfl; apply Pev.idx; rfl; exact fun h => h; rfl; exact fun h => h; rfl; rfl; intro hcond; omega
            apply oy; rfl; rfl; rfl; apply Pev.fldA; rfl; exact fun h => h; rfl
            apply oy; rfl; rfl; rfl; apply Pev.load_kept; rfl; exact fun h => h; exact .head _; rfl; intro hcond; apply CellsAt.at_ (by assumption) rfl; intro hcond; (simp only [add_block]; assumption); intro hcond; exact NotOwned.au
            apply oy; rfl; rfl; rfl; apply Pev.move; rfl; exact yes
            apply oy; rfl; rfl; rfl; apply Pev.bin; rfl; exact fun h => h; rfl; exact fun h => h; intro hcond; apply Bin.lss
            apply oop; rfl; apply Pev.pick_and; rfl; exact yes; rfl; exact fun h => h
            apply OL.nx
            refine W.cond rfl (fun hc3 => ?_) (fun hc3 => ?_)
            · have hlt5 : n5 < id := by grind
              apply W.sk
              apply W.block
              apply W.reg
              apply omv; rfl; rfl
              apply obn; rfl; rfl; rfl; apply Bin.add_in; omega
              apply oas; rfl; rfl
              apply OL.nil
              with_reducible apply At.in_normal
              refine At.again (k + 1) ⟨by omega, fun j x hj hx => ?_⟩ (by omega) (by exact Sub.au) (fun w' hw' => hw')
              by_cases ej : j = k
              · subst ej
                rw [hn5] at hx
                obtain rfl := Option.some.inj hx
                exact hlt5
              · exact hbelow j x (by omega) hx
            · have hge5 : ¬ n5 < id := by grind
              refine W.xt ?_
              refine At.joinedx k ⟨by omega, hbelow, fun x hx => ?_⟩ (by exact Sub.au) (fun w' hw' => hw')
              rw [hn5] at hx
              obtain rfl := Option.some.inj hx
              exact hge5
          · have hnl : NotLt (k : Int) (l.length : Int) := by unfold NotLt; omega
            apply W.seq
            apply W.sr
            apply omv; rfl; rfl
            apply omv; rfl; rfl
            apply oop; rfl; apply Pev.len_slice; rfl; exact yes; rfl
            apply obn; rfl; rfl; rfl; apply Bin.lss_nof; assumption
            apply omv; rfl; rfl
            apply oy; rfl; rfl; rfl; with_reducible exact Pev.no
            apply oy; rfl; rfl; rfl; with_reducible exact Pev.no
            apply oy; rfl; rfl; rfl; with_reducible exact Pev.no
            apply oy; rfl; rfl; rfl; with_reducible exact Pev.no
            apply oy; rfl; rfl; rfl; with_reducible exact Pev.no
            apply oy; rfl; rfl; rfl; with_reducible exact Pev.no
            apply oy; rfl; rfl; rfl; with_reducible exact Pev.no
            apply oop; rfl; apply Pev.pick_and; rfl; exact yes; rfl; exact fun h => h
            apply OL.nx
            refine W.cond rfl (fun hc3 => by cases hc3) (fun hc3 => ?_)
            refine W.xt ?_
            refine At.joinedx k ⟨by omega, hbelow, fun x hx => ?_⟩ (by exact Sub.au) (fun w' hw' => hw')
            have := (List.getElem?_eq_some_iff.1 hx).1
            omega
        rintro k ⟨hkl, hbelow, hge⟩
        have hq0 : q5 = none → k = 0 := fun h => by
          have h1 := hq5 h
          rw [h1] at hsl
          simp at hsl
          subst hsl
          simpa using hkl
        have hdropS : ∀ (w9 : World) (H : List Eng.Item), Cls H [w5, w6, w1, w] w9 → (∀ k, k < w5.heap.size → NotOwned H k) → SlAt w9 w9.heap.size (cutq q5 c5 k 2) (cat uc ((l.drop k).map uf2)) := fun w9 H hw9 hno => by
          have h1 := (hS5.atW hw9 (.head _) hno).dropC uc_len (cap := c5) (by rw [List.length_map]; exact hlc2) k
          rwa [← List.map_drop] at h1
        have htakeS : ∀ (w9 : World) (H : List Eng.Item), Cls H [w5, w6, w1, w] w9 → (∀ k, k < w5.heap.size → NotOwned H k) → SlAt w9 w9.heap.size q5 (cat uc ((l.take k).map uf2)) := fun w9 H hw9 hno => by
          have h1 := (hS5.atW hw9 (.head _) hno).takeC k
          rwa [← List.map_take] at h1
        have hnew : sortI (Dj ++ [id]) = l.take k ++ (id :: l.drop k) := by
          obtain ⟨h2, h3⟩ := tw_takeU hbelow hge
          rw [hsn]
          unfold insN
          rw [h2, h3]
        have hcat : cat uc ((l.take k).map uf2) ++ ([.int .i64 id, .int .i64 hw] ++ cat uc ((l.drop k).map uf2)) = cat uc ((sortI (Dj ++ [id])).map uf2) := by
          rw [hnew, List.map_append, List.map_cons, cat_append, cat, hu1]
          rfl
        have hlnew : k + (1 + (l.length - k)) = (Dj ++ [id]).length := by
          rw [List.length_append, List.length_singleton]
          omega
        skip
        refine W.regany (X := XF w5) (fun x e => [(5, true, bif e 13 then .slice x.q11 (k + (1 + (l.length - k))) x.c11 else .slice q5 l.length c5), (135, true, bif e 12 then .slice x.q11 (k + (1 + (l.length - k))) x.c11 else x.old 135), (134, true, bif e 11 then .slice x.q10 (1 + (l.length - k)) x.c10 else x.old 134), (133, true, bif e 10 then .slice (cutq q5 c5 k 2) (l.length - k) (c5 - k) else x.old 133), (132, true, bif e 9 then .int .i64 (k : Int) else x.old 132), (131, true, bif e 8 then .slice q5 l.length c5 else x.old 131), (130, true, bif e 7 then .slice (some ⟨x.b6, 0, none⟩) 1 1 else x.old 130), (129, true, bif e 6 then .agg #[.int .i64 id, .int .i64 hw] else x.old 129), (128, true, bif e 5 then .int .i64 hw else x.old 128), (127, true, bif e 4 then .int .i64 id else x.old 127), (126, true, bif e 3 then .slice q5 k k else x.old 126), (125, true, bif e 2 then .int .i64 (k : Int) else x.old 125), (124, true, bif e 1 then .int .i64 (k : Int) else x.old 124), (123, true, bif e 0 then .slice q5 l.length c5 else x.old 123), (0, true, .slice (some a) es.length cap), (3, true, .slice qr es.length cr), (6, true, .int .i64 (i : Int)), (9, true, .int .i64 id), (17, true, .int .i64 hw), (18, true, .int .i64 (k : Int)), (24, true, .slice (some a) es.length cap), (25, true, .int .i64 (es.length : Int)), (26, true, .int .i64 (i : Int)), (32, true, .slice (some av) B.length c3), (33, true, .int .i64 (B.length : Int)), (34, true, .int .i64 (j : Int))])
          (fun x e => (bif e 11 then row w5.heap.size x.O10 x.q10 (1 + (l.length - k)) x.c10 64 2 ([.int .i64 id, .int .i64 hw] ++ cat uc ((l.drop k).map uf2)) else (bif e 7 then blk x.b6 64 [.int .i64 id, .int .i64 hw] else nothing)) :: (bif e 12 then row w5.heap.size x.O11 x.q11 (k + (1 + (l.length - k))) x.c11 64 2 (cat uc ((l.take k).map uf2) ++ ([.int .i64 id, .int .i64 hw] ++ cat uc ((l.drop k).map uf2))) else nothing) :: [])
          (fun old => ⟨w5.heap.size, Nat.le_refl _, fun _ => False, none, 0, fun _ => False, none, 0, old⟩) (by kernel_rfl) (by kernel_rfl) (fun w hw => hw.drew) (fun old => by repeat (first | exact SubO.nil | apply SubO.cons rfl | refine SubO.old rfl ?_)) (fun old w' hw' => (hw'.add_nothing).add_nothing) ?_ ?_
        · intro x e i o ho hei hd hcl
          have hi : i < 14 := (List.getElem?_eq_some_iff.1 ho).1
          obtain rfl | rfl | rfl | rfl | rfl | rfl | rfl | rfl | rfl | rfl | rfl | rfl | rfl | rfl : i = 0 ∨ i = 1 ∨ i = 2 ∨ i = 3 ∨ i = 4 ∨ i = 5 ∨ i = 6 ∨ i = 7 ∨ i = 8 ∨ i = 9 ∨ i = 10 ∨ i = 11 ∨ i = 12 ∨ i = 13 := by omega
          · cases ho
            have h13 : e 13 = false := hcl.not (i := 0) (j := 13) rfl hei (by kernel_rfl)
            have v0 : Eng.upd e 0 0 = true := upd_eq
            have v13 : Eng.upd e 0 13 = false := h13
            simp only [hei, h13, cond_true, cond_false]
            apply omv; rfl; rfl
            apply OL.nil
            exact At.beside x (by repeat (first | exact Sub.nil | apply Sub.cons rfl | refine Sub.cons_eq rfl (by simp only [v0, v13, cond_true, cond_false]) ?_)) (fun w' hw' => by first | exact hw' | (simp only [v0, v13, cond_true, cond_false]; exact hw'))
          · cases ho
            have v1 : Eng.upd e 1 1 = true := upd_eq
            simp only [hei, cond_true, cond_false]
            apply omv; rfl; rfl
            apply OL.nil
            exact At.beside x (by repeat (first | exact Sub.nil | apply Sub.cons rfl | refine Sub.cons_eq rfl (by simp only [v1, cond_true, cond_false]) ?_)) (fun w' hw' => by first | exact hw' | (simp only [v1, cond_true, cond_false]; exact hw'))
          · cases ho
            have v2 : Eng.upd e 2 2 = true := upd_eq
            simp only [hei, cond_true, cond_false]
            apply omv; rfl; rfl
            apply OL.nil
            exact At.beside x (by repeat (first | exact Sub.nil | apply Sub.cons rfl | refine Sub.cons_eq rfl (by simp only [v2, cond_true, cond_false]) ?_)) (fun w' hw' => by first | exact hw' | (simp only [v2, cond_true, cond_false]; exact hw'))
          · cases ho
            have h0 : e 0 = true := hd ⟨0, .data⟩ (by simp) rfl
            have h1 : e 1 = true := hd ⟨1, .data⟩ (by simp) rfl
            have h2 : e 2 = true := hd ⟨2, .data⟩ (by simp) rfl
            have v3 : Eng.upd e 3 3 = true := upd_eq
            have v0 : Eng.upd e 3 0 = true := upd_mono h0
            have v1 : Eng.upd e 3 1 = true := upd_mono h1
            have v2 : Eng.upd e 3 2 = true := upd_mono h2
            simp only [hei, h0, h1, h2, cond_true, cond_false]
            apply oop; rfl; apply Pev.slice_hm; rfl; exact yes; rfl; exact yes; rfl; exact yes; rfl; rfl; rfl; intro hcond; omega
            apply OL.nil
            exact At.beside x (by repeat (first | exact Sub.nil | apply Sub.cons rfl | refine Sub.cons_eq rfl (by simp only [v3, v0, v1, v2, cond_true, cond_false]) ?_)) (fun w' hw' => by first | exact hw' | (simp only [v3, v0, v1, v2, cond_true, cond_false]; exact hw'))
          · cases ho
            have v4 : Eng.upd e 4 4 = true := upd_eq
            simp only [hei, cond_true, cond_false]
            apply omv; rfl; rfl
            apply OL.nil
            exact At.beside x (by repeat (first | exact Sub.nil | apply Sub.cons rfl | refine Sub.cons_eq rfl (by simp only [v4, cond_true, cond_false]) ?_)) (fun w' hw' => by first | exact hw' | (simp only [v4, cond_true, cond_false]; exact hw'))
          · cases ho
            have v5 : Eng.upd e 5 5 = true := upd_eq
            simp only [hei, cond_true, cond_false]
            apply omv; rfl; rfl
            apply OL.nil
            exact At.beside x (by repeat (first | exact Sub.nil | apply Sub.cons rfl | refine Sub.cons_eq rfl (by simp only [v5, cond_true, cond_false]) ?_)) (fun w' hw' => by first | exact hw' | (simp only [v5, cond_true, cond_false]; exact hw'))
          · cases ho
            have h4 : e 4 = true := hd ⟨4, .data⟩ (by simp) rfl
            have h5 : e 5 = true := hd ⟨5, .data⟩ (by simp) rfl
            have v6 : Eng.upd e 6 6 = true := upd_eq
            have v4 : Eng.upd e 6 4 = true := upd_mono h4
            have v5 : Eng.upd e 6 5 = true := upd_mono h5
            simp only [hei, h4, h5, cond_true, cond_false]
            apply oop; rfl; apply Pev.build; rfl; exact CellsL.agg; rfl; exact Fill.au; rfl
            apply OL.nil
            exact At.beside x (by repeat (first | exact Sub.nil | apply Sub.cons rfl | refine Sub.cons_eq rfl (by simp only [v6, v4, v5, cond_true, cond_false]) ?_)) (fun w' hw' => by first | exact hw' | (simp only [v6, v4, v5, cond_true, cond_false]; exact hw'))
          · cases ho
            have h6 : e 6 = true := hd ⟨6, .data⟩ (by simp) rfl
            have h11 : e 11 = false := hcl.not (i := 7) (j := 11) rfl hei (by kernel_rfl)
            have v7 : Eng.upd e 7 7 = true := upd_eq
            have v6 : Eng.upd e 7 6 = true := upd_mono h6
            have v11 : Eng.upd e 7 11 = false := h11
            simp only [hei, h6, h11, cond_true, cond_false]
            apply OL.buildSlice; rfl; rfl; rfl; exact Elems.au; rfl; rfl; (intro bk hbk; simp only [AllLe, and_true] at hbk)
            apply OL.nil
            exact At.beside { x with b6 := bk, hb6 := hbk.1 } (by repeat (first | exact Sub.nil | apply Sub.cons rfl | refine Sub.cons_eq rfl (by simp only [v7, v6, v11, cond_true, cond_false]) ?_)) (fun w' hw' => by simp only [v7, v6, v11, cond_true, cond_false]; exact Cls.fill (p := 0) (H := _ :: _ :: []) .z hw')
          · cases ho
            have h13 : e 13 = false := hcl.not (i := 8) (j := 13) rfl hei (by kernel_rfl)
            have v8 : Eng.upd e 8 8 = true := upd_eq
            have v13 : Eng.upd e 8 13 = false := h13
            simp only [hei, h13, cond_true, cond_false]
            apply omv; rfl; rfl
            apply OL.nil
            exact At.beside x (by repeat (first | exact Sub.nil | apply Sub.cons rfl | refine Sub.cons_eq rfl (by simp only [v8, v13, cond_true, cond_false]) ?_)) (fun w' hw' => by first | exact hw' | (simp only [v8, v13, cond_true, cond_false]; exact hw'))
          · cases ho
            have v9 : Eng.upd e 9 9 = true := upd_eq
            simp only [hei, cond_true, cond_false]
            apply omv; rfl; rfl
            apply OL.nil
            exact At.beside x (by repeat (first | exact Sub.nil | apply Sub.cons rfl | refine Sub.cons_eq rfl (by simp only [v9, cond_true, cond_false]) ?_)) (fun w' hw' => by first | exact hw' | (simp only [v9, cond_true, cond_false]; exact hw'))
          · cases ho
            have h8 : e 8 = true := hd ⟨8, .data⟩ (by simp) rfl
            have h9 : e 9 = true := hd ⟨9, .data⟩ (by simp) rfl
            have v10 : Eng.upd e 10 10 = true := upd_eq
            have v8 : Eng.upd e 10 8 = true := upd_mono h8
            have v9 : Eng.upd e 10 9 = true := upd_mono h9
            simp only [hei, h8, h9, cond_true, cond_false]
            apply oop; rfl; apply Pev.slice_lo; rfl; exact yes; rfl; exact yes; rfl; rfl; intro hcond; omega
            apply OL.nil
            exact At.beside x (by repeat (first | exact Sub.nil | apply Sub.cons rfl | refine Sub.cons_eq rfl (by simp only [v10, v8, v9, cond_true, cond_false]) ?_)) (fun w' hw' => by first | exact hw' | (simp only [v10, v8, v9, cond_true, cond_false]; exact hw'))
          · cases ho
            have h7 : e 7 = true := hd ⟨7, .data⟩ (by simp) rfl
            have h10 : e 10 = true := hd ⟨10, .data⟩ (by simp) rfl
            have v11 : Eng.upd e 11 11 = true := upd_eq
            have v7 : Eng.upd e 11 7 = true := upd_mono h7
            have v10 : Eng.upd e 11 10 = true := upd_mono h10
            simp only [hei, h7, h10, cond_true, cond_false]
            apply OL.appendB
            rfl
            rfl
            rfl
            rfl
            exact Hole.z
            exact x.hb6
            rfl
            exact fun w9 hw9 => hdropS w9 _ hw9 (fun k hk => by have := x.hb6; exact NotOwned.au)
            (rw [cat_length uc_len, List.length_map, List.length_drop])
            exact cat_oneL (fun _ => rfl) _
            exact ⟨w5, .head _, Nat.le_refl _⟩
            omega
            intro O10 q10 c10
            apply OL.nil
            exact At.beside { x with O10 := O10, q10 := q10, c10 := c10 } (by repeat (first | exact Sub.nil | apply Sub.cons rfl | refine Sub.cons_eq rfl (by simp only [v11, v7, v10, cond_true, cond_false]) ?_)) (fun w' hw' => by first | exact hw' | (simp only [v11, v7, v10, cond_true, cond_false]; exact hw'))
          · cases ho
            have h3 : e 3 = true := hd ⟨3, .data⟩ (by simp) rfl
            have h11 : e 11 = true := hd ⟨11, .data⟩ (by simp) rfl
            have h13 : e 13 = false := hcl.not (i := 12) (j := 13) rfl hei (by kernel_rfl)
            have v12 : Eng.upd e 12 12 = true := upd_eq
            have v3 : Eng.upd e 12 3 = true := upd_mono h3
            have v11 : Eng.upd e 12 11 = true := upd_mono h11
            have v13 : Eng.upd e 12 13 = false := h13
            simp only [hei, h3, h11, h13, cond_true, cond_false]
            apply OL.appendF
            rfl
            rfl
            rfl
            rfl
            exact Hole.au
            exact fun w9 hw9 => htakeS w9 _ hw9 (fun k hk => by exact NotOwned.au)
            (rw [cat_length uc_len, List.length_map, List.length_take, Nat.min_eq_left hkl])
            exact fun w9 hw9 => SlAt.of_row (hw9.item (.head _))
            (simp only [List.length_append, cat_length uc_len, List.length_map, List.length_drop, List.length_cons, List.length_nil]; omega)
            exact oneL_append _ _ rfl (cat_oneL (fun _ => rfl) _)
            omega
            exact ⟨w5, .head _, Nat.le_refl _⟩
            omega
            exact hq0
            intro O11 q11 c11
            apply OL.nil
            exact At.beside { x with O11 := O11, q11 := q11, c11 := c11 } (by repeat (first | exact Sub.nil | apply Sub.cons rfl | refine Sub.cons_eq rfl (by simp only [v12, v3, v11, v13, cond_true, cond_false]) ?_)) (fun w' hw' => by first | exact hw' | (simp only [v12, v3, v11, v13, cond_true, cond_false]; exact hw'))
          · cases ho
            have h12 : e 12 = true := hd ⟨12, .data⟩ (by simp) rfl
            have v13 : Eng.upd e 13 13 = true := upd_eq
            have v12 : Eng.upd e 13 12 = true := upd_mono h12
            simp only [hei, h12, cond_true, cond_false]
            apply oas; rfl; rfl
            apply OL.nil
            exact At.beside x (by repeat (first | exact Sub.nil | apply Sub.cons rfl | refine Sub.cons_eq rfl (by simp only [v13, v12, cond_true, cond_false]) ?_)) (fun w' hw' => by first | exact hw' | (simp only [v13, v12, cond_true, cond_false]; exact hw'))
        · intro x e2 hall
          simp only [hall 0 (by decide), hall 1 (by decide), hall 2 (by decide), hall 3 (by decide), hall 4 (by decide), hall 5 (by decide), hall 6 (by decide), hall 7 (by decide), hall 8 (by decide), hall 9 (by decide), hall 10 (by decide), hall 11 (by decide), hall 12 (by decide), hall 13 (by decide), cond_true]
          rw [hcat, hlnew]
          with_reducible apply At.in_normal
          with_reducible apply At.next
          apply W.reg
          apply obn; rfl; rfl; rfl; apply Bin.add_in; omega
          apply omv; rfl; rfl
          apply OL.nil
          refine At.againE (fun w' hw' => ⟨(j + 1, ⟨w', x.q11, x.c11⟩), ⟨by simp only; omega, ?_, ?_, ?_, fun h => ?_⟩, by simp only; omega, (by rw [hDn]; exact Sub.au), ?_⟩)
          · exact Nat.le_trans hsz5 (hw'.kp w5 (.head _)).size
          · rw [hDn]
            exact row_cap (hw'.item (i := row w5.heap.size x.O11 x.q11 (Dj ++ [id]).length x.c11 64 2 (cat uc ((sortI (Dj ++ [id])).map uf2))) (by exact mau))
          · rw [hDn]
            exact SlAt.of_row (hw'.item (i := row w5.heap.size x.O11 x.q11 (Dj ++ [id]).length x.c11 64 2 (cat uc ((sortI (Dj ++ [id])).map uf2))) (by exact mau))
          · have h3 := SlAt.of_row (hw'.item (i := row w5.heap.size x.O11 x.q11 (Dj ++ [id]).length x.c11 64 2 (cat uc ((sortI (Dj ++ [id])).map uf2))) (by exact mau)) (by rw [cat_length uc_len, List.length_map, sortI_len, List.length_append, List.length_singleton]; omega)
            obtain ⟨a9, h4, _⟩ := h3
            simp only at h
            rw [h] at h4
            cases h4
          · have h4 := (hw'.thin (.any (fun k hk => ⟨hk.1, by have := hk.1; omega, by have := hk.1; omega, by have := hk.1; omega, trivial⟩) (.any (fun k hk => ⟨hk.1, by have := hk.1; omega, by have := hk.1; omega, by have := hk.1; omega, trivial⟩) Thin.nil))).note
            exact h4.forget (fun s hs => by simp at hs ⊢; rcases hs with rfl | rfl | rfl | rfl <;> simp)
    · obtain rfl : j = B.length := by omega
      rw [List.take_length, ← hDs] at *
      refine W.xt ?_
      with_reducible apply At.in_normal
      with_reducible apply At.next
      apply W.reg
      apply obn; rfl; rfl; rfl; apply Bin.add_in; omega
      apply omv; rfl; rfl
      apply OL.nil
      refine At.again (i + 1, ⟨w5, q5, c5⟩) ⟨by simp only; omega, by simp only; omega, hlc, hS5, hq5⟩ (by simp only; omega) (by exact Sub.au) (fun w' hw' => hw'.forget (fun s hs => by simp at hs ⊢; rcases hs with rfl | rfl | rfl <;> simp))
  · obtain rfl : i = es.length := by omega
    have hall : bnds e es.length = e.flatMap bindersX := by rw [← hel, bnds_all]
    rw [hall] at hS4 ⊢
    refine W.xt ?_
    with_reducible apply At.next
    apply W.sr
    apply omv; rfl; rfl
    apply oas; rfl; rfl
    apply OL.nx
    apply W.ret
    ((with_reducible apply At.fin1); rfl; rfl; intro w' hw')
    refine ⟨q4, c4, P, rfl, hw'.fr (by exact mau), hP, ?_⟩
    rw [hufd]
    exact hS4.atW hw' (by exact mau) (fun k hk => NotOwned.nil)
end Go.Proofs.YtlboppiogeaicaaDoor.co

/- The walk of core's below. Conditions: none. (Printed by czb.py.) -/
namespace Go.Proofs.YtlboppiogeaicaaDoor.co
open Go.RowKit Go.Eng Go.Co
set_option linter.unusedVariables false
set_option linter.unusedSimpArgs false
set_option maxRecDepth 100000
theorem below_calls (es : List (Ex × ExY)) (q : Option Addr) (cap n : Nat) (w : World) (he : Arr exR w (low w) es q) (hlen : es.length ≤ 4096) (hcap : es.length ≤ cap) (hn : n < es.length) (hd : Down (es.map Prod.fst)) (hlim : ∀ p ∈ es, Lim p.1) (hkl : ∀ p ∈ es, p.1.kids.length ≤ 4096) :
    Calls Tryd.prog 41 [.slice q es.length cap, .int .i64 (n : Int)].toArray w fun e w' => ∃ b, e = .returned (.pointer (some ⟨b, 0, none⟩)) ∧ Ext w w' ∧ TrO w' (low w') (grow (es.map Prod.fst) n) b := by
  obtain ⟨e, hee⟩ : ∃ e, es.map Prod.fst = e := ⟨_, rfl⟩
  have hel : e.length = es.length := by rw [← hee, List.length_map]
  rw [hee] at hd ⊢
  have hget : ∀ {i : Nat}, i < es.length → ∃ a p, q = some a ∧ a.block < w.heap.size ∧ es[i]? = some p ∧ e[i]? = some p.1 ∧ CellsAt w (a.add (i * 5)) [.int .i64 p.1.op, .int .i64 p.1.n, .slice p.2.b.1 p.1.binds.length p.2.b.2, .slice p.2.k.1 p.1.kids.length p.2.k.2, .slice p.2.a.1 p.1.alts.length p.2.a.2] ∧ ExOk w (low w) p.1 p.2 := fun {i} hi => by
    obtain ⟨a, p, h1, h2, h3, h4, h5⟩ := he.get hi
    exact ⟨a, p, h1, h2, h3, by rw [← hee, List.getElem?_map, h3]; rfl, h4, h5⟩
  refine enter Tryd.func41 rfl Tryd.ntmps41 rfl (Cls.start w) ?_
  (simp only [argEnv, Nat.zero_add, Nat.reduceAdd])
  apply W.sr
  apply oas; rfl; rfl
  apply OL.nsr
  apply omv; rfl; rfl
  apply oop; rfl; apply Pev.len_slice; rfl; exact yes; rfl
  apply OL.makeSlice; rfl; rfl; rfl; rfl; rfl; rfl; rfl; omega; (intro bk hbk; simp only [AllLe, and_true] at hbk)
  apply oas; rfl; rfl
  apply OL.nx
  apply W.seq
  apply W.sr
  apply omv; rfl; rfl
  apply omv; rfl; rfl
  apply obn; rfl; rfl; rfl; apply Bin.add_in; omega
  apply oop; rfl; apply Pev.slice_hi; rfl; exact yes; rfl; exact yes; rfl; rfl; intro hcond; (simp only [Bool.and_eq_true, Bool.or_eq_true, Bool.not_eq_true', decide_eq_true_eq, decide_eq_false_iff_not] at *; omega)
  apply oop; rfl; apply Pev.len_slice; rfl; exact yes; rfl
  apply omv; rfl; rfl
  apply OL.nx
  apply W.block
  revert bk
  intro bn hbn
  have hz0 : List.replicate es.length (Value.pointer none) = nds (fun _ => 0) 0 es.length := nds_zero _ _
  refine W.exx (X := { x : World // bn < x.heap.size ∧ w.heap.size ≤ x.heap.size }) (C' := fun x => Cls [blk bn 69 (nds (fun _ => 0) 0 es.length)] [x.1, w]) (fun w2 hw2 => by rw [hz0] at hw2; exact ⟨⟨w2, hw2.lt _ (.head _) bn rfl, (hw2.kp w (.head _)).size⟩, hw2.note⟩) ?_
  rintro ⟨w0, hw0a, hw0b⟩
  simp only
  refine W.loop (G := Nat × World × (Nat → Nat)) (fun g => g.1 ≤ n + 1 ∧ w.heap.size ≤ g.2.1.heap.size ∧ bn < g.2.1.heap.size ∧ ∀ k, k < g.1 → TrO g.2.1 (fun b => b < g.2.1.heap.size ∧ b ≠ bn) (grow e k) (g.2.2 k)) (fun g => n + 1 - g.1)
    (fun g => [(1, true, .int .i64 (n : Int)), (5, true, .slice (some ⟨bn, 0, none⟩) es.length es.length), (17, true, .slice q (n + 1) cap), (18, true, .int .i64 ((n + 1 : Nat) : Int)), (19, true, .int .i64 (g.1 : Int))])
    (fun g => Cls [blk bn 69 (nds g.2.2 g.1 es.length)] [g.2.1, w]) (0, w0, fun _ => 0) ⟨by simp, hw0b, hw0a, fun k hk => by simp at hk⟩ (by exact Sub.au) (fun w' hw' => hw') ?_
  rintro ⟨i, wk, tb⟩ ⟨hi, hwk, hbnk, htr⟩
  simp only at hi hwk hbnk htr ⊢
  apply W.sr
  apply obn; rfl; rfl; rfl; apply Bin.lss
  apply OL.nx
  apply W.seq
  (refine W.cnd (fun hlt => ?_) (fun hlt => ?_)) <;> (try (exfalso; first | omega | exact hlt trivial | contradiction))
  · have hil : i < es.length := by omega
    have hin : i < n + 1 := by omega
    obtain ⟨a, p, rfl, hab, hp, hpe, hcell, hok⟩ := hget hil
    have hL := hlim p (List.mem_of_getElem? hp)
    have hkl1 := hkl p (List.mem_of_getElem? hp)
    have hdn := hd i _ hpe
    apply W.sk
    apply W.sb
    apply W.sr
    apply omv; rfl; rfl
    apply oop; rfl; apply Pev.idx; rfl; exact yes; rfl; exact yes; rfl; rfl; intro hcond; omega
    apply oop; rfl; apply Pev.load_keptA; rfl; exact yes; exact .tail _ (.head _); rfl; intro hcond; assumption; rfl; intro hcond; (rw [add_block]; assumption); intro hcond; exact NotOwned.au
    apply OL.alloc; rfl; rfl; exact CellsL.agg; (intro bk hbk; simp only [AllLe, and_true] at hbk)
    apply oas; rfl; rfl
    apply OL.storeB; rfl; rfl; exact CellsL.agg; rfl; rfl; rfl; exact Swap.au; exact Put.au
    apply OL.nsr
    apply ofa; rfl; rfl; rfl
    apply old; rfl; rfl; exact .head _; rfl; rfl
    apply ofa; rfl; rfl; rfl
    apply old; rfl; rfl; exact .head _; rfl; rfl
    apply ofa; rfl; rfl; rfl
    apply old; rfl; rfl; exact .head _; rfl; rfl
    apply ofa; rfl; rfl; rfl
    apply old; rfl; rfl; exact .head _; rfl; rfl
    apply oop; rfl; apply Pev.build; rfl; exact CellsL.agg; rfl; exact Fill.au; rfl
    apply OL.box; rfl; rfl; exact CellsL.agg; (intro bk hbk; simp only [AllLe, and_true] at hbk)
    apply oas; rfl; rfl
    apply OL.nx
    apply W.seq
    apply W.sr
    apply ofa; rfl; rfl; rfl
    apply old; rfl; rfl; exact .tail _ (.head _); rfl; rfl
    apply oop; rfl; apply Pev.len_slice; rfl; exact yes; rfl
    apply omv; rfl; rfl
    apply OL.nx
    apply W.block
    revert bk
    intro bt hbt
    revert bk
    intro bx hbx
    refine W.loop (G := Nat × GR) (fun g => g.1 ≤ p.1.kids.length) (fun g => p.1.kids.length - g.1)
      (fun g => [(1, true, .int .i64 (n : Int)), (5, true, .slice (some ⟨bn, 0, none⟩) es.length es.length), (6, true, .int .i64 (i : Int)), (8, true, .pointer (some ⟨bt, 0, none⟩)), (17, true, .slice (some a) (n + 1) cap), (18, true, .int .i64 ((n + 1 : Nat) : Int)), (19, true, .int .i64 (i : Int)), (35, true, .slice p.2.k.1 p.1.kids.length p.2.k.2), (36, true, .int .i64 (p.1.kids.length : Int)), (37, true, .int .i64 (g.1 : Int))])
      (fun g => Cls (blk bn 69 (nds tb i es.length) :: blk bx 28 [.int .i64 p.1.op, .int .i64 p.1.n, .slice p.2.b.1 p.1.binds.length p.2.b.2, .slice p.2.k.1 p.1.kids.length p.2.k.2, .slice p.2.a.1 p.1.alts.length p.2.a.2] :: blk bt 91 [.int .i64 p.1.op, .int .i64 p.1.n, .slice p.2.b.1 p.1.binds.length p.2.b.2, .slice g.2.q g.1 g.2.c, .slice p.2.a.1 p.1.alts.length p.2.a.2] :: row wk.heap.size g.2.O g.2.q g.1 g.2.c 69 1 (ptrs (kp tb (p.1.kids.take g.1))) :: []) [wk, w]) (0, ⟨fun _ => False, none, 0⟩) (by simp) (by exact Sub.au) (fun w' hw' => Cls.mv (A := [_]) (I := [_, _, _]) (H := []) (Cls.row_nil (hw'.perm (List.reverse_perm _).symm) wk.heap.size _ 1)) ?_
    rintro ⟨j, ⟨Ok, qk, ck⟩⟩ hj
    simp only at hj ⊢
    have hkl := hok.kl
    apply W.sr
    apply obn; rfl; rfl; rfl; apply Bin.lss
    apply OL.nx
    apply W.seq
    (refine W.cnd (fun hlt2 => ?_) (fun hlt2 => ?_)) <;> (try (exfalso; first | omega | exact hlt2 trivial | contradiction))
    · have hjl : j < p.1.kids.length := by omega
      obtain ⟨ak, k, hqk, habk, hk, hck⟩ := hok.k.get hjl
      have habk : ak.block < w.heap.size := habk
      have hkr := hdn k (List.mem_of_getElem? hk)
      obtain ⟨kn, rfl⟩ : ∃ kn : Nat, k = (kn : Int) := ⟨k.toNat, by omega⟩
      have hkn : (nds tb i es.length)[0 + (kn : Int).toNat * 1]? = some (.pointer (some ⟨tb kn, 0, none⟩)) := by
        have h1 := nds_get (tb := tb) (i := i) (n := es.length) (k := kn) (by omega) (by omega)
        simpa using h1
      rw [hqk]
      apply W.sk
      apply W.sb
      apply W.sr
      apply oop; rfl; apply Pev.idx; rfl; exact yes; rfl; exact yes; rfl; rfl; intro hcond; omega
      apply oop; rfl; apply Pev.load_kept; rfl; exact yes; exact .tail _ (.head _); rfl; intro hcond; assumption; intro hcond; (rw [add_block]; assumption); intro hcond; exact NotOwned.au
      apply oas; rfl; rfl
      apply OL.nx
      refine W.regany (X := XG [wk, w] p.1.binds.length wk.heap.size) (fun x e => [(53, true, bif e 12 then .pointer (some ⟨bt, 0 + 3, none⟩) else x.old 53), (52, true, bif e 11 then .pointer (some ⟨bt, 0, none⟩) else x.old 52), (51, true, bif e 10 then .slice (some ⟨x.g1, 0, none⟩) (j + 1) x.c1 else x.old 51), (50, true, bif e 9 then .slice (some ⟨x.b1, 0, none⟩) 1 1 else x.old 50), (49, true, bif e 8 then Value.pointer (some ⟨tb kn, 0, none⟩) else x.old 49), (48, true, bif e 7 then .pointer (some ⟨bn, 0 + (kn : Int).toNat * 1, none⟩) else x.old 48), (47, true, bif e 6 then .int .i64 (kn : Int) else x.old 47), (46, true, bif e 5 then .slice (some ⟨bn, 0, none⟩) es.length es.length else x.old 46), (45, true, bif e 4 then .slice qk j ck else x.old 45), (44, true, bif e 3 then .pointer (some ⟨bt, 0 + 3, none⟩) else x.old 44), (43, true, bif e 2 then .pointer (some ⟨bt, 0, none⟩) else x.old 43), (42, true, bif e 1 then .pointer (some ⟨bt, 0, none⟩) else x.old 42), (41, true, bif e 0 then .pointer (some ⟨bt, 0, none⟩) else x.old 41), (1, true, .int .i64 (n : Int)), (5, true, .slice (some ⟨bn, 0, none⟩) es.length es.length), (6, true, .int .i64 (i : Int)), (8, true, .pointer (some ⟨bt, 0, none⟩)), (10, true, .int .i64 (kn : Int)), (17, true, .slice (some a) (n + 1) cap), (18, true, .int .i64 ((n + 1 : Nat) : Int)), (19, true, .int .i64 (i : Int)), (35, true, .slice (some ak) p.1.kids.length p.2.k.2), (36, true, .int .i64 (p.1.kids.length : Int)), (37, true, .int .i64 (j : Int))])
        (fun x e => (blk bn 69 (nds tb i es.length)) :: (blk bx 28 [.int .i64 p.1.op, .int .i64 p.1.n, .slice p.2.b.1 p.1.binds.length p.2.b.2, .slice (some ak) p.1.kids.length p.2.k.2, .slice p.2.a.1 p.1.alts.length p.2.a.2]) :: (blk bt 91 [.int .i64 p.1.op, .int .i64 p.1.n, .slice p.2.b.1 p.1.binds.length p.2.b.2, bif e 13 then .slice (some ⟨x.g1, 0, none⟩) (j + 1) x.c1 else .slice qk j ck, .slice p.2.a.1 p.1.alts.length p.2.a.2]) :: (bif e 10 then row wk.heap.size x.O1 (some ⟨x.g1, 0, none⟩) (j + 1) x.c1 69 1 ((ptrs (kp tb (p.1.kids.take j))) ++ [Value.pointer (some ⟨tb kn, 0, none⟩)]) else row wk.heap.size Ok qk j ck 69 1 (ptrs (kp tb (p.1.kids.take j)))) :: (bif e 9 then blk x.b1 69 [Value.pointer (some ⟨tb kn, 0, none⟩)] else nothing) :: [])
        (fun old => ⟨fun _ => False, none, p.1.binds.length, Nat.le_refl _, wk.heap.size, Nat.le_refl _, 0, 0, fun _ => False, wk.heap.size, Nat.le_refl _, old⟩) (by kernel_rfl) (by kernel_rfl) (fun w hw => hw.drew) (fun old => by repeat (first | exact SubO.nil | apply SubO.cons rfl | refine SubO.old rfl ?_)) (fun old w' hw' => hw'.add_nothing) ?_ ?_
      · intro x e i o ho hei hd hcl
        have hi : i < 14 := (List.getElem?_eq_some_iff.1 ho).1
        obtain rfl | rfl | rfl | rfl | rfl | rfl | rfl | rfl | rfl | rfl | rfl | rfl | rfl | rfl : i = 0 ∨ i = 1 ∨ i = 2 ∨ i = 3 ∨ i = 4 ∨ i = 5 ∨ i = 6 ∨ i = 7 ∨ i = 8 ∨ i = 9 ∨ i = 10 ∨ i = 11 ∨ i = 12 ∨ i = 13 := by omega
        · cases ho
          have v0 : Eng.upd e 0 0 = true := upd_eq
          simp only [hei, cond_true, cond_false]
          apply omv; rfl; rfl
          apply OL.nil
          exact At.beside x (by repeat (first | exact Sub.nil | apply Sub.cons rfl | refine Sub.cons_eq rfl (by simp only [v0, cond_true, cond_false]) ?_)) (fun w' hw' => by first | exact hw' | (simp only [v0, cond_true, cond_false]; exact hw'))
        · cases ho
          have v1 : Eng.upd e 1 1 = true := upd_eq
          simp only [hei, cond_true, cond_false]
          apply omv; rfl; rfl
          apply OL.nil
          exact At.beside x (by repeat (first | exact Sub.nil | apply Sub.cons rfl | refine Sub.cons_eq rfl (by simp only [v1, cond_true, cond_false]) ?_)) (fun w' hw' => by first | exact hw' | (simp only [v1, cond_true, cond_false]; exact hw'))
        · cases ho
          have h1 : e 1 = true := hd ⟨1, .data⟩ (by simp) rfl
          have v2 : Eng.upd e 2 2 = true := upd_eq
          have v1 : Eng.upd e 2 1 = true := upd_mono h1
          simp only [hei, h1, cond_true, cond_false]
          apply oop; rfl; apply Pev.nil_ptr; rfl; exact yes
          apply OL.nil
          exact At.beside x (by repeat (first | exact Sub.nil | apply Sub.cons rfl | refine Sub.cons_eq rfl (by simp only [v2, v1, cond_true, cond_false]) ?_)) (fun w' hw' => by first | exact hw' | (simp only [v2, v1, cond_true, cond_false]; exact hw'))
        · cases ho
          have h2 : e 2 = true := hd ⟨2, .data⟩ (by simp) rfl
          have v3 : Eng.upd e 3 3 = true := upd_eq
          have v2 : Eng.upd e 3 2 = true := upd_mono h2
          simp only [hei, h2, cond_true, cond_false]
          apply ofa; rfl; rfl; rfl
          apply OL.nil
          exact At.beside x (by repeat (first | exact Sub.nil | apply Sub.cons rfl | refine Sub.cons_eq rfl (by simp only [v3, v2, cond_true, cond_false]) ?_)) (fun w' hw' => by first | exact hw' | (simp only [v3, v2, cond_true, cond_false]; exact hw'))
        · cases ho
          have h3 : e 3 = true := hd ⟨3, .data⟩ (by simp) rfl
          have h13 : e 13 = false := hcl.not (i := 4) (j := 13) rfl hei (by kernel_rfl)
          have v4 : Eng.upd e 4 4 = true := upd_eq
          have v3 : Eng.upd e 4 3 = true := upd_mono h3
          have v13 : Eng.upd e 4 13 = false := h13
          simp only [hei, h3, h13, cond_true, cond_false]
          apply old; rfl; rfl; exact .tail _ (.tail _ (.head _)); rfl; rfl
          apply OL.nil
          exact At.beside x (by repeat (first | exact Sub.nil | apply Sub.cons rfl | refine Sub.cons_eq rfl (by simp only [v4, v3, v13, cond_true, cond_false]) ?_)) (fun w' hw' => by first | exact hw' | (simp only [v4, v3, v13, cond_true, cond_false]; exact hw'))
        · cases ho
          have v5 : Eng.upd e 5 5 = true := upd_eq
          simp only [hei, cond_true, cond_false]
          apply omv; rfl; rfl
          apply OL.nil
          exact At.beside x (by repeat (first | exact Sub.nil | apply Sub.cons rfl | refine Sub.cons_eq rfl (by simp only [v5, cond_true, cond_false]) ?_)) (fun w' hw' => by first | exact hw' | (simp only [v5, cond_true, cond_false]; exact hw'))
        · cases ho
          have v6 : Eng.upd e 6 6 = true := upd_eq
          simp only [hei, cond_true, cond_false]
          apply omv; rfl; rfl
          apply OL.nil
          exact At.beside x (by repeat (first | exact Sub.nil | apply Sub.cons rfl | refine Sub.cons_eq rfl (by simp only [v6, cond_true, cond_false]) ?_)) (fun w' hw' => by first | exact hw' | (simp only [v6, cond_true, cond_false]; exact hw'))
        · cases ho
          have h5 : e 5 = true := hd ⟨5, .data⟩ (by simp) rfl
          have h6 : e 6 = true := hd ⟨6, .data⟩ (by simp) rfl
          have v7 : Eng.upd e 7 7 = true := upd_eq
          have v5 : Eng.upd e 7 5 = true := upd_mono h5
          have v6 : Eng.upd e 7 6 = true := upd_mono h6
          simp only [hei, h5, h6, cond_true, cond_false]
          apply oop; rfl; apply Pev.idxB; rfl; exact yes; rfl; exact yes; rfl; intro hcond; omega; rfl
          apply OL.nil
          exact At.beside x (by repeat (first | exact Sub.nil | apply Sub.cons rfl | refine Sub.cons_eq rfl (by simp only [v7, v5, v6, cond_true, cond_false]) ?_)) (fun w' hw' => by first | exact hw' | (simp only [v7, v5, v6, cond_true, cond_false]; exact hw'))
        · cases ho
          have h7 : e 7 = true := hd ⟨7, .data⟩ (by simp) rfl
          have v8 : Eng.upd e 8 8 = true := upd_eq
          have v7 : Eng.upd e 8 7 = true := upd_mono h7
          simp only [hei, h7, cond_true, cond_false]
          apply oop; rfl; apply Pev.load_blk; rfl; exact yes; exact .head _; rfl; assumption
          apply OL.nil
          exact At.beside x (by repeat (first | exact Sub.nil | apply Sub.cons rfl | refine Sub.cons_eq rfl (by simp only [v8, v7, cond_true, cond_false]) ?_)) (fun w' hw' => by first | exact hw' | (simp only [v8, v7, cond_true, cond_false]; exact hw'))
        · cases ho
          have h8 : e 8 = true := hd ⟨8, .data⟩ (by simp) rfl
          have v9 : Eng.upd e 9 9 = true := upd_eq
          have v8 : Eng.upd e 9 8 = true := upd_mono h8
          simp only [hei, h8, cond_true, cond_false]
          apply OL.buildSlice; rfl; rfl; rfl; exact Elems.au; rfl; rfl; (intro bk hbk; simp only [AllLe, and_true] at hbk)
          apply OL.nil
          exact At.beside { x with b1 := bk, hb1 := hbk.1 } (by repeat (first | exact Sub.nil | apply Sub.cons rfl | refine Sub.cons_eq rfl (by simp only [v9, v8, cond_true, cond_false]) ?_)) (fun w' hw' => by simp only [v9, v8, cond_true, cond_false]; exact Cls.fill (p := 4) (H := _ :: _ :: _ :: _ :: _ :: []) (.s (.s (.s (.s .z)))) hw')
        · cases ho
          have h4 : e 4 = true := hd ⟨4, .data⟩ (by simp) rfl
          have h9 : e 9 = true := hd ⟨9, .data⟩ (by simp) rfl
          have h13 : e 13 = false := hcl.not (i := 10) (j := 13) rfl hei (by kernel_rfl)
          have v10 : Eng.upd e 10 10 = true := upd_eq
          have v4 : Eng.upd e 10 4 = true := upd_mono h4
          have v9 : Eng.upd e 10 9 = true := upd_mono h9
          have v13 : Eng.upd e 10 13 = false := h13
          simp only [hei, h4, h9, h13, cond_true, cond_false]
          apply OL.append
          rfl
          rfl
          rfl
          rfl
          (repeat (first | apply Hole.z | apply Hole.s))
          (repeat (first | exact List.Mem.head _ | apply List.Mem.tail))
          (repeat (first | apply Take.zero | apply Take.succ))
          rfl
          rfl
          exact ⟨wk, .head _, Nat.le_refl _⟩
          omega
          intro O1 g1 cap1
          apply OL.nil
          exact At.beside { x with g1 := g1, c1 := cap1, O1 := O1 } (by repeat (first | exact Sub.nil | apply Sub.cons rfl | refine Sub.cons_eq rfl (by simp only [v10, v4, v9, v13, cond_true, cond_false]) ?_)) (fun w' hw' => by first | exact hw' | (simp only [v10, v4, v9, v13, cond_true, cond_false]; exact hw'))
        · cases ho
          have h0 : e 0 = true := hd ⟨0, .data⟩ (by simp) rfl
          have v11 : Eng.upd e 11 11 = true := upd_eq
          have v0 : Eng.upd e 11 0 = true := upd_mono h0
          simp only [hei, h0, cond_true, cond_false]
          apply oop; rfl; apply Pev.nil_ptr; rfl; exact yes
          apply OL.nil
          exact At.beside x (by repeat (first | exact Sub.nil | apply Sub.cons rfl | refine Sub.cons_eq rfl (by simp only [v11, v0, cond_true, cond_false]) ?_)) (fun w' hw' => by first | exact hw' | (simp only [v11, v0, cond_true, cond_false]; exact hw'))
        · cases ho
          have h11 : e 11 = true := hd ⟨11, .data⟩ (by simp) rfl
          have v12 : Eng.upd e 12 12 = true := upd_eq
          have v11 : Eng.upd e 12 11 = true := upd_mono h11
          simp only [hei, h11, cond_true, cond_false]
          apply ofa; rfl; rfl; rfl
          apply OL.nil
          exact At.beside x (by repeat (first | exact Sub.nil | apply Sub.cons rfl | refine Sub.cons_eq rfl (by simp only [v12, v11, cond_true, cond_false]) ?_)) (fun w' hw' => by first | exact hw' | (simp only [v12, v11, cond_true, cond_false]; exact hw'))
        · cases ho
          have h10 : e 10 = true := hd ⟨10, .data⟩ (by simp) rfl
          have h12 : e 12 = true := hd ⟨12, .data⟩ (by simp) rfl
          have v13 : Eng.upd e 13 13 = true := upd_eq
          have v10 : Eng.upd e 13 10 = true := upd_mono h10
          have v12 : Eng.upd e 13 12 = true := upd_mono h12
          simp only [hei, h10, h12, cond_true, cond_false]
          apply OL.storeB; rfl; rfl; exact CellsL.one rfl; rfl; rfl; rfl; exact Swap.au; exact Put.au
          apply OL.nil
          exact At.beside x (by repeat (first | exact Sub.nil | apply Sub.cons rfl | refine Sub.cons_eq rfl (by simp only [v13, v10, v12, cond_true, cond_false]) ?_)) (fun w' hw' => by first | exact hw' | (simp only [v13, v10, v12, cond_true, cond_false]; exact hw'))
      · intro x e2 hall
        have hx1 := x.hb1
        simp only [hall 0 (by decide), hall 1 (by decide), hall 2 (by decide), hall 3 (by decide), hall 4 (by decide), hall 5 (by decide), hall 6 (by decide), hall 7 (by decide), hall 8 (by decide), hall 9 (by decide), hall 10 (by decide), hall 11 (by decide), hall 12 (by decide), hall 13 (by decide), cond_true]
        have hsn : ptrs (kp tb (p.1.kids.take j)) ++ [.pointer (some ⟨tb kn, 0, none⟩)] = ptrs (kp tb (p.1.kids.take (j + 1))) := by
          rw [List.take_add_one, hk]
          simp [ptrs, kp]
        rw [hsn]
        with_reducible apply At.in_normal
        with_reducible apply At.next
        apply W.reg
        apply obn; rfl; rfl; rfl; apply Bin.add_in; omega
        apply omv; rfl; rfl
        apply OL.nil
        exact At.again (j + 1, ⟨x.O1, some ⟨x.g1, 0, none⟩, x.c1⟩) (by simp only; omega) (by simp only; omega) (by exact Sub.au) (fun w' hw' => hw'.thin (.keep (.keep (.keep (.keep (.blk ⟨hx1, by omega, trivial⟩ Thin.nil))))))
    obtain rfl : j = p.1.kids.length := by omega
    rw [List.take_length]
    refine W.xt ?_
    with_reducible apply At.next
    apply W.reg
    apply omv; rfl; rfl
    apply omv; rfl; rfl
    apply omv; rfl; rfl
    apply oop; rfl; apply Pev.idxB; rfl; exact yes; rfl; exact yes; rfl; intro hcond; omega; rfl
    (apply OL.storeI); rfl; rfl; rfl; rfl; rfl; (exact Swap.au); (rw [nds_length]; omega)
    have hset : (nds tb i es.length).set (0 + (i : Int).toNat * 1) (.pointer (some ⟨bt, 0, none⟩)) = nds (fun k => if k = i then bt else tb k) (i + 1) es.length := by
      rw [show 0 + (i : Int).toNat * 1 = i by simp, nds_set hil]
    rw [hset]
    apply OL.nil
    with_reducible apply At.in_normal
    with_reducible apply At.next
    apply W.reg
    apply obn; rfl; rfl; rfl; apply Bin.add_in; omega
    apply omv; rfl; rfl
    apply OL.nil
    refine At.againE (fun w' hw' => ⟨(i + 1, w', fun k => if k = i then bt else tb k), ⟨by simp only; omega, Nat.le_trans hwk (hw'.kp wk (.head _)).size, Nat.lt_of_lt_of_le hbnk (hw'.kp wk (.head _)).size, ?_⟩, by simp only; omega, (by exact Sub.au), ?_⟩)
    · intro k hk
      simp only at hk ⊢
      have hsz := (hw'.kp wk (.head _)).size
      have hold : ∀ m, m < i → TrO w' (fun b => b < w'.heap.size ∧ b ≠ bn) (grow e m) (tb m) := fun m hm =>
        TrO.mono (fun b hb => ⟨Nat.lt_of_lt_of_le hb.1 hsz, hb.2⟩) (TrO.stab (fun b hb => (hw'.kp wk (.head _)).block b hb.1 (NotOwned.not (by have h1 := hb.1; have h2 := hb.2; exact NotOwned.au))) (htr m hm))
      have hlow : ∀ k, low w k → w'.heap[k]? = w.heap[k]? := hw'.same (.tail _ (.head _)) (fun k hk => by have hk2 : k < w.heap.size := hk; exact NotOwned.au)
      have hlow2 : ∀ k, low w k → k < w'.heap.size ∧ k ≠ bn := fun k hk => ⟨hw'.up (.tail _ (.head _)) k hk, by have hk2 : k < w.heap.size := hk; omega⟩
      by_cases hki : k = i
      · subst hki
        rw [if_pos rfl, grow_eq hd hpe]
        have hbt2 := hw'.item (i := blk bt 91 [.int .i64 p.1.op, .int .i64 p.1.n, .slice p.2.b.1 p.1.binds.length p.2.b.2, .slice qk p.1.kids.length ck, .slice p.2.a.1 p.1.alts.length p.2.a.2]) (by exact mau)
        have hbt3 := hw'.lt (blk bt 91 [.int .i64 p.1.op, .int .i64 p.1.n, .slice p.2.b.1 p.1.binds.length p.2.b.2, .slice qk p.1.kids.length ck, .slice p.2.a.1 p.1.alts.length p.2.a.2]) (by exact mau) bt rfl
        have hrk := hw'.item (i := row wk.heap.size Ok qk p.1.kids.length ck 69 1 (ptrs (kp tb p.1.kids))) (by exact mau)
        have hrk3 := hw'.lt (row wk.heap.size Ok qk p.1.kids.length ck 69 1 (ptrs (kp tb p.1.kids))) (by exact mau)
        simp only [TrO]
        refine ⟨⟨p.2.b, (qk, ck), p.2.a⟩, ⟨⟨hbt3, by omega⟩, fun j v hj => ?_, hL.b, hL.a, hL.ab, (hok.b.stab hlow).mono hlow2, (hok.a.stab hlow).mono hlow2⟩, by rw [List.length_map]; exact hkl1, fun hl => ?_⟩
        · rw [add_mid, blk_cell hbt2, Nat.zero_add]
          rw [List.length_map] at hj
          exact hj
        · rw [List.length_map] at hl
          obtain ⟨a, h1, h2, h3⟩ := row_at hrk (by simpa [ptrs, kp] using hl)
          refine ⟨a, h1, ⟨hrk3 _ h2, by omega⟩, TrsO.of (bs := kp tb p.1.kids) (by simp [kp]) h3 (fun m t b h4 h5 => ?_)⟩
          simp only [kp, List.getElem?_map] at h4 h5
          cases hkm : p.1.kids[m]? with
          | none => rw [hkm] at h4; cases h4
          | some kv =>
            simp only [hkm, Option.map_some, Option.some.injEq] at h4 h5
            subst h4 h5
            have hkr := hdn kv (List.mem_of_getElem? hkm)
            exact hold kv.toNat (by omega)
      · rw [if_neg hki]
        exact hold k (by omega)
    · simp only
      have hany : ∀ (j : Eng.Item), (∀ k, j.own k → wk.heap.size ≤ k) → ∀ k, j.own k → AllLe [wk, w] k := fun j hj k hk => ⟨hj k hk, Nat.le_trans hwk (hj k hk), trivial⟩
      exact ((hw'.thin (.keep (.blk ⟨by omega, by omega, trivial⟩ (.blk ⟨by omega, by omega, trivial⟩ (.any (hany _ fun k hk => hk.1) Thin.nil))))).note).forget (fun s hs => by simp at hs ⊢; rcases hs with rfl | rfl <;> simp)
  · obtain rfl : i = n + 1 := by omega
    have hlast : (nds tb (n + 1) es.length)[0 + (n : Int).toNat * 1]? = some (.pointer (some ⟨tb n, 0, none⟩)) := by
      rw [show 0 + (n : Int).toNat * 1 = n by omega]
      exact nds_get (by omega) (by omega)
    refine W.xt ?_
    with_reducible apply At.next
    apply W.sr
    apply omv; rfl; rfl
    apply omv; rfl; rfl
    apply oop; rfl; apply Pev.idxB; rfl; exact yes; rfl; exact yes; rfl; intro hcond; omega; rfl
    apply oop; rfl; apply Pev.load_blk; rfl; exact yes; exact .head _; rfl; assumption
    apply oas; rfl; rfl
    apply OL.nx
    apply W.ret
    ((with_reducible apply At.fin1); rfl; rfl; intro w' hw')
    have hsz := (hw'.kp wk (.head _)).size
    exact ⟨tb n, rfl, by (exact hw'.fr), TrO.mono (fun b hb => Nat.lt_of_lt_of_le hb.1 hsz) (TrO.stab (fun b hb => (hw'.kp wk (.head _)).block b hb.1 (NotOwned.not (by have h1 := hb.1; have h2 := hb.2; exact NotOwned.au))) (htr _ (by omega)))⟩
end Go.Proofs.YtlboppiogeaicaaDoor.co

/- The walks of core's Size and of the reference's Below and Count. Conditions: none. -/
namespace Go.Co
open Go.Eng Go.RowKit
set_option linter.unusedVariables false
set_option linter.unusedSimpArgs false
noncomputable def atE (e : List Ex) (n : Int) : Int := if bodyE e [] false = 0 then (if 0 ≤ n ∧ n < (e.length : Int) then 0 else 12) else bodyE e [] false
def bls (l : List Bool) : List Value := l.map fun b => .bool b
theorem bls_length (l : List Bool) : (bls l).length = l.length := by simp [bls]
theorem bls_get {l : List Bool} {i : Nat} {b : Bool} (h : l[i]? = some b) : (bls l)[i]? = some (.bool b) := by simp [bls, h]
theorem bls_set (l : List Bool) (i : Nat) (b : Bool) : (bls l).set i (.bool b) = bls (l.set i b) := by simp [bls]
theorem bls_zero (n : Nat) : List.replicate n (Value.bool false) = bls (List.replicate n false) := by simp [bls]
/-- a slice of truth values -/
def BlsO (w : World) (O : Nat → Prop) (l : List Bool) (q : Option Addr) : Prop := 0 < l.length → ∃ a, q = some a ∧ O a.block ∧ CellsAt w a (bls l)
theorem BlsO.stab {w w' : World} {O : Nat → Prop} {l : List Bool} {q : Option Addr} (hk : ∀ k, O k → w'.heap[k]? = w.heap[k]?) (h : BlsO w O l q) : BlsO w' O l q := fun hl => by
  obtain ⟨a, h1, h2, h3⟩ := h hl
  exact ⟨a, h1, h2, cells_stab (hk _ h2) h3⟩
theorem BlsO.mono {w : World} {O O' : Nat → Prop} {l : List Bool} {q : Option Addr} (hk : ∀ k, O k → O' k) (h : BlsO w O l q) : BlsO w O' l q := fun hl => by
  obtain ⟨a, h1, h2, h3⟩ := h hl
  exact ⟨a, h1, hk _ h2, h3⟩
theorem BlsO.get {w : World} {O : Nat → Prop} {l : List Bool} {q : Option Addr} (h : BlsO w O l q) {i : Nat} (hi : i < l.length) : ∃ a u, q = some a ∧ O a.block ∧ l[i]? = some u ∧ w.cell? (a.add (i * 1)) = some (.bool u) := by
  obtain ⟨a, h1, h2, h3⟩ := h (by omega)
  have hu : l[i]? = some l[i] := List.getElem?_eq_getElem hi
  exact ⟨a, l[i], h1, h2, hu, by rw [Nat.mul_one]; exact h3 i _ (bls_get hu)⟩
theorem BlsO.at {w w' : World} {l : List Bool} {q : Option Addr} {H : List Eng.Item} {S : List World} (h : BlsO w (low w) l q) (hw : Cls H S w') (hs : w ∈ S) (hno : ∀ k, k < w.heap.size → NotOwned H k) : BlsO w' (low w') l q :=
  BlsO.mono (hw.up hs) (BlsO.stab (hw.same hs hno) h)
theorem count_take {l : List Bool} {i : Nat} {b : Bool} (h : l[i]? = some b) : (l.take (i + 1)).count true = (l.take i).count true + (if b then 1 else 0) := by
  rw [List.take_add_one, h]
  cases b <;> simp
end Go.Co
namespace Go.Proofs.YtlboppiogeaicaaDoor.co
open Go.RowKit Go.Eng Go.Co
set_option linter.unusedVariables false
set_option linter.unusedSimpArgs false
set_option maxRecDepth 100000
theorem Size_calls (es : List (Ex × ExY)) (q : Option Addr) (cap : Nat) (n : Int) (w : World) (he : Arr exR w (low w) es q) (hlen : es.length ≤ 9223372036854775807) (hcap : es.length ≤ cap) (hg : 1 < w.heap.size) (hs : arityAt w) :
    Calls Tryd.prog 13 [.slice q es.length cap, .int .i64 n].toArray w fun e w' => ∃ c : Int, e = .returned (.tuple #[.int .i64 c, .int .i64 (atE (es.map Prod.fst) n)]) ∧ Ext w w' ∧ (atE (es.map Prod.fst) n ≠ 0 → c = 0) ∧ (atE (es.map Prod.fst) n = 0 → c = (tsz (grow (es.map Prod.fst) n.toNat) : Int)) := by
  obtain ⟨e, hee⟩ : ∃ e, es.map Prod.fst = e := ⟨_, rfl⟩
  have hel : e.length = es.length := by rw [← hee, List.length_map]
  rw [hee]
  refine enter Tryd.func13 rfl Tryd.ntmps13 rfl (Cls.start w) ?_
  (simp only [argEnv, Nat.zero_add, Nat.reduceAdd])
  apply W.sr
  apply oas; rfl; rfl
  apply oas; rfl; rfl
  apply OL.nx
  apply W.seq
  apply W.sr
  apply omv; rfl; rfl
  apply omv; rfl; rfl
  (((first | (with_reducible apply OL.op) | (with_reducible apply QL.op)); (exact Guard.au); rfl; rfl); (exact Pev.call (v := .int .i64 (atE e n)) rfl (by exact Args.au) (fun _ w2 hw2 => (at_calls es q cap n w2 (he.at hw2 (by exact mau) (fun k hk => by exact NotOwned.au)) hlen (Nat.lt_of_lt_of_le hg (hw2.kp w (by exact mau)).size) (hs.at hg hw2 (by exact mau) (fun k hk => by exact NotOwned.au))).mono (fun e1 w3 h => ⟨by rw [h.1, hee, ← hel]; rfl, hw2.ext h.2⟩))))
  apply oas; rfl; rfl
  apply OL.nsr
  apply omv; rfl; rfl
  apply obn; rfl; rfl; rfl; apply Bin.neq
  apply OL.nx
  (refine W.cnd (fun hne => ?_) (fun hne => ?_)) <;> (try (exfalso; first | omega | exact hne trivial | contradiction))
  · apply W.sr
    apply omv; rfl; rfl
    apply oas; rfl; rfl
    apply oas; rfl; rfl
    apply OL.nx
    refine W.rt ?_
    ((with_reducible apply At.fin2); rfl; rfl; rfl; intro w' hw')
    exact ⟨0, rfl, by (exact hw'.fr), fun _ => rfl, fun h => absurd h (by simpa using hne)⟩
  have h0 : atE e n = 0 := by simpa using hne
  have hb0 : bodyE e [] false = 0 := by
    unfold atE at h0
    split at h0
    · assumption
    · exact h0
  have hn : 0 ≤ n ∧ n < (e.length : Int) := by
    unfold atE at h0
    rw [if_pos hb0] at h0
    split at h0
    · assumption
    · cases h0
  obtain ⟨m, rfl⟩ : ∃ m : Nat, n = (m : Int) := ⟨n.toNat, by omega⟩
  have hok := BodyOk.of hb0
  have hm : m < e.length := by omega
  have hl4 := hok.tree.len
  have hts := tsz_le hok.tree.tree hm
  have hin : ∀ p ∈ es, p.1 ∈ e := fun p hp => by rw [← hee]; exact List.mem_map_of_mem hp
  rw [h0]
  apply W.sk
  apply W.sr
  apply omv; rfl; rfl
  apply omv; rfl; rfl
  refine OL.callE (α := Nat × World) (fun z => .pointer (some ⟨z.1, 0, none⟩)) (fun z => TrO z.2 (low z.2) (grow e m) z.1 ∧ w.heap.size ≤ z.2.heap.size) (fun z => Cls [] [z.2, w]) rfl rfl (by exact Args.au) (fun w2 hw2 => (below_calls es q cap m w2 (he.at hw2 (by exact mau) (fun k hk => by exact NotOwned.au)) (by omega) hcap (by omega) (by rw [hee]; exact hok.tree.tree.down) (fun p hp => hok.lim (hin p hp)) (fun p hp => hok.kl (hin p hp))).mono (fun e1 w3 ⟨b, h1, h2, h3⟩ => ⟨(b, w3), h1, ⟨by rw [hee] at h3; exact h3, Nat.le_trans (hw2.kp w (by exact mau)).size h2.size⟩, (hw2.ext h2).note⟩)) ?_
  rintro ⟨bt, w3⟩ ⟨htr, hsz3⟩
  simp only at htr hsz3 ⊢
  (((first | (with_reducible apply OL.op) | (with_reducible apply QL.op)); (exact Guard.au); rfl; rfl); (exact Pev.call rfl (by exact Args.au) (fun _ w2 hw2 => (Count_calls (tsz (grow e m)) (grow e m) bt w2 (Nat.le_refl _) (by omega) (htr.at hw2 (by exact mau) (fun k hk => NotOwned.nil))).mono (fun e w3 h => ⟨h.1, hw2.ext h.2⟩))))
  apply oas; rfl; rfl
  apply oas; rfl; rfl
  apply OL.nx
  apply W.ret
  ((with_reducible apply At.fin2); rfl; rfl; rfl; intro w' hw')
  exact ⟨_, rfl, by (exact hw'.fr), fun h => absurd rfl h, fun _ => by rw [Int.toNat_natCast]⟩
end Go.Proofs.YtlboppiogeaicaaDoor.co
