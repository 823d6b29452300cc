/- Readings with the reach, as relations. General. No condition. Readings of core expressions. No condition. -/
import Derived.Test.YtlboppiogeaicaaDoorRd
import Derived.Test.YtlboppiogeaicaaDoorRel
import Derived.Test.YtlboppiogeaicaaDoorProg
import Derived.Test.YtlboppiogeaicaaDoorCoR
import Derived.Test.YtlboppiogeaicaaDoorLift
namespace Go.Eng
open Go.RowKit Go.ChangeShapes Go.WideShapes Go.ChangeAt
set_option linter.unusedVariables false
set_option linter.unusedSimpArgs false
section
variable {H : Type} {enc : TypeId × Value → H} {P : Program} {w : World} {spare : Nat → Bool} {held : Bool} {α μ : Type} {R : Rel α μ}
theorem rd_arrL {t e : TypeId} {fuel : Nat} {cs : List Value} {x : DataW H × List MemPlace} (ht : P.underlying t = some (.slice e)) (hs : P.cellsOf e = R.sz)
    (he : ∀ (n : Nat) (cs' : List Value) (y : DataW H × List MemPlace), n < fuel → DataW.trod enc P w 0 spare held n e cs' = some y → Lt P e y.1 → ∃ u : α × μ, cs' = R.c u ∧ R.ok w (low w) u.1 u.2)
    (h : DataW.trod enc P w 0 spare held fuel t cs = some x) (hw : Lt P t x.1) :
    ∃ (q : Option Addr) (l : List (α × μ)) (cap : Nat), cs = [.slice q l.length cap] ∧ l.length ≤ cap ∧ cap ≤ maxLen ∧ l.length * P.bytesOf e ≤ reachBytes ∧ Arr R w (low w) l q := by
  obtain ⟨q, l, cap, e1, h1, h2, h3, h4, h5⟩ := rd_slice (α := α × μ) (f := R.c) (R := fun u => R.ok w (low w) u.1 u.2) ht hs R.pos R.clen he h hw
  exact ⟨q, l, cap, e1, h1, h2, h3, fun hl => h4 (by rw [cat_length (f := R.c) R.clen]; exact Nat.mul_pos hl R.pos), h5⟩
end
end Go.Eng
namespace Go.Proofs.YtlboppiogeaicaaDoor.co
open Go.RowKit Go.Eng Go.Co Go.ChangeShapes Go.WideShapes Go.ChangeAt
set_option linter.unusedVariables false
set_option linter.unusedSimpArgs false
set_option maxRecDepth 100000
section
variable {H : Type} {enc : TypeId × Value → H} {w : World} {spare : Nat → Bool} {held : Bool}
theorem list2 {α : Type} {l : List α} (h : l.length = 2) : ∃ a b, l = [a, b] := by
  match l, h with
  | [a, b], _ => exact ⟨a, b, rfl⟩
theorem list5 {α : Type} {l : List α} (h : l.length = 5) : ∃ a b c d e, l = [a, b, c, d, e] := by
  match l, h with
  | [a, b, c, d, e], _ => exact ⟨a, b, c, d, e, rfl⟩
theorem reach47 : reachBytes ≤ 140737488355328 := by decide
theorem cat_ints (l : List Int) : cat (fun x : Int => [Value.int .i64 x]) l = ints l := by
  induction l with
  | nil => rfl
  | cons x r ih =>
    show [Value.int .i64 x] ++ cat (fun x : Int => [Value.int .i64 x]) r = _
    rw [ih]
    rfl
theorem ints_rd {fuel : Nat} {cs : List Value} {x : DataW H × List MemPlace} (h : DataW.trod enc Tryd.prog w 0 spare held fuel 25 cs = some x) (hw : Lt Tryd.prog 25 x.1) :
    ∃ (q : Option Addr) (l : List Int) (cap : Nat), cs = [.slice q l.length cap] ∧ l.length ≤ cap ∧ l.length ≤ 140737488355328 ∧ IntsO w (low w) l q ∧ ∀ n ∈ l, I64 n := by
  obtain ⟨q, l, cap, e1, h1, h2, h3, h4, h5⟩ := rd_slice (α := Int) (f := fun x => [Value.int .i64 x]) (R := fun n => I64 n) Tryd.underlying25 (by kernel_rfl) (by decide) (fun _ => rfl) (fun n cs' y _ hy _ => by
    obtain ⟨k, e1, hk⟩ := DataW.trod_int Tryd.underlying3 hy
    exact ⟨k, e1, wf_i64 hk.2⟩) h hw
  rw [cat_ints] at h4
  have hb : Tryd.prog.bytesOf 3 = 8 := by kernel_rfl
  rw [hb] at h3
  have := reach47
  exact ⟨q, l, cap, e1, h1, by omega, fun hl => h4 (by rw [ints_length]; exact hl), h5⟩
theorem alt_rd {fuel : Nat} {cs : List Value} {x : DataW H × List MemPlace} (h : DataW.trod enc Tryd.prog w 0 spare held fuel 132 cs = some x) (hw : Lt Tryd.prog 132 x.1) : ∃ u : Al × Sc, cs = altR_.c u ∧ altR_.ok w (low w) u.1 u.2 := by
  obtain ⟨hlen, n, hn, hf⟩ := rd_struct Tryd.underlying132 h hw
  rw [show Tryd.prog.cellsOf 132 = 2 by kernel_rfl] at hlen
  obtain ⟨a0, a1, rfl⟩ := list2 hlen
  obtain ⟨y0, g0, w0⟩ := hf 0 _ rfl
  obtain ⟨y1, g1, w1⟩ := hf 1 _ rfl
  change DataW.trod enc Tryd.prog w 0 spare held n 3 ((List.drop 0 [a0, a1]).take (Tryd.prog.cellsOf 3)) = some y0 at g0
  change DataW.trod enc Tryd.prog w 0 spare held n 25 ((List.drop 1 [a0, a1]).take (Tryd.prog.cellsOf 25)) = some y1 at g1
  rw [show Tryd.prog.cellsOf 3 = 1 by kernel_rfl] at g0
  rw [show Tryd.prog.cellsOf 25 = 1 by kernel_rfl] at g1
  obtain ⟨k, e0, hk⟩ := DataW.trod_int Tryd.underlying3 g0
  obtain ⟨q, l, cap, e1, h1, h2, h3, h4⟩ := ints_rd g1 w1
  simp at e0 e1
  exact ⟨(⟨k, l⟩, (q, cap)), by rw [e0, e1]; rfl, wf_i64 hk.2, ⟨h2, h1⟩, h3⟩
theorem expr_rd {fuel : Nat} {cs : List Value} {x : DataW H × List MemPlace} (h : DataW.trod enc Tryd.prog w 0 spare held fuel 28 cs = some x) (hw : Lt Tryd.prog 28 x.1) : ∃ u : Ex × ExY, cs = exR.c u ∧ exR.ok w (low w) u.1 u.2 := by
  obtain ⟨hlen, n, hn, hf⟩ := rd_struct Tryd.underlying28 h hw
  rw [show Tryd.prog.cellsOf 28 = 5 by kernel_rfl] at hlen
  obtain ⟨a0, a1, a2, a3, a4, rfl⟩ := list5 hlen
  obtain ⟨y0, g0, w0⟩ := hf 0 _ rfl
  obtain ⟨y1, g1, w1⟩ := hf 1 _ rfl
  obtain ⟨y2, g2, w2⟩ := hf 2 _ rfl
  obtain ⟨y3, g3, w3⟩ := hf 3 _ rfl
  obtain ⟨y4, g4, w4⟩ := hf 4 _ rfl
  change DataW.trod enc Tryd.prog w 0 spare held n 3 ((List.drop 0 [a0, a1, a2, a3, a4]).take (Tryd.prog.cellsOf 3)) = some y0 at g0
  change DataW.trod enc Tryd.prog w 0 spare held n 3 ((List.drop 1 [a0, a1, a2, a3, a4]).take (Tryd.prog.cellsOf 3)) = some y1 at g1
  change DataW.trod enc Tryd.prog w 0 spare held n 25 ((List.drop 2 [a0, a1, a2, a3, a4]).take (Tryd.prog.cellsOf 25)) = some y2 at g2
  change DataW.trod enc Tryd.prog w 0 spare held n 25 ((List.drop 3 [a0, a1, a2, a3, a4]).take (Tryd.prog.cellsOf 25)) = some y3 at g3
  change DataW.trod enc Tryd.prog w 0 spare held n 26 ((List.drop 4 [a0, a1, a2, a3, a4]).take (Tryd.prog.cellsOf 26)) = some y4 at g4
  rw [show Tryd.prog.cellsOf 3 = 1 by kernel_rfl] at g0 g1
  rw [show Tryd.prog.cellsOf 25 = 1 by kernel_rfl] at g2 g3
  rw [show Tryd.prog.cellsOf 26 = 1 by kernel_rfl] at g4
  obtain ⟨op, e0, hop⟩ := DataW.trod_int Tryd.underlying3 g0
  obtain ⟨nn, e1, hnn⟩ := DataW.trod_int Tryd.underlying3 g1
  obtain ⟨qb, lb, cb, e2, b1, b2, b3, b4⟩ := ints_rd g2 w2
  obtain ⟨qk, lk, ck, e3, k1, k2, k3, k4⟩ := ints_rd g3 w3
  obtain ⟨qa, la, ca, e4, a1, a2, a3, a4⟩ := rd_arrL (R := altR_) Tryd.underlying26 (by kernel_rfl) (fun n cs' y _ hy hwy => alt_rd hy hwy) g4 w4
  have hb : Tryd.prog.bytesOf 132 = 32 := by kernel_rfl
  rw [hb] at a3
  have := reach47
  simp at e0 e1 e2 e3 e4
  refine ⟨(⟨op, nn, lb, lk, la.map Prod.fst⟩, ⟨(qb, cb), (qk, ck), (qa, ca)⟩), by rw [e0, e1, e2, e3, e4]; simp [Rel.c, exR, exC], ?_⟩
  exact ⟨wf_i64 hop.2, wf_i64 hnn.2, b2, k2, by simp only [List.length_map]; omega, b1, k1, by simp only [List.length_map]; exact a1, b3, k3, ⟨la, rfl, a4⟩⟩
theorem exprs_rd {fuel : Nat} {cs : List Value} {x : DataW H × List MemPlace} (h : DataW.trod enc Tryd.prog w 0 spare held fuel 22 cs = some x) (hw : Lt Tryd.prog 22 x.1) :
    ∃ (q : Option Addr) (l : List (Ex × ExY)) (cap : Nat), cs = [.slice q l.length cap] ∧ l.length ≤ 9223372036854775807 ∧ Arr exR w (low w) l q := by
  obtain ⟨q, l, cap, e1, h1, h2, h3, h4⟩ := rd_arrL (R := exR) Tryd.underlying22 (by kernel_rfl) (fun n cs' y _ hy hwy => expr_rd hy hwy) h hw
  unfold maxLen at h2
  exact ⟨q, l, cap, e1, by omega, h4⟩
end
end Go.Proofs.YtlboppiogeaicaaDoor.co
