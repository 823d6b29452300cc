/- Texts of the proof of LiveRanges, part 6: rules of a calculus for walking, plain laws, and walks of the functions that the law reaches. No condition. -/
import Derived.Test.YtehelljmaiophaaProg
import Derived.Test.YtehelljmaiophaaLiveRanges5
/- Readings with the reach, as relations. General. No condition. Readings of functions in single assignment form. No condition. (Printed by ssw.py.) -/
namespace Go.Eng
open Go.RowKit Go.ChangeShapes Go.WideShapes Go.ChangeAt
set_option linter.unusedVariables false
set_option linter.unusedSimpArgs false
section
variable {H : Type} {enc : TypeId × Value → H} {P : Program} {w : World} {spare : Nat → Bool} {held : Bool} {α μ : Type} {R : Rel α μ}
theorem rd_arrL {t e : TypeId} {fuel : Nat} {cs : List Value} {x : DataW H × List MemPlace} (ht : P.underlying t = some (.slice e)) (hs : P.cellsOf e = R.sz)
    (he : ∀ (n : Nat) (cs' : List Value) (y : DataW H × List MemPlace), n < fuel → DataW.trod enc P w 0 spare held n e cs' = some y → Lt P e y.1 → ∃ u : α × μ, cs' = R.c u ∧ R.ok w (low w) u.1 u.2)
    (h : DataW.trod enc P w 0 spare held fuel t cs = some x) (hw : Lt P t x.1) :
    ∃ (q : Option Addr) (l : List (α × μ)) (cap : Nat), cs = [.slice q l.length cap] ∧ l.length ≤ cap ∧ cap ≤ maxLen ∧ l.length * P.bytesOf e ≤ reachBytes ∧ Arr R w (low w) l q := by
  obtain ⟨q, l, cap, e1, h1, h2, h3, h4, h5⟩ := rd_slice (α := α × μ) (f := R.c) (R := fun u => R.ok w (low w) u.1 u.2) ht hs R.pos R.clen he h hw
  exact ⟨q, l, cap, e1, h1, h2, h3, fun hl => h4 (by rw [cat_length (f := R.c) R.clen]; exact Nat.mul_pos hl R.pos), h5⟩
end
end Go.Eng
namespace Go.Proofs.Ytehelljmaiophaa.ss
open Go.RowKit Go.Eng Go.Ss Go.ChangeShapes Go.WideShapes Go.ChangeAt
set_option linter.unusedVariables false
set_option linter.unusedSimpArgs false
set_option maxRecDepth 100000
section
variable {H : Type} {enc : TypeId × Value → H} {w : World} {spare : Nat → Bool} {held : Bool}
theorem list2 {α : Type} {l : List α} (h : l.length = 2) : ∃ a0 a1, l = [a0, a1] := by
  match l, h with
  | [a0, a1], _ => exact ⟨a0, a1, rfl⟩
theorem list4 {α : Type} {l : List α} (h : l.length = 4) : ∃ a0 a1 a2 a3, l = [a0, a1, a2, a3] := by
  match l, h with
  | [a0, a1, a2, a3], _ => exact ⟨a0, a1, a2, a3, rfl⟩
theorem list5 {α : Type} {l : List α} (h : l.length = 5) : ∃ a0 a1 a2 a3 a4, l = [a0, a1, a2, a3, a4] := by
  match l, h with
  | [a0, a1, a2, a3, a4], _ => exact ⟨a0, a1, a2, a3, a4, rfl⟩
theorem list7 {α : Type} {l : List α} (h : l.length = 7) : ∃ a0 a1 a2 a3 a4 a5 a6, l = [a0, a1, a2, a3, a4, a5, a6] := by
  match l, h with
  | [a0, a1, a2, a3, a4, a5, a6], _ => exact ⟨a0, a1, a2, a3, a4, a5, a6, rfl⟩
theorem reach47 : reachBytes ≤ 140737488355328 := by decide
theorem cat_ints (l : List Int) : cat (fun x : Int => [Value.int .i64 x]) l = ints l := by
  induction l with
  | nil => rfl
  | cons x r ih =>
    show [Value.int .i64 x] ++ cat (fun x : Int => [Value.int .i64 x]) r = _
    rw [ih]
    rfl
theorem ints_rd {fuel : Nat} {cs : List Value} {x : DataW H × List MemPlace} (h : DataW.trod enc Try.prog w 0 spare held fuel 35 cs = some x) (hw : Lt Try.prog 35 x.1) :
    ∃ (q : Option Addr) (l : List Int) (cap : Nat), cs = [.slice q l.length cap] ∧ l.length ≤ cap ∧ l.length ≤ 140737488355328 ∧ IntsO w (low w) l q ∧ ∀ n ∈ l, I64 n := by
  obtain ⟨q, l, cap, e1, h1, h2, h3, h4, h5⟩ := rd_slice (α := Int) (f := fun x => [Value.int .i64 x]) (R := fun n => I64 n) Try.underlying35 (by kernel_rfl) (by decide) (fun _ => rfl) (fun n cs' y _ hy _ => by
    obtain ⟨k, e1, hk⟩ := DataW.trod_int Try.underlying3 hy
    exact ⟨k, e1, wf_i64 hk.2⟩) h hw
  rw [cat_ints] at h4
  have hb : Try.prog.bytesOf 3 = 8 := by kernel_rfl
  rw [hb] at h3
  have := reach47
  exact ⟨q, l, cap, e1, h1, by omega, fun hl => h4 (by rw [ints_length]; exact hl), h5⟩
theorem ed_rd {fuel : Nat} {cs : List Value} {x : DataW H × List MemPlace} (h : DataW.trod enc Try.prog w 0 spare held fuel 105 cs = some x) (hw : Lt Try.prog 105 x.1) : ∃ u : Ed × Sc, cs = edC u.1 u.2 ∧ edR.ok w (low w) u.1 u.2 := by
  obtain ⟨hlen, n, hn, hf⟩ := rd_struct Try.underlying105 h hw
  rw [show Try.prog.cellsOf 105 = 2 by kernel_rfl] at hlen
  obtain ⟨a0, a1, rfl⟩ := list2 hlen
  obtain ⟨y0, g0, w0⟩ := hf 0 _ rfl
  obtain ⟨y1, g1, w1⟩ := hf 1 _ rfl
  change DataW.trod enc Try.prog w 0 spare held n 3 ((List.drop 0 [a0, a1]).take (Try.prog.cellsOf 3)) = some y0 at g0
  change DataW.trod enc Try.prog w 0 spare held n 35 ((List.drop 1 [a0, a1]).take (Try.prog.cellsOf 35)) = some y1 at g1
  rw [show Try.prog.cellsOf 3 = 1 by kernel_rfl] at g0
  rw [show Try.prog.cellsOf 35 = 1 by kernel_rfl] at g1
  obtain ⟨i0, e0, j0⟩ := DataW.trod_int Try.underlying3 g0
  obtain ⟨q1, l1, c1, e1, b1, m1, n1, o1⟩ := ints_rd g1 w1
  have h47 := reach47
  simp [tmC] at e0 e1
  refine ⟨(⟨i0, l1⟩, (q1, c1)), ?_, ⟨wf_i64 j0.2, ⟨m1, b1⟩, n1, o1⟩⟩
  simp [edC, e0, e1]
theorem tm_rd {fuel : Nat} {cs : List Value} {x : DataW H × List MemPlace} (h : DataW.trod enc Try.prog w 0 spare held fuel 39 cs = some x) (hw : Lt Try.prog 39 x.1) : ∃ u : Tm × TmY, cs = tmC u.1 u.2 ∧ TmOk w (low w) u.1 u.2 := by
  obtain ⟨hlen, n, hn, hf⟩ := rd_struct Try.underlying39 h hw
  rw [show Try.prog.cellsOf 39 = 5 by kernel_rfl] at hlen
  obtain ⟨a0, a1, a2, a3, a4, rfl⟩ := list5 hlen
  obtain ⟨y0, g0, w0⟩ := hf 0 _ rfl
  obtain ⟨y1, g1, w1⟩ := hf 1 _ rfl
  obtain ⟨y2, g2, w2⟩ := hf 2 _ rfl
  obtain ⟨y3, g3, w3⟩ := hf 3 _ rfl
  obtain ⟨y4, g4, w4⟩ := hf 4 _ rfl
  change DataW.trod enc Try.prog w 0 spare held n 3 ((List.drop 0 [a0, a1, a2, a3, a4]).take (Try.prog.cellsOf 3)) = some y0 at g0
  change DataW.trod enc Try.prog w 0 spare held n 3 ((List.drop 1 [a0, a1, a2, a3, a4]).take (Try.prog.cellsOf 3)) = some y1 at g1
  change DataW.trod enc Try.prog w 0 spare held n 3 ((List.drop 2 [a0, a1, a2, a3, a4]).take (Try.prog.cellsOf 3)) = some y2 at g2
  change DataW.trod enc Try.prog w 0 spare held n 35 ((List.drop 3 [a0, a1, a2, a3, a4]).take (Try.prog.cellsOf 35)) = some y3 at g3
  change DataW.trod enc Try.prog w 0 spare held n 37 ((List.drop 4 [a0, a1, a2, a3, a4]).take (Try.prog.cellsOf 37)) = some y4 at g4
  rw [show Try.prog.cellsOf 3 = 1 by kernel_rfl] at g0 g1 g2
  rw [show Try.prog.cellsOf 35 = 1 by kernel_rfl] at g3
  rw [show Try.prog.cellsOf 37 = 1 by kernel_rfl] at g4
  obtain ⟨i0, e0, j0⟩ := DataW.trod_int Try.underlying3 g0
  obtain ⟨i1, e1, j1⟩ := DataW.trod_int Try.underlying3 g1
  obtain ⟨i2, e2, j2⟩ := DataW.trod_int Try.underlying3 g2
  obtain ⟨q3, l3, c3, e3, b3, m3, n3, o3⟩ := ints_rd g3 w3
  obtain ⟨q4, l4, c4, e4, b4, m4, n4, o4⟩ := rd_arrL (R := edR) Try.underlying37 (by kernel_rfl) (fun n cs' y _ hy hwy => ed_rd hy hwy) g4 w4
  rw [show Try.prog.bytesOf 105 = 32 by kernel_rfl] at n4
  have h47 := reach47
  simp [tmC] at e0 e1 e2 e3 e4
  refine ⟨(⟨i0, i1, i2, l3, l4.map Prod.fst⟩, ⟨(q3, c3), (q4, c4)⟩), ?_, ⟨wf_i64 j0.2, wf_i64 j1.2, wf_i64 j2.2, m3, by simp only [List.length_map]; omega, b3, by simp only [List.length_map]; exact b4, n3, o3, ⟨l4, rfl, o4⟩⟩⟩
  simp [tmC, e0, e1, e2, e3, e4]
theorem in_rd {fuel : Nat} {cs : List Value} {x : DataW H × List MemPlace} (h : DataW.trod enc Try.prog w 0 spare held fuel 85 cs = some x) (hw : Lt Try.prog 85 x.1) : ∃ u : In × Sc, cs = inC u.1 u.2 ∧ InOk w (low w) u.1 u.2 := by
  obtain ⟨hlen, n, hn, hf⟩ := rd_struct Try.underlying85 h hw
  rw [show Try.prog.cellsOf 85 = 4 by kernel_rfl] at hlen
  obtain ⟨a0, a1, a2, a3, rfl⟩ := list4 hlen
  obtain ⟨y0, g0, w0⟩ := hf 0 _ rfl
  obtain ⟨y1, g1, w1⟩ := hf 1 _ rfl
  obtain ⟨y2, g2, w2⟩ := hf 2 _ rfl
  obtain ⟨y3, g3, w3⟩ := hf 3 _ rfl
  change DataW.trod enc Try.prog w 0 spare held n 3 ((List.drop 0 [a0, a1, a2, a3]).take (Try.prog.cellsOf 3)) = some y0 at g0
  change DataW.trod enc Try.prog w 0 spare held n 3 ((List.drop 1 [a0, a1, a2, a3]).take (Try.prog.cellsOf 3)) = some y1 at g1
  change DataW.trod enc Try.prog w 0 spare held n 3 ((List.drop 2 [a0, a1, a2, a3]).take (Try.prog.cellsOf 3)) = some y2 at g2
  change DataW.trod enc Try.prog w 0 spare held n 35 ((List.drop 3 [a0, a1, a2, a3]).take (Try.prog.cellsOf 35)) = some y3 at g3
  rw [show Try.prog.cellsOf 3 = 1 by kernel_rfl] at g0 g1 g2
  rw [show Try.prog.cellsOf 35 = 1 by kernel_rfl] at g3
  obtain ⟨i0, e0, j0⟩ := DataW.trod_int Try.underlying3 g0
  obtain ⟨i1, e1, j1⟩ := DataW.trod_int Try.underlying3 g1
  obtain ⟨i2, e2, j2⟩ := DataW.trod_int Try.underlying3 g2
  obtain ⟨q3, l3, c3, e3, b3, m3, n3, o3⟩ := ints_rd g3 w3
  have h47 := reach47
  simp [tmC] at e0 e1 e2 e3
  refine ⟨(⟨i0, i1, i2, l3⟩, (q3, c3)), ?_, ⟨wf_i64 j0.2, wf_i64 j1.2, wf_i64 j2.2, m3, b3, n3, o3⟩⟩
  simp [inC, e0, e1, e2, e3]
theorem bk_rd {fuel : Nat} {cs : List Value} {x : DataW H × List MemPlace} (h : DataW.trod enc Try.prog w 0 spare held fuel 41 cs = some x) (hw : Lt Try.prog 41 x.1) : ∃ u : Bk × BkY, cs = bkC u.1 u.2 ∧ BkOk w (low w) u.1 u.2 := by
  obtain ⟨hlen, n, hn, hf⟩ := rd_struct Try.underlying41 h hw
  rw [show Try.prog.cellsOf 41 = 7 by kernel_rfl] at hlen
  obtain ⟨a0, a1, a2, a3, a4, a5, a6, rfl⟩ := list7 hlen
  obtain ⟨y0, g0, w0⟩ := hf 0 _ rfl
  obtain ⟨y1, g1, w1⟩ := hf 1 _ rfl
  obtain ⟨y2, g2, w2⟩ := hf 2 _ rfl
  change DataW.trod enc Try.prog w 0 spare held n 35 ((List.drop 0 [a0, a1, a2, a3, a4, a5, a6]).take (Try.prog.cellsOf 35)) = some y0 at g0
  change DataW.trod enc Try.prog w 0 spare held n 36 ((List.drop 1 [a0, a1, a2, a3, a4, a5, a6]).take (Try.prog.cellsOf 36)) = some y1 at g1
  change DataW.trod enc Try.prog w 0 spare held n 39 ((List.drop 2 [a0, a1, a2, a3, a4, a5, a6]).take (Try.prog.cellsOf 39)) = some y2 at g2
  rw [show Try.prog.cellsOf 35 = 1 by kernel_rfl] at g0
  rw [show Try.prog.cellsOf 36 = 1 by kernel_rfl] at g1
  rw [show Try.prog.cellsOf 39 = 5 by kernel_rfl] at g2
  obtain ⟨q0, l0, c0, e0, b0, m0, n0, o0⟩ := ints_rd g0 w0
  obtain ⟨q1, l1, c1, e1, b1, m1, n1, o1⟩ := rd_arrL (R := inR) Try.underlying36 (by kernel_rfl) (fun n cs' y _ hy hwy => in_rd hy hwy) g1 w1
  rw [show Try.prog.bytesOf 85 = 48 by kernel_rfl] at n1
  obtain ⟨u2, e2, o2⟩ := tm_rd g2 w2
  have h47 := reach47
  simp [tmC] at e0 e1 e2
  refine ⟨(⟨l0, l1.map Prod.fst, u2.1⟩, ⟨(q0, c0), (q1, c1), u2.2⟩), ?_, ⟨m0, by simp only [List.length_map]; omega, b0, by simp only [List.length_map]; exact b1, n0, o0, ⟨l1, rfl, o1⟩, o2⟩⟩
  simp [bkC, e0, e1, e2]
theorem fn_rd {fuel : Nat} {cs : List Value} {x : DataW H × List MemPlace} (h : DataW.trod enc Try.prog w 0 spare held fuel 24 cs = some x) (hw : Lt Try.prog 24 x.1) : ∃ u : Go.Ss.Fn × FnY, cs = fnC u.1 u.2 ∧ FnOk w (low w) u.1 u.2 := by
  obtain ⟨hlen, n, hn, hf⟩ := rd_struct Try.underlying24 h hw
  rw [show Try.prog.cellsOf 24 = 2 by kernel_rfl] at hlen
  obtain ⟨a0, a1, rfl⟩ := list2 hlen
  obtain ⟨y0, g0, w0⟩ := hf 0 _ rfl
  obtain ⟨y1, g1, w1⟩ := hf 1 _ rfl
  change DataW.trod enc Try.prog w 0 spare held n 3 ((List.drop 0 [a0, a1]).take (Try.prog.cellsOf 3)) = some y0 at g0
  change DataW.trod enc Try.prog w 0 spare held n 22 ((List.drop 1 [a0, a1]).take (Try.prog.cellsOf 22)) = some y1 at g1
  rw [show Try.prog.cellsOf 3 = 1 by kernel_rfl] at g0
  rw [show Try.prog.cellsOf 22 = 1 by kernel_rfl] at g1
  obtain ⟨i0, e0, j0⟩ := DataW.trod_int Try.underlying3 g0
  obtain ⟨q1, l1, c1, e1, b1, m1, n1, o1⟩ := rd_arrL (R := bkR) Try.underlying22 (by kernel_rfl) (fun n cs' y _ hy hwy => bk_rd hy hwy) g1 w1
  rw [show Try.prog.bytesOf 41 = 120 by kernel_rfl] at n1
  have h47 := reach47
  simp [tmC] at e0 e1
  refine ⟨(⟨i0, l1.map Prod.fst⟩, ⟨q1, c1⟩), ?_, ⟨wf_i64 j0.2, by simp only [List.length_map]; omega, by simp only [List.length_map]; exact b1, ⟨l1, rfl, o1⟩⟩⟩
  simp [fnC, e0, e1]
end
end Go.Proofs.Ytehelljmaiophaa.ss
