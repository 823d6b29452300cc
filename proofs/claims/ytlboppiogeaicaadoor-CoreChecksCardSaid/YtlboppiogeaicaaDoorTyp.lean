/- Types as trees: how a value of type api.Type lies in memory. General. No condition. -/
import Derived.Test.YtlboppiogeaicaaDoorMem
namespace Go.Eng
open Go.RowKit
set_option linter.unusedVariables false
set_option linter.unusedSimpArgs false

def I64 (x : Int) : Prop := -9223372036854775808 ≤ x ∧ x ≤ 9223372036854775807

inductive Ty where
  | mk (kind : Int) (name : ByteArray) (var : Int) (args : List Ty)

def Ty.kind : Ty → Int | .mk k _ _ _ => k
def Ty.name : Ty → ByteArray | .mk _ n _ _ => n
def Ty.var : Ty → Int | .mk _ _ v _ => v
def Ty.args : Ty → List Ty | .mk _ _ _ a => a

mutual
def Ty.sz : Ty → Nat
  | .mk _ _ _ as => Ty.szs as + 1
def Ty.szs : List Ty → Nat
  | [] => 0
  | t :: r => Ty.sz t + Ty.szs r
end
theorem Ty.sz_get : ∀ {as : List Ty} {i : Nat} {t : Ty}, as[i]? = some t → t.sz ≤ Ty.szs as
  | [], _, _, h => by simp at h
  | u :: r, 0, t, h => by simp at h; subst h; simp only [Ty.szs]; omega
  | u :: r, i + 1, t, h => by have := Ty.sz_get (as := r) (i := i) (t := t) (by simpa using h); simp only [Ty.szs]; omega

mutual
/-- the four cells of a type; what they lead to lies below block B -/
def TyC (s : World) (B : Nat) : Ty → List Value → Prop
  | .mk k nm v as, cs => ∃ (q : Option Addr) (cap : Nat), cs = [.int .i64 k, .string nm, .int .i64 v, .slice q as.length cap] ∧ I64 k ∧ I64 v ∧ (as.length : Int) ≤ 9223372036854775807 ∧
      (0 < as.length → ∃ a, q = some a ∧ a.block < B ∧ TyAll s B as a)
def TyAll (s : World) (B : Nat) : List Ty → Addr → Prop
  | [], _ => True
  | t :: r, a => (∃ cs, CellsAt s a cs ∧ TyC s B t cs) ∧ TyAll s B r (a.add 4)
end
theorem TyAll.get {s : World} {B : Nat} : ∀ {as : List Ty} {a : Addr} {i : Nat} {t : Ty}, TyAll s B as a → as[i]? = some t → ∃ cs, CellsAt s (a.add (i * 4)) cs ∧ TyC s B t cs
  | [], _, _, _, _, h => by simp at h
  | u :: r, a, 0, t, h, hi => by
    simp only [TyAll] at h
    simp at hi; subst hi
    obtain ⟨cs, h1, h2⟩ := h.1
    exact ⟨cs, h1, h2⟩
  | u :: r, a, i + 1, t, h, hi => by
    simp only [TyAll] at h
    obtain ⟨cs, h1, h2⟩ := TyAll.get (i := i) h.2 (by simpa using hi)
    rw [add_add] at h1
    exact ⟨cs, by rwa [show 4 + i * 4 = (i + 1) * 4 from by omega] at h1, h2⟩
theorem CellsAt.keep {s s' : World} {a : Addr} {cs : List Value} {B : Nat} (hk : ∀ p : Addr, p.block < B → s'.cell? p = s.cell? p) (hb : a.block < B) (h : CellsAt s a cs) : CellsAt s' a cs :=
  fun j v hj => by rw [hk _ (by rw [add_block]; exact hb)]; exact h j v hj
mutual
theorem TyC.keep {s s' : World} {B B' : Nat} (hk : ∀ p : Addr, p.block < B → s'.cell? p = s.cell? p) (hB : B ≤ B') : ∀ {t : Ty} {cs : List Value}, TyC s B t cs → TyC s' B' t cs
  | .mk k nm v as, cs, h => by
    simp only [TyC] at h ⊢
    obtain ⟨q, cap, h1, h2, h3, h5, h4⟩ := h
    refine ⟨q, cap, h1, h2, h3, h5, fun hl => ?_⟩
    obtain ⟨a, ha, hb, hall⟩ := h4 hl
    exact ⟨a, ha, by omega, TyAll.keep hk hB hb hall⟩
theorem TyAll.keep {s s' : World} {B B' : Nat} (hk : ∀ p : Addr, p.block < B → s'.cell? p = s.cell? p) (hB : B ≤ B') : ∀ {as : List Ty} {a : Addr}, a.block < B → TyAll s B as a → TyAll s' B' as a
  | [], _, _, _ => by simp only [TyAll]
  | t :: r, a, hb, h => by
    simp only [TyAll] at h ⊢
    obtain ⟨⟨cs, h1, h2⟩, h3⟩ := h
    exact ⟨⟨cs, h1.keep hk hb, TyC.keep hk hB h2⟩, TyAll.keep hk hB (by rw [add_block]; exact hb) h3⟩
end
theorem TyC.len {s : World} {B : Nat} {t : Ty} {cs : List Value} (h : TyC s B t cs) : cs.length = 4 := by
  cases t
  simp only [TyC] at h
  obtain ⟨q, cap, rfl, _⟩ := h
  rfl

/-- below B all is as it was in s -/
theorem Cls.below {H : List Item} {S : List World} {w s : World} (h : Cls H S w) (hs : s ∈ S) {B : Nat} (hB : B ≤ s.heap.size) (hno : ∀ k, k < B → NotOwned H k) : ∀ p : Addr, p.block < B → w.cell? p = s.cell? p :=
  fun p hp => h.cell hs (by omega) (hno _ hp)
/-- items that are forgotten: only such as no kept world knows -/
inductive Thin (S : List World) : List Item → List Item → Prop where
  | nil : Thin S [] []
  | keep {i : Item} {H H' : List Item} (h : Thin S H H') : Thin S (i :: H) (i :: H')
  | blk {b : Nat} {t : TypeId} {c : List Value} {H H' : List Item} (hb : AllLe S b) (h : Thin S H H') : Thin S (blk b t c :: H) H'
  | any {i : Item} {H H' : List Item} (hb : ∀ k, i.own k → AllLe S k) (h : Thin S H H') : Thin S (i :: H) H'
theorem AllLe.mem {S : List World} {k : Nat} (h : AllLe S k) : ∀ s ∈ S, s.heap.size ≤ k := by
  induction S with
  | nil => intro s hs; cases hs
  | cons x S ih =>
    intro s hs
    cases hs with
    | head => exact h.1
    | tail _ hs => exact ih h.2 s hs
theorem Thin.spec {S : List World} {H H' : List Item} (h : Thin S H H') : H'.Sublist H ∧ ∀ i ∈ H, i ∈ H' ∨ ∀ k, i.own k → AllLe S k := by
  induction h with
  | nil => exact ⟨.slnil, fun i hi => by cases hi⟩
  | @keep i H H' h ih =>
    refine ⟨ih.1.cons_cons _, fun j hj => ?_⟩
    cases hj with
    | head => exact .inl (.head _)
    | tail _ hj => exact (ih.2 j hj).imp (.tail _) id
  | @blk b t c H H' hb h ih =>
    refine ⟨ih.1.cons _, fun j hj => ?_⟩
    cases hj with
    | head => exact .inr fun k hk => by have hk' : k = b := hk; subst hk'; exact hb
    | tail _ hj => exact ih.2 j hj
  | @any i H H' hb h ih =>
    refine ⟨ih.1.cons _, fun j hj => ?_⟩
    cases hj with
    | head => exact .inr hb
    | tail _ hj => exact ih.2 j hj
theorem Cls.thin {H H' : List Item} {S : List World} {w : World} (h : Cls H S w) (ht : Thin S H H') : Cls H' S w := by
  obtain ⟨hs, hd⟩ := ht.spec
  refine ⟨fun i hi => h.holds i (hs.subset hi), fun i hi => h.lt i (hs.subset hi), h.dj.sublist hs, fun s hms => ?_⟩
  have hk := h.kp s hms
  refine ⟨hk.os, hk.tape, hk.output, hk.size, fun k hks hno => hk.block k hks ?_⟩
  rintro ⟨i, hi, hik⟩
  rcases hd i hi with h1 | h1
  · exact hno ⟨i, h1, hik⟩
  · have := (h1 k hik).mem s hms; omega
theorem Cls.toExt {H : List Item} {S : List World} {w s : World} (h : Cls H S w) (hs : s ∈ S) (hno : ∀ k, k < s.heap.size → NotOwned H k) : Ext s w :=
  (h.kp s hs).mono fun k hk ho => (hno k hk).not ho
theorem Cls.toKeep {O : Nat → Prop} {H : List Item} {S : List World} {w s : World} (h : Cls H S w) (hs : s ∈ S) (hno : ∀ k, k < s.heap.size → ¬ O k → NotOwned H k) : Keep O s w :=
  ⟨(h.kp s hs).os, (h.kp s hs).tape, (h.kp s hs).output, (h.kp s hs).size, fun k hk ho => (h.kp s hs).block k hk (hno k hk ho).not⟩
theorem blk_eq {b : Nat} {t : TypeId} {cs cs' : List Value} {w : World} (h : (blk b t cs).holds w) (e : cs = cs') : (blk b t cs').holds w := e ▸ h
end Go.Eng
