/- Texts of the proof of CoreSame, part 5: rules of a calculus for walking, plain laws, and walks of the functions that the law reaches. No condition. -/
import Derived.SizedLaws
import Derived.Test.YtlboppiogeaicaaDoorProg
import Derived.Test.YtlboppiogeaicaaDoorCoreSame4
/- The walks of the reference's Text and Alike. Conditions: none. -/
namespace Go.Co
open Go.Eng Go.RowKit
set_option linter.unusedVariables false
set_option linter.unusedSimpArgs false
theorem flatMap_len {α β : Type} {f : α → List β} {c : Nat} : ∀ {l : List α}, (∀ x ∈ l, (f x).length ≤ c) → (l.flatMap f).length ≤ l.length * c
  | [], _ => by simp
  | a :: r, h => by
    rw [List.flatMap_cons, List.length_append, List.length_cons, Nat.succ_mul]
    have h1 := h a (.head _)
    have h2 := flatMap_len (l := r) fun x hx => h x (.tail _ hx)
    omega
theorem flatMap_take {α β : Type} {f : α → List β} {l : List α} {j : Nat} {x : α} (h : l[j]? = some x) : (l.take (j + 1)).flatMap f = (l.take j).flatMap f ++ f x := by
  rw [List.take_add_one, h]
  simp
/-- numbers within a node are small -/
structure Small (x : Ex) : Prop where
  op : I64 x.op
  n : I64 x.n
  b : ∀ v ∈ x.binds, I64 v
  t : ∀ a ∈ x.alts, I64 a.tag
theorem small_of {e : List Ex} {x : Ex} (h : nodeE e x = 0) (hop : I64 x.op) (hn : I64 x.n) : Small x := by
  obtain ⟨h1, h2⟩ := nodeE_zero h
  have hr : rangesOk x = true := by
    unfold rangesE at h2
    split at h2
    · cases h2
    · rename_i h3
      simpa using h3
  simp only [rangesOk, Bool.and_eq_true, decide_eq_true_eq, List.all_eq_true, idB, altR] at hr
  obtain ⟨⟨_, hr3⟩, hr4⟩ := hr
  refine ⟨hop, hn, fun v hv => ?_, fun a ha => ?_⟩
  · have := hr3 v hv
    unfold I64
    omega
  · have h5 := (hr4 a ha).1
    have h6 : -1 ≤ a.tag := by
      unfold shapeB at h1
      by_cases h7 : x.op = 7 ∨ x.op = 13
      · rw [if_pos h7] at h1
        simp only [Bool.and_eq_true, altsB, altsOk, List.all_eq_true, List.mem_range] at h1
        obtain ⟨i, hi⟩ := List.getElem?_of_mem ha
        have h8 := h1.1.1.1.1 i (List.getElem?_eq_some_iff.1 hi).1
        rw [List.getD_eq_getElem?_getD, hi] at h8
        unfold altOk at h8
        simp only [Option.getD_some, Bool.and_eq_true, decide_eq_true_eq] at h8
        exact h8.1.1.1.2
      · rw [if_neg h7] at h1
        split at h1
        · cases h1
        · simp only [Bool.and_eq_true, decide_eq_true_eq] at h1
          have : x.alts = [] := List.eq_nil_of_length_eq_zero h1.1.2
          rw [this] at ha
          cases ha
    simp only [Bool.not_eq_true', Bool.or_eq_false_iff, Bool.and_eq_false_iff, decide_eq_false_iff_not] at h5
    unfold I64
    omega
/-! ### the pieces of a text -/
def tp0 (op : Int) : List UInt8 := 40 :: (numL op ++ [32])
def tag2 (a : Al) : Int × Nat := (a.tag, a.binds.length)
theorem altsL_take {l : List Al} {j : Nat} {a : Al} (h : l[j]? = some a) : altsL ((l.take (j + 1)).map tag2) = altsL ((l.take j).map tag2) ++ (124 :: (numL a.tag ++ 58 :: numL (a.binds.length : Int))) := by
  rw [List.take_add_one, h]
  simp [altsL, tag2, altL]
theorem txts_take {l : List Cn} {j : Nat} {c : Cn} (h : l[j]? = some c) : txts (l.take (j + 1)) = txts (l.take j) ++ txt c := by
  induction l generalizing j with
  | nil => simp at h
  | cons d r ih =>
    cases j with
    | zero => simp at h; subst h; simp [txts]
    | succ j =>
      have := ih (j := j) (by simpa using h)
      simp only [List.take_succ_cons, txts, this, List.append_assoc]
/-- a text ahead of the kids' texts -/
def tp3 (op : Int) (hd : Hd) (alts : List Al) (nb : Nat) : List UInt8 := tp0 op ++ (hdL hd ++ (altsL (alts.map tag2) ++ (59 :: numL (nb : Int))))
theorem txt_parts (op : Int) (hd : Hd) (alts : List Al) (nb : Nat) (ks : List Cn) : txt (.mk op hd (alts.map tag2) nb ks) = tp3 op hd alts nb ++ (txts ks ++ [41]) := by
  simp [txt, tp3, tp0]
theorem hdL_len {op n : Int} {binds na : List Int} (hn : I64 n) (hb : ∀ v ∈ binds, I64 v) (hbl : binds.length ≤ 16) (hna : na.length ≤ 1000000000) : (hdL (hdOf op n binds na)).length ≤ 400 := by
  unfold hdOf
  split
  · have h1 : I64 ((lastI na n).toNat : Int) := by
      have : lastI na n ≤ (na.length : Int) := by
        rcases lastA_spec (l := na) (n := n) (i := na.length) with ⟨h, _⟩ | ⟨k, h1, h2, _⟩
        · unfold lastI; omega
        · unfold lastI; omega
      unfold I64
      omega
    have := numL_len h1
    simp only [hdL, List.length_cons]
    omega
  · simp only [hdL, List.length_append]
    have h1 := numL_len hn
    have h2 : ((if op = 9 then binds else []).flatMap fun x => 44 :: numL x).length ≤ (if op = 9 then binds else []).length * 21 := flatMap_len fun v hv => by
      have h3 : v ∈ binds := by
        split at hv
        · exact hv
        · cases hv
      have := numL_len (hb v h3)
      simp only [List.length_cons]
      omega
    have h3 : (if op = 9 then binds else []).length ≤ 16 := by split <;> simp [hbl]
    omega
theorem altsL_len {l : List Al} (ht : ∀ a ∈ l, I64 a.tag) (hb : ∀ a ∈ l, a.binds.length ≤ 16) : (altsL (l.map tag2)).length ≤ l.length * 42 := by
  unfold altsL
  rw [List.flatMap_map]
  refine flatMap_len fun a ha => ?_
  have h1 := numL_len (ht a ha)
  have h2 : I64 (a.binds.length : Int) := by have := hb a ha; unfold I64; omega
  have h3 := numL_len h2
  simp only [tag2, altL, List.length_cons, List.length_append]
  omega
theorem tp0_len {op : Int} (h : I64 op) : (tp0 op).length ≤ 22 := by
  have := numL_len h
  simp only [tp0, List.length_cons, List.length_append, List.length_nil]
  omega
end Go.Co
namespace Go.Proofs.YtlboppiogeaicaaDoor.co
open Go.RowKit Go.Eng Go.Co
set_option linter.unusedVariables false
set_option linter.unusedSimpArgs false
set_option maxRecDepth 100000
theorem str_cat3 (a b c : List UInt8) : (bs a ++ bs b) ++ bs c = bs (a ++ (b ++ c)) := by rw [bs_append, bs_append, List.append_assoc]
structure KP where
  B : Nat
  O : Nat → Prop
  q : Option Addr
  c : Nat
set_option maxHeartbeats 2000000 in
theorem Text_calls (es : List (Ex × ExY)) (e : List Ex) (q : Option Addr) (cap : Nat) (hee : es.map Prod.fst = e) (hb : bodyE e [] false = 0) :
    ∀ (i : Nat), i < es.length → ∀ (na : List Int) (qn : Option Addr) (cn : Nat) (w : World), Arr exR w (low w) es q → IntsO w (low w) na qn → na.length + (i + 1) * 70000 ≤ 300000000 →
      Calls Tryd.prog 50 [.slice q es.length cap, .int .i64 (i : Int), .slice qn na.length cn].toArray w fun e1 w' => e1 = .returned (.string (bs (txt (canon (grow e i) na)))) ∧ Ext w w' ∧ (txt (canon (grow e i) na)).length ≤ 200000 * tsz (grow e i) := by
  intro i
  induction i using Nat.strongRecOn with
  | _ i ih =>
  intro hil na qn cn w he hIn hnl
  have hel : e.length = es.length := by rw [← hee, List.length_map]
  have hok := BodyOk.of hb
  have hl4 := hok.tree.len
  obtain ⟨a, p, rfl, hab, hp, hcell, hx⟩ := he.get hil
  have hab : a.block < w.heap.size := hab
  have hcell : CellsAt w (a.add (i * 5)) [.int .i64 p.1.op, .int .i64 p.1.n, .slice p.2.b.1 p.1.binds.length p.2.b.2, .slice p.2.k.1 p.1.kids.length p.2.k.2, .slice p.2.a.1 p.1.alts.length p.2.a.2] := hcell
  have hpe : e[i]? = some p.1 := by rw [← hee, List.getElem?_map, hp]; rfl
  have hpm : p.1 ∈ e := List.mem_of_getElem? hpe
  have hL := hok.lim hpm
  have hLb := hL.b
  have hLa := hL.a
  have hkl := hok.kl hpm
  have hnode := (hok.node hpm).1
  have hS := small_of hnode hx.op hx.n
  have hsk := shape_kids (nodeE_zero hnode).1
  have hdn := hok.tree.tree.down
  obtain ⟨pa, hpa, harrA⟩ := hx.alts
  have hpal : p.1.alts.length = pa.length := by rw [← hpa, List.length_map]
  rw [grow_eq hdn hpe]
  obtain ⟨hd, hhd⟩ : ∃ hd, hdOf p.1.op p.1.n p.1.binds na = hd := ⟨_, rfl⟩
  obtain ⟨ks, hks⟩ : ∃ ks, canons p.1.op p.1.binds p.1.alts (p.1.kids.map fun k => grow e k.toNat) 0 na = ks := ⟨_, rfl⟩
  have htx : txt (canon (.mk p.1.op p.1.n p.1.binds (p.1.kids.map fun k => grow e k.toNat) p.1.alts) na) = tp3 p.1.op hd p.1.alts (bindersX p.1).length ++ (txts ks ++ [41]) := by
    rw [← txt_parts, ← hhd, ← hks, canon]
    rfl
  have hhl : (hdL hd).length ≤ 400 := by rw [← hhd]; exact hdL_len hS.n hS.b hLb (by omega)
  have hal := altsL_len hS.t (fun a ha => hL.ab a ha)
  have h0l := tp0_len hS.op
  have hbx : (bindersX p.1).length ≤ 69000 := by
    rw [bindersX_eq]
    have h1 := flat_len hL.ab
    unfold bindersT
    rw [List.length_append]
    have h2 : (if p.1.op = 2 ∨ p.1.op = 4 ∨ p.1.op = 5 then p.1.binds else []).length ≤ 16 := by split <;> simp [hLb]
    omega
  have hIbx : I64 ((bindersX p.1).length : Int) := by unfold I64; omega
  have hnbl := numL_len hIbx
  have h3l : (tp3 p.1.op hd p.1.alts (bindersX p.1).length).length ≤ 180000 := by
    unfold tp3
    simp only [List.length_append, List.length_cons]
    omega
  have hksl : ks.length = p.1.kids.length := by rw [← hks, canons_length, List.length_map]
  have hkget : ∀ {j k : Nat}, p.1.kids[j]? = some (k : Int) → ks[j]? = some (canon (grow e k) (na ++ vis p.1.op p.1.binds p.1.alts j)) := fun {j k} hj => by
    rw [← hks, canons_get, List.getElem?_map, hj]
    simp
  have hopl := numL_len hS.op
  have hnl20 := numL_len hS.n
  refine enter Tryd.func50 rfl Tryd.ntmps50 rfl (Cls.start w) ?_
  (simp only [argEnv, Nat.zero_add, Nat.reduceAdd])
  have z1 := ByteArray.size_append (a := (⟨#[40]⟩ : ByteArray)) (b := bs (numL p.1.op))
  have z2 : (⟨#[40]⟩ : ByteArray).size = 1 := rfl
  have z3 := bs_size (numL p.1.op)
  have z4 : (⟨#[32]⟩ : ByteArray).size = 1 := rfl
  apply W.sr
  apply oas; rfl; rfl
  apply OL.nsr
  apply omv; rfl; rfl
  apply omv; rfl; rfl
  apply oop; rfl; apply Pev.idx; rfl; exact yes; rfl; exact yes; rfl; rfl; intro hcond; omega
  apply oop; rfl; apply Pev.load_keptA; rfl; exact yes; exact .head _; rfl; intro hcond; assumption; rfl; intro hcond; (rw [add_block]; assumption); intro hcond; exact NotOwned.au
  apply OL.alloc; rfl; rfl; exact CellsL.agg; (intro bk hbk; simp only [AllLe, and_true] at hbk)
  apply OL.storeB; rfl; rfl; exact CellsL.agg; rfl; rfl; rfl; exact Swap.au; exact Put.au
  apply OL.nsr
  apply ofa; rfl; rfl; rfl
  apply old; rfl; rfl; exact .head _; rfl; rfl
  revert bk
  intro bx hbx0
  (((first | (with_reducible apply OL.op) | (with_reducible apply QL.op)); (exact Guard.au); rfl; rfl); (exact Pev.call (v := .string (bs (numL p.1.op))) rfl (by exact Args.au) (fun _ w2 hw2 => (num_calls p.1.op w2 hS.op).mono (fun e w3 h => ⟨h.1, hw2.ext h.2⟩))))
  apply obn; rfl; rfl; rfl; apply Bin.str_add; omega
  apply obn; rfl; rfl; rfl; apply Bin.str_add; omega
  apply oas; rfl; rfl
  apply OL.nx
  apply W.seq
  have hP0 : ((⟨#[40]⟩ : ByteArray) ++ bs (numL p.1.op)) ++ (⟨#[32]⟩ : ByteArray) = bs (tp0 p.1.op) := str_cat3 [40] (numL p.1.op) [32]
  rw [hP0]
  have y0 := bs_size (tp0 p.1.op)
  refine W.joinx (G := Unit) (fun _ => True) (fun _ => [(0, true, .slice (some a) es.length cap), (2, true, .slice qn na.length cn), (7, true, .pointer (some ⟨bx, 0, none⟩)), (8, true, .string (bs (tp0 p.1.op ++ hdL hd)))]) (fun _ => Cls [blk bx 28 [.int .i64 p.1.op, .int .i64 p.1.n, .slice p.2.b.1 p.1.binds.length p.2.b.2, .slice p.2.k.1 p.1.kids.length p.2.k.2, .slice p.2.a.1 p.1.alts.length p.2.a.2]] [w]) ?_ ?_
  · apply W.block
    apply W.sr
    apply ofa; rfl; rfl; rfl
    apply old; rfl; rfl; exact .head _; rfl; rfl
    apply obn; rfl; rfl; rfl; apply Bin.eql
    apply omv; rfl; rfl
    apply oy; rfl; rfl; rfl; apply Pev.move; rfl; exact yes
    apply oy; rfl; rfl; rfl; apply Pev.fld; rfl; exact yes; rfl
    apply oy; rfl; rfl; rfl; apply Pev.load_blk; rfl; exact fun h => h; exact .head _; rfl; rfl
    (((first | (with_reducible apply OL.op) | (with_reducible apply QL.op)); (exact Guard.au); rfl; rfl); (exact Pev.call (v := .int .i64 (lastI na p.1.n)) rfl (by exact Args.au) (fun _ w2 hw2 => (last_calls qn cn na p.1.n w2 (by omega) (hIn.at hw2 (by exact mau) (fun k hk => by exact NotOwned.au))).mono (fun e w3 h => ⟨h.1, hw2.ext h.2⟩))))
    apply oy; rfl; rfl; rfl; apply Pev.bin; rfl; exact fun h => h; rfl; exact yes; intro hcond; apply Bin.geq
    apply oop; rfl; apply Pev.pick_and; rfl; exact yes; rfl; exact fun h => h
    apply oas; rfl; rfl
    apply OL.nx
    refine W.cond rfl (fun hc => ?_) (fun hc => ?_)
    · have hc2 : p.1.op = 0 ∧ 0 ≤ lastI na p.1.n := by simpa using hc
      have hhd2 : hd = .b (lastI na p.1.n).toNat := by rw [← hhd]; unfold hdOf; rw [if_pos hc2]
      have hIl : I64 (lastI na p.1.n) := by
        have : lastI na p.1.n ≤ (na.length : Int) := by
          rcases lastA_spec (l := na) (n := p.1.n) (i := na.length) with ⟨h, _⟩ | ⟨k, h1, h2, _⟩
          · unfold lastI; omega
          · unfold lastI; omega
        unfold I64
        omega
      have hll := numL_len hIl
      have x1 := bs_size (numL (lastI na p.1.n))
      have x2 : (⟨#[98]⟩ : ByteArray).size = 1 := rfl
      have x3 := ByteArray.size_append (a := (⟨#[98]⟩ : ByteArray)) (b := bs (numL (lastI na p.1.n)))
      apply W.reg
      apply omv; rfl; rfl
      apply omv; rfl; rfl
      apply ofa; rfl; rfl; rfl
      apply old; rfl; rfl; exact .head _; rfl; rfl
      (((first | (with_reducible apply OL.op) | (with_reducible apply QL.op)); (exact Guard.au); rfl; rfl); (exact Pev.call (v := .int .i64 (lastI na p.1.n)) rfl (by exact Args.au) (fun _ w2 hw2 => (last_calls qn cn na p.1.n w2 (by omega) (hIn.at hw2 (by exact mau) (fun k hk => by exact NotOwned.au))).mono (fun e w3 h => ⟨h.1, hw2.ext h.2⟩))))
      skip
      (((first | (with_reducible apply OL.op) | (with_reducible apply QL.op)); (exact Guard.au); rfl; rfl); (exact Pev.call (v := .string (bs (numL (lastI na p.1.n)))) rfl (by exact Args.au) (fun _ w2 hw2 => (num_calls (lastI na p.1.n) w2 hIl).mono (fun e w3 h => ⟨h.1, hw2.ext h.2⟩))))
      apply obn; rfl; rfl; rfl; apply Bin.str_add; omega
      apply obn; rfl; rfl; rfl; apply Bin.str_add; omega
      apply oas; rfl; rfl
      apply OL.nil
      with_reducible apply At.in_normal
      have hfin : bs (tp0 p.1.op) ++ ((⟨#[98]⟩ : ByteArray) ++ bs (numL (lastI na p.1.n))) = bs (tp0 p.1.op ++ hdL hd) := by
        rw [hhd2]
        simp only [hdL]
        rw [show (((lastI na p.1.n).toNat : Nat) : Int) = lastI na p.1.n by omega]
        have h1 := bs_append [98] (numL (lastI na p.1.n))
        rw [show (⟨#[98]⟩ : ByteArray) = bs [98] from rfl, h1, bs_append]
        rfl
      rw [hfin]
      exact At.joinedx () trivial (by exact Sub.au) (fun w' hw' => hw')
    have hnc : ¬ (p.1.op = 0 ∧ 0 ≤ lastI na p.1.n) := fun h => by simp [h.1, h.2] at hc
    have hhd2 : hd = .o p.1.n (if p.1.op = 9 then p.1.binds else []) := by rw [← hhd]; unfold hdOf; rw [if_neg hnc]
    have x1 := bs_size (numL p.1.n)
    have x2 := ByteArray.size_append (a := bs (tp0 p.1.op)) (b := bs (numL p.1.n))
    apply W.sr
    apply ofa; rfl; rfl; rfl
    apply old; rfl; rfl; exact .head _; rfl; rfl
    apply obn; rfl; rfl; rfl; apply Bin.eql
    apply oas; rfl; rfl
    apply OL.nx
    (refine W.cnd (fun h9 => ?_) (fun h9 => ?_)) <;> (try (exfalso; first | omega | exact h9 trivial | contradiction))
    · apply W.sr
      apply omv; rfl; rfl
      apply ofa; rfl; rfl; rfl
      apply old; rfl; rfl; exact .head _; rfl; rfl
      (((first | (with_reducible apply OL.op) | (with_reducible apply QL.op)); (exact Guard.au); rfl; rfl); (exact Pev.call (v := .string (bs (numL p.1.n))) rfl (by exact Args.au) (fun _ w2 hw2 => (num_calls p.1.n w2 hS.n).mono (fun e w3 h => ⟨h.1, hw2.ext h.2⟩))))
      apply obn; rfl; rfl; rfl; apply Bin.str_add; omega
      apply oas; rfl; rfl
      apply OL.nsr
      apply ofa; rfl; rfl; rfl
      apply old; rfl; rfl; exact .head _; rfl; rfl
      apply oop; rfl; apply Pev.len_slice; rfl; exact yes; rfl
      apply omv; rfl; rfl
      apply OL.nx
      apply W.block
      rw [bs_append]
      skip
      refine W.loop (G := Nat) (fun j => j ≤ p.1.binds.length) (fun j => p.1.binds.length - j)
        (fun j => [(0, true, .slice (some a) es.length cap), (2, true, .slice qn na.length cn), (7, true, .pointer (some ⟨bx, 0, none⟩)), (8, true, .string (bs (tp0 p.1.op ++ (numL p.1.n ++ (p.1.binds.take j).flatMap fun x => 44 :: numL x)))), (60, true, .slice p.2.b.1 p.1.binds.length p.2.b.2), (61, true, .int .i64 (p.1.binds.length : Int)), (62, true, .int .i64 (j : Int))])
        (fun _ => Cls [blk bx 28 [.int .i64 p.1.op, .int .i64 p.1.n, .slice p.2.b.1 p.1.binds.length p.2.b.2, .slice p.2.k.1 p.1.kids.length p.2.k.2, .slice p.2.a.1 p.1.alts.length p.2.a.2]] [w]) 0 (by omega) (by simp only [List.take_zero, List.flatMap_nil, List.append_nil]; exact Sub.au) (fun w' hw' => hw') ?_
      rintro j hj
      have hfl : ((p.1.binds.take j).flatMap fun x => 44 :: numL x).length ≤ (p.1.binds.take j).length * 21 := flatMap_len fun v hv => by
        have := numL_len (hS.b v (List.mem_of_mem_take hv))
        simp only [List.length_cons]
        omega
      rw [List.length_take] at hfl
      have u1 := bs_size (tp0 p.1.op ++ (numL p.1.n ++ (p.1.binds.take j).flatMap fun x => 44 :: numL x))
      simp only [List.length_append] at u1
      apply W.sr
      apply obn; rfl; rfl; rfl; apply Bin.lss
      apply OL.nx
      apply W.seq
      (refine W.cnd (fun hlt => ?_) (fun hlt => ?_)) <;> (try (exfalso; first | omega | exact hlt trivial | contradiction))
      · obtain ⟨av, v, hqv, habv, hv, hcv⟩ := hx.b.get (show j < p.1.binds.length by omega)
        have habv : av.block < w.heap.size := habv
        have hIv := hS.b v (List.mem_of_getElem? hv)
        have hvl := numL_len hIv
        have u2 := bs_size (numL v)
        have u3 : (⟨#[44]⟩ : ByteArray).size = 1 := rfl
        have u4 := ByteArray.size_append (a := (⟨#[44]⟩ : ByteArray)) (b := bs (numL v))
        rw [hqv]
        apply W.sk
        apply W.sb
        apply W.sr
        apply oop; rfl; apply Pev.idx; rfl; exact yes; rfl; exact yes; rfl; rfl; intro hcond; omega
        apply oop; rfl; apply Pev.load_kept; rfl; exact yes; exact .head _; rfl; intro hcond; assumption; intro hcond; (rw [add_block]; assumption); intro hcond; exact NotOwned.au
        apply oas; rfl; rfl
        apply OL.nx
        apply W.reg
        apply omv; rfl; rfl
        apply omv; rfl; rfl
        (((first | (with_reducible apply OL.op) | (with_reducible apply QL.op)); (exact Guard.au); rfl; rfl); (exact Pev.call (v := .string (bs (numL v))) rfl (by exact Args.au) (fun _ w2 hw2 => (num_calls v w2 hIv).mono (fun e w3 h => ⟨h.1, hw2.ext h.2⟩))))
        apply obn; rfl; rfl; rfl; apply Bin.str_add; omega
        apply obn; rfl; rfl; rfl; apply Bin.str_add; omega
        apply oas; rfl; rfl
        apply OL.nil
        with_reducible apply At.in_normal
        with_reducible apply At.next
        apply W.reg
        apply obn; rfl; rfl; rfl; apply Bin.add_in; omega
        apply omv; rfl; rfl
        apply OL.nil
        have hst : bs (tp0 p.1.op ++ (numL p.1.n ++ (p.1.binds.take j).flatMap fun x => 44 :: numL x)) ++ ((⟨#[44]⟩ : ByteArray) ++ bs (numL v)) = bs (tp0 p.1.op ++ (numL p.1.n ++ (p.1.binds.take (j + 1)).flatMap fun x => 44 :: numL x)) := by
          rw [show (⟨#[44]⟩ : ByteArray) = bs [44] from rfl, bs_append, bs_append, flatMap_take hv]
          simp
        rw [hst]
        exact At.again (j + 1) (by omega) (by omega) (by exact Sub.au) (fun w' hw' => hw')
      · obtain rfl : j = p.1.binds.length := by omega
        refine W.xt ?_
        with_reducible apply At.in_normal
        have hfin : tp0 p.1.op ++ (numL p.1.n ++ (p.1.binds.take p.1.binds.length).flatMap fun x => 44 :: numL x) = tp0 p.1.op ++ hdL hd := by
          rw [hhd2, List.take_length, if_pos h9]
          rfl
        rw [hfin]
        exact At.joinedx () trivial (by exact Sub.au) (fun w' hw' => hw')
    · apply W.reg
      apply omv; rfl; rfl
      apply ofa; rfl; rfl; rfl
      apply old; rfl; rfl; exact .head _; rfl; rfl
      (((first | (with_reducible apply OL.op) | (with_reducible apply QL.op)); (exact Guard.au); rfl; rfl); (exact Pev.call (v := .string (bs (numL p.1.n))) rfl (by exact Args.au) (fun _ w2 hw2 => (num_calls p.1.n w2 hS.n).mono (fun e w3 h => ⟨h.1, hw2.ext h.2⟩))))
      apply obn; rfl; rfl; rfl; apply Bin.str_add; omega
      apply oas; rfl; rfl
      apply OL.nil
      with_reducible apply At.in_normal
      have hfin : bs (tp0 p.1.op) ++ bs (numL p.1.n) = bs (tp0 p.1.op ++ hdL hd) := by
        rw [hhd2, if_neg h9, bs_append]
        simp [hdL]
      rw [hfin]
      exact At.joinedx () trivial (by exact Sub.au) (fun w' hw' => hw')
  rintro - -
  apply W.seq
  apply W.sr
  apply ofa; rfl; rfl; rfl
  apply old; rfl; rfl; exact .head _; rfl; rfl
  apply oop; rfl; apply Pev.len_slice; rfl; exact yes; rfl
  apply omv; rfl; rfl
  apply OL.nx
  apply W.block
  refine W.loop (G := Nat) (fun j => j ≤ p.1.alts.length) (fun j => p.1.alts.length - j)
    (fun j => [(0, true, .slice (some a) es.length cap), (2, true, .slice qn na.length cn), (7, true, .pointer (some ⟨bx, 0, none⟩)), (8, true, .string (bs (tp0 p.1.op ++ (hdL hd ++ altsL ((p.1.alts.take j).map tag2))))), (73, true, .slice p.2.a.1 p.1.alts.length p.2.a.2), (74, true, .int .i64 (p.1.alts.length : Int)), (75, true, .int .i64 (j : Int))])
    (fun _ => Cls [blk bx 28 [.int .i64 p.1.op, .int .i64 p.1.n, .slice p.2.b.1 p.1.binds.length p.2.b.2, .slice p.2.k.1 p.1.kids.length p.2.k.2, .slice p.2.a.1 p.1.alts.length p.2.a.2]] [w]) 0 (by omega) (by simp only [List.take_zero, List.map_nil, altsL, List.flatMap_nil, List.append_nil]; exact Sub.au) (fun w' hw' => hw') ?_
  rintro j hj
  have hjl := altsL_len (l := p.1.alts.take j) (fun a ha => hS.t a (List.mem_of_mem_take ha)) (fun a ha => hL.ab a (List.mem_of_mem_take ha))
  rw [List.length_take] at hjl
  have u1 := bs_size (tp0 p.1.op ++ (hdL hd ++ altsL ((p.1.alts.take j).map tag2)))
  simp only [List.length_append] at u1
  apply W.sr
  apply obn; rfl; rfl; rfl; apply Bin.lss
  apply OL.nx
  apply W.seq
  (refine W.cnd (fun hlt => ?_) (fun hlt => ?_)) <;> (try (exfalso; first | omega | exact hlt trivial | contradiction))
  · obtain ⟨av, u, hqv, habv, hu, hcv, hoku⟩ := harrA.get (show j < pa.length by omega)
    have habv : av.block < w.heap.size := habv
    have hcv : CellsAt w (av.add (j * 2)) [.int .i64 u.1.tag, .slice u.2.1 u.1.binds.length u.2.2] := hcv
    have hua : p.1.alts[j]? = some u.1 := by rw [← hpa, List.getElem?_map, hu]; rfl
    have hIt := hS.t u.1 (List.mem_of_getElem? hua)
    have hIb : I64 (u.1.binds.length : Int) := by have := hL.ab u.1 (List.mem_of_getElem? hua); unfold I64; omega
    have hl1 := numL_len hIt
    have hl2 := numL_len hIb
    have u2 := bs_size (numL u.1.tag)
    have u3 := bs_size (numL (u.1.binds.length : Int))
    have u4 : (⟨#[124]⟩ : ByteArray).size = 1 := rfl
    have u5 : (⟨#[58]⟩ : ByteArray).size = 1 := rfl
    have u6 := ByteArray.size_append (a := (⟨#[124]⟩ : ByteArray)) (b := bs (numL u.1.tag))
    have u7 := ByteArray.size_append (a := (⟨#[124]⟩ : ByteArray) ++ bs (numL u.1.tag)) (b := (⟨#[58]⟩ : ByteArray))
    have u8 := ByteArray.size_append (a := ((⟨#[124]⟩ : ByteArray) ++ bs (numL u.1.tag)) ++ (⟨#[58]⟩ : ByteArray)) (b := bs (numL (u.1.binds.length : Int)))
    rw [hqv]
    apply W.sk
    apply W.sb
    apply W.sr
    apply oop; rfl; apply Pev.idx; rfl; exact yes; rfl; exact yes; rfl; rfl; intro hcond; omega
    apply oop; rfl; apply Pev.load_keptA; rfl; exact yes; exact .head _; rfl; intro hcond; assumption; rfl; intro hcond; (rw [add_block]; assumption); intro hcond; exact NotOwned.au
    apply OL.alloc; rfl; rfl; exact CellsL.agg; (intro bk hbk; simp only [AllLe, and_true] at hbk)
    apply OL.storeB; rfl; rfl; exact CellsL.agg; rfl; rfl; rfl; exact Swap.au; exact Put.au
    apply OL.nx
    apply W.regd0; decide +kernel; kernel_rfl; decide +kernel; exact fun w hw => hw.drew
    apply qmv; rfl; rfl
    apply qfa; rfl; rfl; rfl
    apply qld; rfl; rfl; exact .head _; rfl; rfl
    (((first | (with_reducible apply OL.op) | (with_reducible apply QL.op)); (exact Guard.au); rfl; rfl); (exact Pev.call (v := .string (bs (numL u.1.tag))) rfl (by exact Args.au) (fun _ w2 hw2 => (num_calls u.1.tag w2 hIt).mono (fun e w3 h => ⟨h.1, hw2.ext h.2⟩))))
    apply qbn; rfl; rfl; rfl; apply Bin.str_add; omega
    apply qbn; rfl; rfl; rfl; apply Bin.str_add; omega
    apply qfa; rfl; rfl; rfl
    apply qld; rfl; rfl; exact .head _; rfl; rfl
    apply qop; rfl; apply Pev.len_slice; rfl; exact yes; rfl
    (((first | (with_reducible apply OL.op) | (with_reducible apply QL.op)); (exact Guard.au); rfl; rfl); (exact Pev.call (v := .string (bs (numL (u.1.binds.length : Int)))) rfl (by exact Args.au) (fun _ w2 hw2 => (num_calls (u.1.binds.length : Int) w2 hIb).mono (fun e w3 h => ⟨h.1, hw2.ext h.2⟩))))
    apply qbn; rfl; rfl; rfl; apply Bin.str_add; omega
    apply qbn; rfl; rfl; rfl; apply Bin.str_add; omega
    apply qas; rfl; rfl
    apply QL.nil
    with_reducible apply At.in_normal
    with_reducible apply At.next
    apply W.reg
    apply obn; rfl; rfl; rfl; apply Bin.add_in; omega
    apply omv; rfl; rfl
    apply OL.nil
    have hst : bs (tp0 p.1.op ++ (hdL hd ++ altsL ((p.1.alts.take j).map tag2))) ++ ((((⟨#[124]⟩ : ByteArray) ++ bs (numL u.1.tag)) ++ (⟨#[58]⟩ : ByteArray)) ++ bs (numL (u.1.binds.length : Int))) = bs (tp0 p.1.op ++ (hdL hd ++ altsL ((p.1.alts.take (j + 1)).map tag2))) := by
      rw [show (⟨#[124]⟩ : ByteArray) = bs [124] from rfl, show (⟨#[58]⟩ : ByteArray) = bs [58] from rfl, bs_append, bs_append, bs_append, bs_append, altsL_take hua]
      simp
    rw [hst]
    exact At.again (j + 1) (by omega) (by omega) (by exact Sub.au) (fun w' hw' => hw'.thin (by exact Thin.au))
  obtain rfl : j = p.1.alts.length := by omega
  rw [List.take_length]
  rw [List.take_length] at u1
  have v1 := bs_size (numL ((bindersX p.1).length : Int))
  have v2 : (⟨#[59]⟩ : ByteArray).size = 1 := rfl
  have v3 := ByteArray.size_append (a := (⟨#[59]⟩ : ByteArray)) (b := bs (numL ((bindersX p.1).length : Int)))
  refine W.xt ?_
  with_reducible apply At.next
  apply W.sr
  apply omv; rfl; rfl
  apply oop; rfl; apply Pev.load_blkA; rfl; exact yes; exact .head _; rfl; exact Take.au
  refine OL.callE (α := Option Addr × Nat) (fun z => .slice z.1 (bindersX p.1).length z.2) (fun _ => True) (fun _ => Cls [blk bx 28 [.int .i64 p.1.op, .int .i64 p.1.n, .slice p.2.b.1 p.1.binds.length p.2.b.2, .slice p.2.k.1 p.1.kids.length p.2.k.2, .slice p.2.a.1 p.1.alts.length p.2.a.2]] [w]) rfl rfl (by exact Args.au) (fun w2 hw2 => (Binds_calls p.1 p.2 w2 (hx.at hw2 (by exact mau) (fun k hk => by exact NotOwned.au)) hLb hLa hL.ab).mono (fun e1 w3 ⟨q1, c1, h1, h2, _, _⟩ => ⟨(q1, c1), h1, trivial, hw2.ext h2⟩)) ?_
  rintro ⟨q1, c1⟩ -
  simp only
  apply oop; rfl; apply Pev.len_slice; rfl; exact yes; rfl
  (((first | (with_reducible apply OL.op) | (with_reducible apply QL.op)); (exact Guard.au); rfl; rfl); (exact Pev.call (v := .string (bs (numL ((bindersX p.1).length : Int)))) rfl (by exact Args.au) (fun _ w2 hw2 => (num_calls _ w2 hIbx).mono (fun e w3 h => ⟨h.1, hw2.ext h.2⟩))))
  apply obn; rfl; rfl; rfl; apply Bin.str_add; omega
  apply obn; rfl; rfl; rfl; apply Bin.str_add; omega
  apply oas; rfl; rfl
  apply OL.nsr
  apply omv; rfl; rfl
  apply oas; rfl; rfl
  apply OL.nx
  apply W.seq
  apply W.sr
  apply ofa; rfl; rfl; rfl
  apply old; rfl; rfl; exact .head _; rfl; rfl
  apply oop; rfl; apply Pev.len_slice; rfl; exact yes; rfl
  apply omv; rfl; rfl
  apply OL.nx
  apply W.block
  have hP3 : bs (tp0 p.1.op ++ (hdL hd ++ altsL (p.1.alts.map tag2))) ++ ((⟨#[59]⟩ : ByteArray) ++ bs (numL ((bindersX p.1).length : Int))) = bs (tp3 p.1.op hd p.1.alts (bindersX p.1).length) := by
    rw [show (⟨#[59]⟩ : ByteArray) = bs [59] from rfl, bs_append, bs_append]
    simp [tp3]
  rw [hP3]
  skip
  obtain ⟨P3, hP3d⟩ : ∃ P3, tp3 p.1.op hd p.1.alts (bindersX p.1).length = P3 := ⟨_, rfl⟩
  rw [hP3d] at h3l htx ⊢
  refine W.loop (G := Nat) (fun j => j ≤ p.1.kids.length ∧ (txts (ks.take j)).length ≤ 200000 * tszs ((p.1.kids.map fun k => grow e k.toNat).take j)) (fun j => p.1.kids.length - j)
    (fun j => [(0, true, .slice (some a) es.length cap), (7, true, .pointer (some ⟨bx, 0, none⟩)), (8, true, .string (bs (P3 ++ txts (ks.take j)))), (13, true, .slice qn na.length cn), (101, true, .slice p.2.k.1 p.1.kids.length p.2.k.2), (102, true, .int .i64 (p.1.kids.length : Int)), (103, true, .int .i64 (j : Int))])
    (fun _ => Cls [blk bx 28 [.int .i64 p.1.op, .int .i64 p.1.n, .slice p.2.b.1 p.1.binds.length p.2.b.2, .slice p.2.k.1 p.1.kids.length p.2.k.2, .slice p.2.a.1 p.1.alts.length p.2.a.2]] [w]) 0 ⟨by omega, by simp [txts]⟩ (by simp only [List.take_zero, txts, List.append_nil]; exact Sub.au) (fun w' hw' => hw') ?_
  rintro j ⟨hj, htl⟩
  apply W.sr
  apply obn; rfl; rfl; rfl; apply Bin.lss
  apply OL.nx
  apply W.seq
  (refine W.cnd (fun hlt3 => ?_) (fun hlt3 => ?_)) <;> (try (exfalso; first | omega | exact hlt3 trivial | contradiction))
  · have hjl : j < p.1.kids.length := by omega
    obtain ⟨ak, k, hqk, habk, hk, hck⟩ := hx.k.get hjl
    have habk : ak.block < w.heap.size := habk
    have hkr := hdn i _ hpe k (List.mem_of_getElem? hk)
    obtain ⟨kn, rfl⟩ : ∃ kn : Nat, k = (kn : Int) := ⟨k.toNat, by omega⟩
    have hx2 : ExOk w (low w) p.1 ⟨p.2.b, (some ak, p.2.k.2), p.2.a⟩ := ⟨hx.op, hx.n, hx.bl, hx.kl, hx.al, hx.bc, hx.kc, hx.ac, hx.b, (by rw [← hqk]; exact hx.k), hx.a⟩
    have hScl : (scopeX p.1 j).length ≤ 16 := by
      unfold scopeX bound
      split
      · exact hLb
      · split
        · rename_i h5
          refine hL.ab _ ?_
          rw [List.getD_eq_getElem?_getD, List.getElem?_eq_getElem (by omega)]
          exact List.getElem_mem _
        · simp
    obtain ⟨qs, cs, hIs, hsl, hscall⟩ := Scope_calls p.1 ⟨p.2.b, (some ak, p.2.k.2), p.2.a⟩ j w hx2 (fun h => by have := hsk.1 h; omega) hsk.2.1 (by omega)
    obtain ⟨Bl, hBl⟩ : ∃ Bl, bindersX p.1 = Bl := ⟨_, rfl⟩
    obtain ⟨Sc, hSc⟩ : ∃ Sc, scopeX p.1 j = Sc := ⟨_, rfl⟩
    rw [hBl] at hbx
    rw [hSc] at hIs hsl hscall hScl
    have hvis : vis p.1.op p.1.binds p.1.alts j = Bl.map (mskF Sc) := by rw [← hBl, ← hSc]; rfl
    rw [hqk]
    apply W.sk
    apply W.sb
    apply W.sr
    apply omv; rfl; rfl
    apply oop; rfl; apply Pev.idx; rfl; exact yes; rfl; exact yes; rfl; rfl; intro hcond; omega
    apply oop; rfl; apply Pev.load_kept; rfl; exact yes; exact .head _; rfl; intro hcond; assumption; intro hcond; (rw [add_block]; assumption); intro hcond; exact NotOwned.au
    apply oas; rfl; rfl
    apply oas; rfl; rfl
    apply OL.nx
    apply W.seq
    apply W.regz; apply ZSplit.pure rfl; apply ZSplit.tail; apply ZSplit.pure rfl; apply ZSplit.tail; apply ZSplit.tail; apply ZSplit.tail; exact ZSplit.nil; kernel_rfl; decide +kernel; exact fun w hw => hw.drew
    apply ZL.op rfl; exact Guard.none; rfl; rfl; apply Pev.move; rfl; exact yes
    apply ZL.ld rfl; exact Guard.none; rfl; rfl; apply Pev.load_blkA; rfl; exact yes; exact .head _; rfl; exact Take.au
    apply ZL.nil
    apply TL.one rfl
    refine OL.cls (fun w' hw' => hw'.row_nil w.heap.size 3 1) ?_
    (apply OL.appendK (news := ints na)); rfl; rfl; rfl; rfl; (exact Hole.au); (exact fun w2 hw2 => (hIn.at hw2 (.head _) (fun k hk => by exact NotOwned.au)).slAt); (rw [ints_length, Nat.mul_one]); (exact ints_oneL _); (exact ⟨w, .head _, Nat.le_refl _⟩); (omega); (intro O1 q2 c2)
    simp only [Nat.zero_add, List.nil_append]
    refine OL.nil (At.tk (fun w9 hw9 => Cls.thin hw9 (.any (fun k hk => ⟨hk.1, trivial⟩) Thin.same)) ?_)
    apply TL.one rfl
    refine OL.callE (α := (Option Addr × Nat) × Nat × Nat) (fun z => .slice z.1.1 Bl.length z.1.2) (fun z => w.heap.size ≤ z.2.1) (fun z => Cls (pile z.2.1 (fun k => k < z.2.2) [⟨z.1.1, z.1.2, ints Bl⟩] :: row w.heap.size O1 q2 na.length c2 3 1 (ints na) :: blk bx 28 [.int .i64 p.1.op, .int .i64 p.1.n, .slice p.2.b.1 p.1.binds.length p.2.b.2, .slice (some ak) p.1.kids.length p.2.k.2, .slice p.2.a.1 p.1.alts.length p.2.a.2] :: []) [w]) rfl rfl (by exact Args.au) (fun w2 hw2 => (Binds_calls p.1 ⟨p.2.b, (some ak, p.2.k.2), p.2.a⟩ w2 (hx2.at hw2 (by exact mau) (fun k hk => by exact NotOwned.au)) hLb hLa hL.ab).mono (fun e1 w3 ⟨q1, c1, h1, h2, h3, _⟩ => ⟨((q1, c1), w2.heap.size, w3.heap.size), by rw [h1, hBl], (hw2.kp w (.head _)).size, by rw [hBl] at h3; exact hw2.pile1 h2 h3⟩)) ?_
    rintro ⟨⟨q3, c3⟩, lo3, hi3⟩ hlo3
    simp only at hlo3 ⊢
    apply OL.nil
    with_reducible apply At.tn; decide +kernel
    apply TL.one rfl
    (apply OL.appendK (news := ints Bl)); rfl; rfl; rfl; rfl; (exact Hole.au); (exact fun w2 hw2 => pile_at (hw2.item (.head _)) (.head _)); (rw [ints_length, Nat.mul_one]); (exact ints_oneL _); (exact ⟨w, .head _, Nat.le_refl _⟩); (omega); (intro O4 q4 c4)
    rw [← ints_append, ← List.length_append]
    apply OL.nil
    with_reducible apply At.tn; decide +kernel
    apply TL.one rfl
    apply oas; rfl; rfl
    apply OL.nil
    with_reducible apply At.tn; decide +kernel
    apply TL.nil
    with_reducible apply At.np
    with_reducible apply At.next
    apply W.seq
    apply W.sr
    apply oop; rfl; apply Pev.load_blkA; rfl; exact yes; exact .tail _ (.tail _ (.head _)); rfl; exact Take.au
    apply omv; rfl; rfl
    (((first | (with_reducible apply OL.op) | (with_reducible apply QL.op)); (exact Guard.au); rfl; rfl); (exact Pev.call (v := .slice qs Sc.length cs) rfl (by exact Args.au) (fun _ w2 hw2 => (hscall w2 (hw2.same (.head _) (fun k hk => by exact NotOwned.au)) (hw2.kp w (.head _)).size).mono (fun e1 w3 h => ⟨h.1, hw2.ext h.2⟩))))
    apply oas; rfl; rfl
    apply OL.nsr
    apply omv; rfl; rfl
    apply oop; rfl; apply Pev.len_slice; rfl; exact yes; rfl
    apply obn; rfl; rfl; rfl; apply Bin.eql
    apply OL.nx
    refine W.joinx (G := KP) (fun g => w.heap.size ≤ g.B) (fun g => [(0, true, .slice (some a) es.length cap), (2, true, .slice g.q (na ++ vis p.1.op p.1.binds p.1.alts j).length g.c), (7, true, .pointer (some ⟨bx, 0, none⟩)), (8, true, .string (bs (P3 ++ txts (ks.take j)))), (13, true, .slice qn na.length cn), (15, true, .int .i64 (kn : Int)), (101, true, .slice (some ak) p.1.kids.length p.2.k.2), (102, true, .int .i64 (p.1.kids.length : Int)), (103, true, .int .i64 (j : Int))]) (fun g => Cls [pile g.B g.O [⟨g.q, g.c, ints (na ++ vis p.1.op p.1.binds p.1.alts j)⟩], blk bx 28 [.int .i64 p.1.op, .int .i64 p.1.n, .slice p.2.b.1 p.1.binds.length p.2.b.2, .slice (some ak) p.1.kids.length p.2.k.2, .slice p.2.a.1 p.1.alts.length p.2.a.2]] [w]) ?_ ?_
    · (refine W.cnd (fun hz => ?_) (fun hz => ?_)) <;> (try (exfalso; first | omega | exact hz trivial | contradiction))
      · have hSc0 : Sc = [] := List.eq_nil_of_length_eq_zero (by omega)
        have hrep : na ++ vis p.1.op p.1.binds p.1.alts j = na ++ List.replicate Bl.length (-1) := by
          rw [hvis, hSc0]
          congr 1
          refine List.ext_getElem (by simp) fun k h1 h2 => ?_
          simp [mskF]
        refine W.cls (fun w' hw' => hw'.thin (.any (fun k hk => ⟨Nat.le_trans hlo3 hk.1, trivial⟩) (.any (fun k hk => ⟨hk.1, trivial⟩) Thin.same))) ?_
        apply W.regz; apply ZSplit.pure rfl; apply ZSplit.tail; apply ZSplit.pure rfl; apply ZSplit.tail; apply ZSplit.tail; apply ZSplit.tail; apply ZSplit.tail; apply ZSplit.tail; exact ZSplit.nil; kernel_rfl; decide +kernel; exact fun w hw => hw.drew
        apply ZL.op rfl; exact Guard.none; rfl; rfl; apply Pev.move; rfl; exact yes
        apply ZL.ld rfl; exact Guard.none; rfl; rfl; apply Pev.load_blkA; rfl; exact yes; exact .head _; rfl; exact Take.au
        apply ZL.nil
        apply TL.one rfl
        refine OL.cls (fun w' hw' => hw'.row_nil w.heap.size 3 1) ?_
        (apply OL.appendK (news := ints na)); rfl; rfl; rfl; rfl; (exact Hole.au); (exact fun w2 hw2 => (hIn.at hw2 (.head _) (fun k hk => by exact NotOwned.au)).slAt); (rw [ints_length, Nat.mul_one]); (exact ints_oneL _); (exact ⟨w, .head _, Nat.le_refl _⟩); (omega); (intro O5 q5 c5)
        simp only [Nat.zero_add, List.nil_append]
        refine OL.nil (At.tk (fun w9 hw9 => Cls.thin hw9 (.any (fun k hk => ⟨hk.1, trivial⟩) Thin.same)) ?_)
        apply TL.one rfl
        refine OL.callE (α := Option Addr × Nat) (fun z => .slice z.1 Bl.length z.2) (fun _ => True) (fun _ => Cls (row w.heap.size O5 q5 na.length c5 3 1 (ints na) :: blk bx 28 [.int .i64 p.1.op, .int .i64 p.1.n, .slice p.2.b.1 p.1.binds.length p.2.b.2, .slice (some ak) p.1.kids.length p.2.k.2, .slice p.2.a.1 p.1.alts.length p.2.a.2] :: []) [w]) rfl rfl (by exact Args.au) (fun w2 hw2 => (Binds_calls p.1 ⟨p.2.b, (some ak, p.2.k.2), p.2.a⟩ w2 (hx2.at hw2 (by exact mau) (fun k hk => by exact NotOwned.au)) hLb hLa hL.ab).mono (fun e1 w3 ⟨q1, c1, h1, h2, h3, _⟩ => ⟨(q1, c1), by rw [h1, hBl], trivial, hw2.ext h2⟩)) ?_
        rintro ⟨q6, c6⟩ -
        simp only
        apply OL.nil
        with_reducible apply At.tn; decide +kernel
        apply TL.one rfl
        apply oop; rfl; apply Pev.len_slice; rfl; exact yes; rfl
        apply OL.nil
        with_reducible apply At.tn; decide +kernel
        apply TL.one rfl
        refine OL.callE (α := (Option Addr × Nat) × Nat × Nat) (fun z => .slice z.1.1 Bl.length z.1.2) (fun z => w.heap.size ≤ z.2.1) (fun z => Cls (pile z.2.1 (fun k => k < z.2.2) [⟨z.1.1, z.1.2, ints (List.replicate Bl.length (-1))⟩] :: row w.heap.size O5 q5 na.length c5 3 1 (ints na) :: blk bx 28 [.int .i64 p.1.op, .int .i64 p.1.n, .slice p.2.b.1 p.1.binds.length p.2.b.2, .slice (some ak) p.1.kids.length p.2.k.2, .slice p.2.a.1 p.1.alts.length p.2.a.2] :: []) [w]) rfl rfl (by exact Args.au) (fun w2 hw2 => (hidden_calls Bl.length w2 (by omega)).mono (fun e1 w3 ⟨q1, c1, h1, h2, h3⟩ => ⟨((q1, c1), w2.heap.size, w3.heap.size), h1, (hw2.kp w (.head _)).size, hw2.pile1 h2 h3⟩)) ?_
        rintro ⟨⟨q7, c7⟩, lo7, hi7⟩ hlo7
        simp only at hlo7 ⊢
        apply OL.nil
        with_reducible apply At.tn; decide +kernel
        apply TL.one rfl
        (apply OL.appendK (news := ints (List.replicate Bl.length (-1)))); rfl; rfl; rfl; rfl; (exact Hole.au); (exact fun w2 hw2 => pile_at (hw2.item (.head _)) (.head _)); (rw [ints_length, List.length_replicate, Nat.mul_one]); (exact ints_oneL _); (exact ⟨w, .head _, Nat.le_refl _⟩); (omega); (intro O8 q8 c8)
        rw [← ints_append, show na.length + Bl.length = (na ++ List.replicate Bl.length (-1)).length by simp, ← hrep]
        apply OL.nil
        with_reducible apply At.tn; decide +kernel
        apply TL.one rfl
        apply oas; rfl; rfl
        apply OL.nil
        with_reducible apply At.tn; decide +kernel
        apply TL.nil
        with_reducible apply At.np
        refine At.joinedx ⟨w.heap.size, (fun k => O8 k ∨ False), q8, c8⟩ (Nat.le_refl _) (by exact Sub.au) (fun w' hw' => ?_)
        have h1 := hw'.thin (.any (fun k hk => ⟨Nat.le_trans hlo7 hk.1, trivial⟩) Thin.same)
        exact ((h1.pile_nil w.heap.size).flip).pile_push
      · apply W.reg
        apply omv; rfl; rfl
        apply omv; rfl; rfl
        apply oop; rfl; apply Pev.len_slice; rfl; exact yes; rfl
        apply omv; rfl; rfl
        refine OL.callE (α := (Option Addr × Nat) × Nat × Nat) (fun z => .slice z.1.1 (na ++ Bl).length z.1.2) (fun z => w.heap.size ≤ z.2.1) (fun z => Cls (pile z.2.1 (fun k => k < z.2.2) [⟨z.1.1, z.1.2, ints (na ++ Bl.map (mskF Sc))⟩] :: pile lo3 (fun k => k < hi3) [⟨q3, c3, ints Bl⟩] :: row w.heap.size O4 q4 (na ++ Bl).length c4 3 1 (ints (na ++ Bl)) :: blk bx 28 [.int .i64 p.1.op, .int .i64 p.1.n, .slice p.2.b.1 p.1.binds.length p.2.b.2, .slice (some ak) p.1.kids.length p.2.k.2, .slice p.2.a.1 p.1.alts.length p.2.a.2] :: []) [w]) rfl rfl (by exact Args.au) (fun w2 hw2 => (masked_calls na Bl Sc q4 qs c4 cs w2 (by rw [List.length_append]; omega) (fun hl => SlAt.of_row (hw2.item (.tail _ (.head _))) (by rw [ints_length]; exact hl)) (hIs.at hw2 (by exact mau) (fun k hk => by exact NotOwned.au)) (by omega)).mono (fun e1 w3 ⟨q1, c1, h1, h2, h3⟩ => ⟨((q1, c1), w2.heap.size, w3.heap.size), h1, (hw2.kp w (.head _)).size, hw2.pile1 h2 h3⟩)) ?_
        rintro ⟨⟨q9, c9⟩, lo9, hi9⟩ hlo9
        simp only at hlo9 ⊢
        rw [← hvis, show (na ++ Bl).length = (na ++ vis p.1.op p.1.binds p.1.alts j).length by rw [hvis]; simp]
        apply oas; rfl; rfl
        apply OL.nil
        refine At.joinedx ⟨lo9, (fun k => k < hi9), q9, c9⟩ hlo9 (by exact Sub.au) (fun w' hw' => ?_)
        exact hw'.thin (.keep (.any (fun k hk => ⟨Nat.le_trans hlo3 hk.1, trivial⟩) (.any (fun k hk => ⟨hk.1, trivial⟩) Thin.same)))
    rintro ⟨Bj, Oj, qj, cj⟩ hBj
    simp only at hBj ⊢
    have hvl : (na ++ vis p.1.op p.1.binds p.1.alts j).length = na.length + Bl.length := by rw [hvis]; simp
    have hkc := hkget hk
    have hkt : (p.1.kids.map fun k => grow e k.toNat)[j]? = some (grow e kn) := by rw [List.getElem?_map, hk]; simp
    have g1 := tszs_take_succ hkt
    have g2 := tszs_take_le (ts := p.1.kids.map fun k => grow e k.toNat) (i := j + 1)
    have hts : tszs (p.1.kids.map fun k => grow e k.toNat) ≤ 4096 := by
      have h1 := tsz_le hok.tree.tree (a := i) (by omega)
      rw [grow_eq hdn hpe, tsz] at h1
      omega
    apply W.reg
    apply omv; rfl; rfl
    apply omv; rfl; rfl
    apply omv; rfl; rfl
    apply omv; rfl; rfl
    refine OL.callE (α := Unit) (fun _ => .string (bs (txt (canon (grow e kn) (na ++ vis p.1.op p.1.binds p.1.alts j))))) (fun _ => (txt (canon (grow e kn) (na ++ vis p.1.op p.1.binds p.1.alts j))).length ≤ 200000 * tsz (grow e kn)) (fun _ => Cls [pile Bj Oj [⟨qj, cj, ints (na ++ vis p.1.op p.1.binds p.1.alts j)⟩], blk bx 28 [.int .i64 p.1.op, .int .i64 p.1.n, .slice p.2.b.1 p.1.binds.length p.2.b.2, .slice (some ak) p.1.kids.length p.2.k.2, .slice p.2.a.1 p.1.alts.length p.2.a.2]] [w]) rfl rfl (by exact Args.au) (fun w2 hw2 => (ih kn (by omega) (by omega) (na ++ vis p.1.op p.1.binds p.1.alts j) qj cj w2 (he.at hw2 (by exact mau) (fun k hk => by exact NotOwned.au)) (fun hl => pile_at (hw2.item (.head _)) (.head _) (by simp only [ints_length]; exact hl)) (by rw [hvl]; omega)).mono (fun e1 w3 ⟨h1, h2, h3⟩ => ⟨(), h1, h3, hw2.ext h2⟩)) ?_
    rintro - htk
    have s1 := bs_size (P3 ++ txts (ks.take j))
    rw [List.length_append] at s1
    have s2 := bs_size (txt (canon (grow e kn) (na ++ vis p.1.op p.1.binds p.1.alts j)))
    apply obn; rfl; rfl; rfl; apply Bin.str_add; omega
    apply oas; rfl; rfl
    apply OL.nil
    with_reducible apply At.in_normal
    with_reducible apply At.next
    apply W.reg
    apply obn; rfl; rfl; rfl; apply Bin.add_in; omega
    apply omv; rfl; rfl
    apply OL.nil
    rw [bs_append, List.append_assoc, ← txts_take hkc]
    skip
    refine At.again (j + 1) ⟨by omega, ?_⟩ (by omega) (by exact Sub.au) (fun w' hw' => hw'.thin (.any (fun k hk => ⟨Nat.le_trans hBj hk.1, trivial⟩) Thin.same))
    rw [txts_take hkc, List.length_append, g1]
    omega
  · obtain rfl : j = p.1.kids.length := by omega
    rw [← hksl, List.take_length] at htl ⊢
    have w1 := bs_size (P3 ++ txts ks)
    rw [List.length_append] at w1
    have w2 : (⟨#[41]⟩ : ByteArray).size = 1 := rfl
    have hts : tszs (p.1.kids.map fun k => grow e k.toNat) ≤ 4096 := by
      have h1 := tsz_le hok.tree.tree (a := i) (by omega)
      rw [grow_eq hdn hpe, tsz] at h1
      omega
    rw [show ks.length = (p.1.kids.map fun k => grow e k.toNat).length by rw [List.length_map, hksl], List.take_length] at htl
    refine W.xt ?_
    with_reducible apply At.next
    apply W.sr
    apply omv; rfl; rfl
    apply obn; rfl; rfl; rfl; apply Bin.str_add; omega
    apply oas; rfl; rfl
    apply OL.nx
    apply W.ret
    ((with_reducible apply At.fin1); rfl; rfl; intro w' hw')
    refine ⟨?_, by (exact hw'.fr), ?_⟩
    · rw [htx, show (⟨#[41]⟩ : ByteArray) = bs [41] from rfl, bs_append, List.append_assoc]
    · rw [htx, tsz]
      simp only [List.length_append, List.length_singleton]
      omega
theorem Alike_calls (es fs : List (Ex × ExY)) (q q2 : Option Addr) (cap cap2 : Nat) (w : World) (he : Arr exR w (low w) es q) (hf : Arr exR w (low w) fs q2) (hb : bodyE (es.map Prod.fst) [] false = 0) (hb2 : bodyE (fs.map Prod.fst) [] false = 0) :
    Calls Tryd.prog 23 [.slice q es.length cap, .slice q2 fs.length cap2].toArray w fun e w' => e = .returned (.bool (decide (txt (canon (grow (es.map Prod.fst) (es.length - 1)) []) = txt (canon (grow (fs.map Prod.fst) (fs.length - 1)) [])))) ∧ Ext w w' := by
  have hok := BodyOk.of hb
  have hok2 := BodyOk.of hb2
  have hl4 := hok.tree.len
  have hl42 := hok2.tree.len
  have hp := hok.tree.pos
  have hp2 := hok2.tree.pos
  rw [List.length_map] at hl4 hl42 hp hp2
  have e1 : (es.length : Int) - 1 = ((es.length - 1 : Nat) : Int) := by omega
  have e2 : (fs.length : Int) - 1 = ((fs.length - 1 : Nat) : Int) := by omega
  refine enter Tryd.func23 rfl Tryd.ntmps23 rfl (Cls.start w) ?_
  (simp only [argEnv, Nat.zero_add, Nat.reduceAdd])
  apply W.sr
  apply oas; rfl; rfl
  apply OL.nsr
  apply omv; rfl; rfl
  apply omv; rfl; rfl
  apply oop; rfl; apply Pev.len_slice; rfl; exact yes; rfl
  apply obn; rfl; rfl; rfl; apply Bin.sub_in; omega
  rw [e1]
  (((first | (with_reducible apply OL.op) | (with_reducible apply QL.op)); (exact Guard.au); rfl; rfl); (exact Pev.call (v := .string (bs (txt (canon (grow (es.map Prod.fst) (es.length - 1)) [])))) rfl (by exact Args.au) (fun _ w2 hw2 => (Text_calls es _ q cap rfl hb (es.length - 1) (by omega) [] none 0 w2 (he.at hw2 (by exact mau) (fun k hk => by exact NotOwned.au)) IntsO.nil (by simp only [List.length_nil]; omega)).mono (fun e w3 h => ⟨h.1, hw2.ext h.2.1⟩))))
  apply omv; rfl; rfl
  apply omv; rfl; rfl
  apply oop; rfl; apply Pev.len_slice; rfl; exact yes; rfl
  apply obn; rfl; rfl; rfl; apply Bin.sub_in; omega
  rw [e2]
  (((first | (with_reducible apply OL.op) | (with_reducible apply QL.op)); (exact Guard.au); rfl; rfl); (exact Pev.call (v := .string (bs (txt (canon (grow (fs.map Prod.fst) (fs.length - 1)) [])))) rfl (by exact Args.au) (fun _ w2 hw2 => (Text_calls fs _ q2 cap2 rfl hb2 (fs.length - 1) (by omega) [] none 0 w2 (hf.at hw2 (by exact mau) (fun k hk => by exact NotOwned.au)) IntsO.nil (by simp only [List.length_nil]; omega)).mono (fun e w3 h => ⟨h.1, hw2.ext h.2.1⟩))))
  apply obn; rfl; rfl; rfl; apply Bin.str_eql
  apply oas; rfl; rfl
  apply OL.nx
  apply W.ret
  ((with_reducible apply At.fin1); rfl; rfl; intro w' hw')
  exact ⟨by simp only [bs_inj], by (exact hw'.fr)⟩
end Go.Proofs.YtlboppiogeaicaaDoor.co

/- The walks of the reference's Below and Count, and of its builder of small expressions. Conditions: none. -/
namespace Go.Proofs.YtlboppiogeaicaaDoor.co
open Go.RowKit Go.Eng Go.Co
set_option linter.unusedVariables false
set_option linter.unusedSimpArgs false
set_option maxRecDepth 100000
theorem Below_calls (es : List (Ex × ExY)) (q : Option Addr) (cap n : Nat) (w : World) (he : Arr exR w (low w) es q) (hlen : es.length ≤ 4096) (hn : n < es.length) (hd : Down (es.map Prod.fst)) :
    Calls Tryd.prog 43 [.slice q es.length cap, .int .i64 (n : Int)].toArray w fun e w' => ∃ q' B, e = .returned (.slice q' es.length es.length) ∧ Ext w w' ∧ BI (es.map Prod.fst) n B 0 0 ∧ BlsO w' (low w') B q' := by
  obtain ⟨e, hee⟩ : ∃ e, es.map Prod.fst = e := ⟨_, rfl⟩
  have hel : e.length = es.length := by rw [← hee, List.length_map]
  rw [hee] at hd ⊢
  have hget : ∀ {i : Nat}, i < es.length → ∃ a p, q = some a ∧ a.block < w.heap.size ∧ es[i]? = some p ∧ e[i]? = some p.1 ∧ CellsAt w (a.add (i * 5)) [.int .i64 p.1.op, .int .i64 p.1.n, .slice p.2.b.1 p.1.binds.length p.2.b.2, .slice p.2.k.1 p.1.kids.length p.2.k.2, .slice p.2.a.1 p.1.alts.length p.2.a.2] ∧ ExOk w (low w) p.1 p.2 := fun {i} hi => by
    obtain ⟨a, p, h1, h2, h3, h4, h5⟩ := he.get hi
    exact ⟨a, p, h1, h2, h3, by rw [← hee, List.getElem?_map, h3]; rfl, h4, h5⟩
  refine enter Tryd.func43 rfl Tryd.ntmps43 rfl (Cls.start w) ?_
  (simp only [argEnv, Nat.zero_add, Nat.reduceAdd])
  apply W.sr
  apply oas; rfl; rfl
  apply OL.nsr
  apply omv; rfl; rfl
  apply oop; rfl; apply Pev.len_slice; rfl; exact yes; rfl
  apply OL.makeSlice; rfl; rfl; rfl; rfl; rfl; rfl; rfl; omega; (intro bk hbk; simp only [AllLe, and_true] at hbk)
  apply oas; rfl; rfl
  apply OL.nsr
  apply omv; rfl; rfl
  apply omv; rfl; rfl
  apply oop; rfl; apply Pev.idxB; rfl; exact yes; rfl; exact yes; rfl; intro hcond; omega; rfl
  revert bk
  intro bp hbp
  rw [bls_zero]
  (apply OL.storeI); rfl; rfl; rfl; rfl; rfl; (exact Swap.au); (rw [bls_length, List.length_replicate]; omega)
  have hset0 : (bls (List.replicate es.length false)).set (0 + (n : Int).toNat * 1) (.bool true) = bls ((List.replicate es.length false).set n true) := by
    rw [show 0 + (n : Int).toNat * 1 = n by simp, bls_set]
  rw [hset0]
  apply OL.nx
  apply W.seq
  apply W.sr
  apply omv; rfl; rfl
  apply oas; rfl; rfl
  apply OL.nx
  apply W.block
  refine W.loop (G := Nat × List Bool) (fun g => g.1 ≤ n + 1 ∧ BI e n g.2 g.1 0) (fun g => g.1)
    (fun g => [(0, true, .slice q es.length cap), (5, true, .slice (some ⟨bp, 0, none⟩) es.length es.length), (6, true, .int .i64 ((g.1 : Int) - 1))])
    (fun g => Cls [blk bp 4 (bls g.2)] [w]) (n + 1, (List.replicate es.length false).set n true) ⟨by simp, by rw [← hel]; exact BI.start hd (by omega)⟩ (by (repeat (first | exact Sub.nil | apply Sub.cons rfl | (refine Sub.cons_eq rfl (congrArg (Value.int .i64) (by first | omega | (simp only; omega))) ?_) | (refine Sub.cons_eq rfl (congrArg Value.bool ?_) ?_; rotate_left))); all_goals first | omega | rfl) (fun w' hw' => hw') ?_
  rintro ⟨i1, B⟩ ⟨hi1, hB⟩
  simp only at hi1 hB ⊢
  apply W.seq
  apply W.sr
  apply omv; rfl; rfl
  apply obn; rfl; rfl; rfl; apply Bin.geq
  apply OL.nx
  (refine W.cnd (fun hge => ?_) (fun hge => ?_)) <;> (try (exfalso; first | omega | exact hge trivial | contradiction))
  · obtain ⟨i, rfl⟩ : ∃ i : Nat, i1 = i + 1 := ⟨i1 - 1, by omega⟩
    have hii : ((i + 1 : Nat) : Int) - 1 = (i : Int) := by omega
    rw [hii]
    have hil : i < es.length := by omega
    obtain ⟨a, p, rfl, hab, hp, hpe, hcell, hok⟩ := hget hil
    have hkl := hok.kl
    have hdn := hd i _ hpe
    have hcell : CellsAt w (a.add ((i : Int).toNat * 5)) [.int .i64 p.1.op, .int .i64 p.1.n, .slice p.2.b.1 p.1.binds.length p.2.b.2, .slice p.2.k.1 p.1.kids.length p.2.k.2, .slice p.2.a.1 p.1.alts.length p.2.a.2] := by rw [Int.toNat_natCast]; exact hcell
    apply W.sk
    apply W.sb
    apply W.sr
    apply omv; rfl; rfl
    apply omv; rfl; rfl
    apply oop; rfl; apply Pev.idx; rfl; exact yes; rfl; exact yes; rfl; rfl; intro hcond; omega
    apply oop; rfl; apply Pev.fldA; rfl; exact yes; rfl
    apply oop; rfl; apply Pev.load_kept; rfl; exact yes; exact .head _; rfl; intro hcond; apply CellsAt.at_ (by assumption) rfl; intro hcond; (simp only [add_block]; assumption); intro hcond; exact NotOwned.au
    apply oop; rfl; apply Pev.len_slice; rfl; exact yes; rfl
    apply omv; rfl; rfl
    apply OL.nx
    apply W.block
    refine W.loop (G := Nat × List Bool) (fun g => g.1 ≤ p.1.kids.length ∧ BI e n g.2 (i + 1) g.1) (fun g => p.1.kids.length - g.1)
      (fun g => [(0, true, .slice (some a) es.length cap), (5, true, .slice (some ⟨bp, 0, none⟩) es.length es.length), (6, true, .int .i64 (i : Int)), (24, true, .slice p.2.k.1 p.1.kids.length p.2.k.2), (25, true, .int .i64 (p.1.kids.length : Int)), (26, true, .int .i64 (g.1 : Int))])
      (fun g => Cls [blk bp 4 (bls g.2)] [w]) (0, B) ⟨by simp, hB⟩ (by exact Sub.au) (fun w' hw' => hw') ?_
    rintro ⟨j, B2⟩ ⟨hj, hB2⟩
    simp only at hj hB2 ⊢
    have hBl : B2.length = es.length := by rw [hB2.len, hel]
    apply W.sr
    apply obn; rfl; rfl; rfl; apply Bin.lss
    apply OL.nx
    apply W.seq
    (refine W.cnd (fun hlt2 => ?_) (fun hlt2 => ?_)) <;> (try (exfalso; first | omega | exact hlt2 trivial | contradiction))
    · have hjl : j < p.1.kids.length := by omega
      obtain ⟨ak, k, hqk, habk, hk, hck⟩ := hok.k.get hjl
      have habk : ak.block < w.heap.size := habk
      have hkr := hdn k (List.mem_of_getElem? hk)
      obtain ⟨kn, rfl⟩ : ∃ kn : Nat, k = (kn : Int) := ⟨k.toNat, by omega⟩
      obtain ⟨u, hu⟩ : ∃ u, B2[kn]? = some u := ⟨_, List.getElem?_eq_getElem (by omega)⟩
      obtain ⟨v, hv⟩ : ∃ v, B2[i]? = some v := ⟨_, List.getElem?_eq_getElem (by omega)⟩
      have hbk : (bls B2)[0 + (kn : Int).toNat * 1]? = some (.bool u) := by
        have h1 := bls_get hu
        simpa using h1
      have hbi : (bls B2)[0 + (i : Int).toNat * 1]? = some (.bool v) := by
        have h1 := bls_get hv
        simpa using h1
      rw [hqk]
      apply W.sk
      apply W.sb
      apply W.sr
      apply oop; rfl; apply Pev.idx; rfl; exact yes; rfl; exact yes; rfl; rfl; intro hcond; omega
      apply oop; rfl; apply Pev.load_kept; rfl; exact yes; exact .head _; rfl; intro hcond; assumption; intro hcond; (rw [add_block]; assumption); intro hcond; exact NotOwned.au
      apply oas; rfl; rfl
      apply OL.nx
      apply W.reg
      apply omv; rfl; rfl
      apply omv; rfl; rfl
      apply omv; rfl; rfl
      apply omv; rfl; rfl
      apply oop; rfl; apply Pev.idxB; rfl; exact yes; rfl; exact yes; rfl; intro hcond; omega; rfl
      apply oop; rfl; apply Pev.load_blk; rfl; exact yes; exact .head _; rfl; assumption
      apply omv; rfl; rfl
      apply ono; rfl; rfl; rfl; apply Pev.move; rfl; exact yes
      apply ono; rfl; rfl; rfl; apply Pev.move; rfl; exact yes
      apply ono; rfl; rfl; rfl; apply Pev.idxB; rfl; exact fun h => h; rfl; exact fun h => h; rfl; intro hcond; omega; rfl
      apply ono; rfl; rfl; rfl; apply Pev.load_blk; rfl; exact fun h => h; exact .head _; rfl; assumption
      apply oop; rfl; apply Pev.pick_or; rfl; exact yes; rfl; exact fun h => h
      apply oop; rfl; apply Pev.idxB; rfl; exact yes; rfl; exact yes; rfl; intro hcond; omega; rfl
      (apply OL.storeI); rfl; rfl; rfl; rfl; rfl; (exact Swap.au); (rw [bls_length]; omega)
      have hset : (bls B2).set (0 + (kn : Int).toNat * 1) (.bool (u || v)) = bls (B2.set kn (u || v)) := by
        rw [show 0 + (kn : Int).toNat * 1 = kn by simp, bls_set]
      rw [hset]
      apply OL.nil
      with_reducible apply At.in_normal
      with_reducible apply At.next
      apply W.reg
      apply obn; rfl; rfl; rfl; apply Bin.add_in; omega
      apply omv; rfl; rfl
      apply OL.nil
      exact At.again (j + 1, B2.set kn (u || v)) ⟨by simp only; omega, hB2.step hd hpe hk hu hv⟩ (by simp only; omega) (by exact Sub.au) (fun w' hw' => hw')
    · obtain rfl : j = p.1.kids.length := by omega
      refine W.xt ?_
      with_reducible apply At.in_normal
      with_reducible apply At.next
      apply W.reg
      apply omv; rfl; rfl
      apply obn; rfl; rfl; rfl; apply Bin.sub_in; omega
      apply oas; rfl; rfl
      apply OL.nil
      exact At.again (i, B2) ⟨by simp only; omega, hB2.next hpe⟩ (by simp only; omega) (by exact Sub.au) (fun w' hw' => hw')
  · obtain rfl : i1 = 0 := by omega
    refine W.xt ?_
    with_reducible apply At.next
    apply W.sr
    apply omv; rfl; rfl
    apply oas; rfl; rfl
    apply OL.nx
    apply W.ret
    ((with_reducible apply At.fin1); rfl; rfl; intro w' hw')
    refine ⟨_, B, rfl, by (exact hw'.fr), hB, fun hl => ?_⟩
    have hb : (blk bp 4 (bls B)).holds w' := hw'.item (.head _)
    refine ⟨⟨bp, 0, none⟩, rfl, blk_lt hb, fun j v hj => ?_⟩
    rw [add_mid, blk_cell hb, Nat.zero_add]
    exact hj
theorem RCount_calls (es : List (Ex × ExY)) (q : Option Addr) (cap n : Nat) (w : World) (he : Arr exR w (low w) es q) (hlen : es.length ≤ 4096) (hn : n < es.length) (ht : IsTree (es.map Prod.fst)) :
    Calls Tryd.prog 16 [.slice q es.length cap, .int .i64 (n : Int)].toArray w fun e w' => e = .returned (.int .i64 (tsz (grow (es.map Prod.fst) n) : Int)) ∧ Ext w w' := by
  refine enter Tryd.func16 rfl Tryd.ntmps16 rfl (Cls.start w) ?_
  (simp only [argEnv, Nat.zero_add, Nat.reduceAdd])
  apply W.sr
  apply oas; rfl; rfl
  apply OL.nsr
  apply oas; rfl; rfl
  apply OL.nx
  apply W.seq
  apply W.sr
  apply omv; rfl; rfl
  apply omv; rfl; rfl
  refine OL.callE (α := (Option Addr × List Bool) × World) (fun z => .slice z.1.1 es.length es.length) (fun z => BI (es.map Prod.fst) n z.1.2 0 0 ∧ BlsO z.2 (low z.2) z.1.2 z.1.1) (fun z => Cls [] [z.2, w]) rfl rfl (by exact Args.au) (fun w2 hw2 => (Below_calls es q cap n w2 (he.at hw2 (by exact mau) (fun k hk => by exact NotOwned.au)) hlen hn ht.down).mono (fun e1 w3 ⟨q', B, h1, h2, h3, h4⟩ => ⟨((q', B), w3), h1, ⟨h3, h4⟩, (hw2.ext h2).note⟩)) ?_
  rintro ⟨⟨qb, B⟩, w3⟩ ⟨hB, hO⟩
  simp only at hB hO ⊢
  have hBl : B.length = es.length := by rw [hB.len, List.length_map]
  have hct : ∀ i, (B.take i).count true ≤ 4096 := fun i => by
    have := List.count_le_length (a := true) (l := B.take i)
    rw [List.length_take] at this
    omega
  apply oop; rfl; apply Pev.len_slice; rfl; exact yes; rfl
  apply omv; rfl; rfl
  apply OL.nx
  apply W.block
  refine W.loop (G := Nat) (fun i => i ≤ es.length) (fun i => es.length - i)
    (fun i => [(5, true, .int .i64 (((B.take i).count true : Nat) : Int)), (10, true, .slice qb es.length es.length), (11, true, .int .i64 (es.length : Int)), (12, true, .int .i64 (i : Int))])
    (fun i => Cls [] [w3, w]) 0 (by omega) (by exact Sub.au) (fun w' hw' => hw') ?_
  rintro i hi
  have hci := hct i
  apply W.sr
  apply obn; rfl; rfl; rfl; apply Bin.lss
  apply OL.nx
  apply W.seq
  (refine W.cnd (fun hlt => ?_) (fun hlt => ?_)) <;> (try (exfalso; first | omega | exact hlt trivial | contradiction))
  · have hil : i < es.length := by omega
    obtain ⟨a, u, rfl, hab, hu, hcell⟩ := hO.get (show i < B.length by omega)
    have hab : a.block < w3.heap.size := hab
    have hc := count_take hu
    apply W.sk
    apply W.sb
    apply W.sr
    apply oop; rfl; apply Pev.idx; rfl; exact yes; rfl; exact yes; rfl; rfl; intro hcond; omega
    apply oop; rfl; apply Pev.load_kept; rfl; exact yes; exact .head _; rfl; intro hcond; assumption; intro hcond; (rw [add_block]; assumption); intro hcond; exact NotOwned.au
    apply oas; rfl; rfl
    apply OL.nsr
    apply omv; rfl; rfl
    apply OL.nx
    refine W.cond rfl (fun hb => ?_) (fun hb => ?_)
    · rw [hb] at hc
      simp only [if_true] at hc
      apply W.reg
      apply omv; rfl; rfl
      apply obn; rfl; rfl; rfl; apply Bin.add_in; omega
      apply oas; rfl; rfl
      apply OL.nil
      with_reducible apply At.in_normal
      with_reducible apply At.next
      apply W.reg
      apply obn; rfl; rfl; rfl; apply Bin.add_in; omega
      apply omv; rfl; rfl
      apply OL.nil
      refine At.again (i + 1) (by omega) (by omega) (by exact Sub.au) (fun w' hw' => hw')
    · rw [hb] at hc
      simp only [Bool.false_eq_true, if_false] at hc
      apply W.skip
      with_reducible apply At.in_normal
      with_reducible apply At.next
      apply W.reg
      apply obn; rfl; rfl; rfl; apply Bin.add_in; omega
      apply omv; rfl; rfl
      apply OL.nil
      refine At.again (i + 1) (by omega) (by omega) (by exact Sub.au) (fun w' hw' => hw')
  · obtain rfl : i = es.length := by omega
    refine W.xt ?_
    with_reducible apply At.next
    apply W.sr
    apply omv; rfl; rfl
    apply oas; rfl; rfl
    apply OL.nx
    apply W.ret
    ((with_reducible apply At.fin1); rfl; rfl; intro w' hw')
    refine ⟨?_, hw'.fr (by exact mau)⟩
    rw [← hBl, List.take_length, count_tsz ht (by rw [List.length_map]; exact hn) hB]
end Go.Proofs.YtlboppiogeaicaaDoor.co

/- The reference's small builder of expressions: nodes in memory, and their list. Conditions: none. (Printed by nt.py.) -/
namespace Go.Eng
variable {α μ : Type} {R : Rel α μ} {O : Nat → Prop} {l : List (α × μ)}
/-- what another item owns comes to the finished things, with a thing that lies there -/
theorem Cls.pool_take {B : Nat} {j : Item} {H : List Item} {S : List World} {w : World} {x : α} {y : μ} (h : Cls (j :: pool R B O l :: H) S w) (hj : ∀ k, j.own k → B ≤ k) (hx : R.ok w (fun k => B ≤ k ∧ (O k ∨ j.own k)) x y) :
    Cls (pool R B (fun k => O k ∨ j.own k) (l ++ [(x, y)]) :: H) S w := by
  have hd := List.pairwise_cons.1 h.dj
  have hd2 := List.pairwise_cons.1 hd.2
  have hp := h.holds _ (.tail _ (.head _))
  refine ⟨fun i hi => ?_, fun i hi k hk => ?_, List.pairwise_cons.2 ⟨fun i hi k hk hik => ?_, hd2.2⟩, fun s hs => (h.kp s hs).mono ?_⟩
  · rcases List.mem_cons.1 hi with rfl | hi
    · intro z hz
      rcases List.mem_append.1 hz with hz | hz
      · exact R.mono (fun k hk => ⟨hk.1, .inl hk.2⟩) (hp z hz)
      · obtain rfl := List.mem_singleton.1 hz
        exact hx
    · exact h.holds i (.tail _ (.tail _ hi))
  · rcases List.mem_cons.1 hi with rfl | hi
    · obtain ⟨h0, h1⟩ : B ≤ k ∧ (O k ∨ j.own k) := hk
      rcases h1 with h1 | h1
      · exact h.lt _ (.tail _ (.head _)) k ⟨h0, h1⟩
      · exact h.lt _ (.head _) k h1
    · exact h.lt i (.tail _ (.tail _ hi)) k hk
  · obtain ⟨h0, h1⟩ : B ≤ k ∧ (O k ∨ j.own k) := hk
    rcases h1 with h1 | h1
    · exact hd2.1 i hi k ⟨h0, h1⟩ hik
    · exact hd.1 i (.tail _ hi) k h1 hik
  · rintro k _ ⟨i, hi, hk⟩
    rcases List.mem_cons.1 hi with rfl | hi
    · exact ⟨_, .head _, hj k hk, .inr hk⟩
    · rcases List.mem_cons.1 hi with rfl | hi
      · exact ⟨_, .head _, hk.1, .inl hk.2⟩
      · exact ⟨i, .tail _ hi, hk⟩
end Go.Eng
namespace Go.Co
open Go.Eng Go.RowKit
set_option linter.unusedVariables false
set_option linter.unusedSimpArgs false
/-! ### a tree as a list -/
mutual
def lay : Tr → Nat → List Ex
  | .mk op n binds kids alts, s => lays kids s ++ [⟨op, n, binds, roots kids s, alts⟩]
def lays : List Tr → Nat → List Ex
  | [], _ => []
  | t :: r, s => lay t s ++ lays r (s + tsz t)
def roots : List Tr → Nat → List Int
  | [], _ => []
  | t :: r, s => (((s + tsz t : Nat) : Int) - 1) :: roots r (s + tsz t)
end
mutual
theorem lay_len : ∀ (t : Tr) (s : Nat), (lay t s).length = tsz t
  | .mk op n binds kids alts, s => by simp only [lay, tsz, List.length_append, List.length_singleton, lays_len kids s]
theorem lays_len : ∀ (ts : List Tr) (s : Nat), (lays ts s).length = tszs ts
  | [], _ => rfl
  | t :: r, s => by simp only [lays, tszs, List.length_append, lay_len t s, lays_len r _]
end
theorem lays_take : ∀ {ts : List Tr} {j s : Nat} {t : Tr}, ts[j]? = some t → lays (ts.take (j + 1)) s = lays (ts.take j) s ++ lay t (s + tszs (ts.take j))
  | [], _, _, _, h => by simp at h
  | u :: r, 0, s, t, h => by
    simp at h; subst h
    simp [lays, tszs]
  | u :: r, j + 1, s, t, h => by
    have ih := lays_take (ts := r) (j := j) (s := s + tsz u) (t := t) (by simpa using h)
    simp only [List.take_succ_cons, lays, tszs, ih, List.append_assoc, Nat.add_assoc]
theorem roots_take : ∀ {ts : List Tr} {j s : Nat} {t : Tr}, ts[j]? = some t → roots (ts.take (j + 1)) s = roots (ts.take j) s ++ [((s + tszs (ts.take j) + tsz t : Nat) : Int) - 1]
  | [], _, _, _, h => by simp at h
  | u :: r, 0, s, t, h => by
    simp at h; subst h
    simp only [List.take_succ_cons, List.take_zero, roots, tszs, Nat.add_zero, List.nil_append]
  | u :: r, j + 1, s, t, h => by
    have ih := roots_take (ts := r) (j := j) (s := s + tsz u) (t := t) (by simpa using h)
    simp only [List.take_succ_cons, roots, tszs, ih, List.cons_append, Nat.add_assoc]
theorem roots_len : ∀ (ts : List Tr) (s : Nat), (roots ts s).length = ts.length
  | [], _ => rfl
  | t :: r, s => by rw [roots, List.length_cons, roots_len, List.length_cons]
/-! ### nodes in memory -/
structure NdOk (w : World) (op n : Int) (binds : List Int) (kl : Nat) (alts : List Al) (y : ExY) : Prop where
  op : I64 op
  n : I64 n
  bl : binds.length ≤ 16
  al : alts.length ≤ 4096
  kl : kl ≤ 4096
  bc : binds.length ≤ y.b.2
  ac : alts.length ≤ y.a.2
  b : IntsO w (low w) binds y.b.1
  a : ArrP altR_ w (low w) alts y.a.1
mutual
def NodO (w : World) : Tr → Nat → Prop
  | .mk op n binds kids alts, b => ∃ y : ExY, b < w.heap.size ∧ CellsAt w ⟨b, 0, none⟩ [.int .i64 op, .int .i64 n, .slice y.b.1 binds.length y.b.2, .slice none 0 0, .slice y.a.1 alts.length y.a.2, .slice y.k.1 kids.length y.k.2] ∧ NdOk w op n binds kids.length alts y ∧ (0 < kids.length → ∃ a, y.k.1 = some a ∧ a.block < w.heap.size ∧ NodsO w kids a)
def NodsO (w : World) : List Tr → Addr → Prop
  | [], _ => True
  | t :: r, a => (∃ b, w.cell? a = some (.pointer (some ⟨b, 0, none⟩)) ∧ NodO w t b) ∧ NodsO w r (a.add 1)
end
mutual
theorem NodO.ext {w w' : World} (hs : w.heap.size ≤ w'.heap.size) (hk : ∀ k, k < w.heap.size → w'.heap[k]? = w.heap[k]?) : ∀ {t : Tr} {b : Nat}, NodO w t b → NodO w' t b
  | .mk op n binds kids alts, b, h => by
    simp only [NodO] at h ⊢
    obtain ⟨y, h1, h2, h3, h4⟩ := h
    refine ⟨y, by omega, cells_stab (hk _ h1) h2, ⟨h3.op, h3.n, h3.bl, h3.al, h3.kl, h3.bc, h3.ac, (h3.b.stab hk).mono fun k hk => Nat.lt_of_lt_of_le hk hs, (h3.a.stab hk).mono fun k hk => Nat.lt_of_lt_of_le hk hs⟩, fun hl => ?_⟩
    obtain ⟨a, ha, hb, hall⟩ := h4 hl
    exact ⟨a, ha, by omega, NodsO.ext hs hk hb hall⟩
theorem NodsO.ext {w w' : World} (hs : w.heap.size ≤ w'.heap.size) (hk : ∀ k, k < w.heap.size → w'.heap[k]? = w.heap[k]?) : ∀ {ts : List Tr} {a : Addr}, a.block < w.heap.size → NodsO w ts a → NodsO w' ts a
  | [], _, _, _ => by simp only [NodsO]
  | t :: r, a, hb, h => by
    simp only [NodsO] at h ⊢
    obtain ⟨⟨b, h1, h2⟩, h3⟩ := h
    exact ⟨⟨b, by rw [cell_heap (hk _ hb)]; exact h1, NodO.ext hs hk h2⟩, NodsO.ext hs hk (by rw [add_block]; exact hb) h3⟩
end
theorem NodO.at {w w' : World} {t : Tr} {b : Nat} {H : List Eng.Item} {S : List World} (h : NodO w t b) (hw : Cls H S w') (hs : w ∈ S) (hno : ∀ k, k < w.heap.size → NotOwned H k) : NodO w' t b :=
  h.ext (hw.kp w hs).size (hw.same hs hno)
theorem NodsO.get {w : World} : ∀ {ts : List Tr} {a : Addr} {i : Nat} {t : Tr}, NodsO w ts a → ts[i]? = some t → ∃ b, w.cell? (a.add (i * 1)) = some (.pointer (some ⟨b, 0, none⟩)) ∧ NodO w t b
  | [], _, _, _, _, h => by simp at h
  | u :: r, a, 0, t, h, hi => by
    simp only [NodsO] at h
    simp at hi; subst hi
    obtain ⟨b, h1, h2⟩ := h.1
    exact ⟨b, by rw [Nat.zero_mul, add_zero_]; exact h1, h2⟩
  | u :: r, a, i + 1, t, h, hi => by
    simp only [NodsO] at h
    obtain ⟨b, h1, h2⟩ := NodsO.get (i := i) h.2 (by simpa using hi)
    rw [add_add] at h1
    exact ⟨b, by rwa [show 1 + i * 1 = (i + 1) * 1 by omega] at h1, h2⟩
/-- a node of the list whose identifiers and alternatives lie in older memory -/
structure ExSOk (s0 w : World) (O : Nat → Prop) (x : Ex) (y : ExY) : Prop where
  n : NdOk s0 x.op x.n x.binds x.kids.length x.alts y
  kc : x.kids.length ≤ y.k.2
  k : IntsO w O x.kids y.k.1
def exS (s0 : World) : Rel Ex ExY where
  sz := 5
  pos := by decide
  cells := exC
  ok := ExSOk s0
  len := fun _ _ => rfl
  stab := fun hk h => ⟨h.n, h.kc, h.k.stab hk⟩
  mono := fun hk h => ⟨h.n, h.kc, h.k.mono hk⟩
theorem ExSOk.ok {s0 w : World} {x : Ex} {y : ExY} (h : ExSOk s0 w (low w) x y) (hs : s0.heap.size ≤ w.heap.size) (hk : ∀ k, k < s0.heap.size → w.heap[k]? = s0.heap[k]?) : ExOk w (low w) x y :=
  ⟨h.n.op, h.n.n, by have := h.n.bl; omega, by have := h.n.kl; omega, by have := h.n.al; omega, h.n.bc, h.kc, h.n.ac, (h.n.b.stab hk).mono fun k hk => Nat.lt_of_lt_of_le hk hs, h.k, (h.n.a.stab hk).mono fun k hk => Nat.lt_of_lt_of_le hk hs⟩
structure ST where
  l : List (Ex × ExY)
  O : Nat → Prop
  O2 : Nat → Prop
  q : Option Addr
  c : Nat
def ST.dummy (st : ST) (l : List Ex) : ST := ⟨st.l ++ l.map fun x => (x, ⟨(none, 0), (none, 0), (none, 0)⟩), fun _ => False, fun _ => False, none, 0⟩
theorem ST.dummy_map (st : ST) (l : List Ex) : (st.dummy l).l.map Prod.fst = st.l.map Prod.fst ++ l := by
  unfold ST.dummy
  rw [List.map_append, List.map_map]
  congr 1
  simp [Function.comp_def]
structure XI (S : List World) (st1 : ST) (t : Tr) where
  st : ST
  hst : st.l.map Prod.fst = st1.l.map Prod.fst ++ lay t st1.l.length
  b1 : Nat
  hb1 : AllLe S b1
  g1 : Nat
  c1 : Nat
  O1 : Nat → Prop
  old : Nat → Value
end Go.Co
namespace Go.Proofs.YtlboppiogeaicaaDoor.co
open Go.RowKit Go.Eng Go.Co
set_option linter.unusedVariables false
set_option linter.unusedSimpArgs false
set_option maxRecDepth 100000
set_option maxHeartbeats 1000000 in
theorem into_calls (s0 : World) (bo : Nat) (hbo : s0.heap.size ≤ bo) :
    ∀ (m : Nat) (t : Tr) (b : Nat) (st : ST) (H : List Eng.Item) (S : List World) (w : World), tsz t ≤ m → NodO s0 t b → st.l.length + tsz t ≤ 100000 → (∀ k, k < s0.heap.size → NotOwned H k) →
      Cls (blk bo 22 [.slice st.q st.l.length st.c] :: row s0.heap.size st.O st.q st.l.length st.c 28 5 (cat (exS s0).c st.l) :: pool (exS s0) s0.heap.size st.O2 st.l :: H) (s0 :: S) w →
      Calls Tryd.prog 42 [.pointer (some ⟨b, 0, none⟩), .pointer (some ⟨bo, 0, none⟩)].toArray w fun e w' => ∃ st' : ST, e = .returned (.int .i64 ((st'.l.length : Int) - 1)) ∧ st'.l.map Prod.fst = st.l.map Prod.fst ++ lay t st.l.length ∧ Cls (blk bo 22 [.slice st'.q st'.l.length st'.c] :: row s0.heap.size st'.O st'.q st'.l.length st'.c 28 5 (cat (exS s0).c st'.l) :: pool (exS s0) s0.heap.size st'.O2 st'.l :: H) (s0 :: S) w' := by
  intro m
  induction m with
  | zero =>
    intro t b st H S w hm
    obtain ⟨op, n, binds, kids, alts⟩ := t
    simp only [tsz] at hm
    omega
  | succ m ih =>
  intro t b st H S w hm ht hlen hno hc
  obtain ⟨op, n, binds, kids, alts⟩ := t
  simp only [NodO] at ht
  obtain ⟨y, hbs, hcells, hN, hks⟩ := ht
  have hcellI : ∀ {j : Nat} {v : Value}, ([.int .i64 op, .int .i64 n, .slice y.b.1 binds.length y.b.2, .slice none 0 0, .slice y.a.1 alts.length y.a.2, .slice y.k.1 kids.length y.k.2] : List Value)[j]? = some v → s0.cell? ⟨b, 0 + j, none⟩ = some v := fun {j v} hj => by
    have := hcells j v hj
    rwa [add_mid] at this
  have h5 : s0.cell? ⟨b, 0 + 5, none⟩ = some (.slice y.k.1 kids.length y.k.2) := hcellI (j := 5) rfl
  have hX : CellsAt s0 ⟨b, 0 + 0, none⟩ [.int .i64 op, .int .i64 n, .slice y.b.1 binds.length y.b.2, .slice none 0 0, .slice y.a.1 alts.length y.a.2] := fun j v hj => by
    have hj5 := (List.getElem?_eq_some_iff.1 hj).1
    have h9 : s0.cell? ⟨b, 0 + j, none⟩ = some v := hcellI (by
      rw [← hj]
      match j, hj5 with
      | 0, _ => rfl
      | 1, _ => rfl
      | 2, _ => rfl
      | 3, _ => rfl
      | 4, _ => rfl)
    rw [add_mid]
    simpa using h9
  simp only [tsz] at hm hlen
  have hkl := hN.kl
  refine enter Tryd.func42 rfl Tryd.ntmps42 rfl hc ?_
  (simp only [argEnv, Nat.zero_add, Nat.reduceAdd])
  apply W.sr
  apply oas; rfl; rfl
  apply OL.nsr
  apply omv; rfl; rfl
  apply oop; rfl; apply Pev.nil_ptr; rfl; exact yes
  apply ofa; rfl; rfl; rfl
  apply oop; rfl; apply Pev.load_keptA; rfl; exact yes; exact .head _; rfl; intro hcond; assumption; rfl; intro hcond; assumption; intro hcond; exact NotOwned.au
  apply OL.alloc; rfl; rfl; exact CellsL.agg; (intro bk hbk; simp only [AllLe, and_true] at hbk)
  apply OL.storeB; rfl; rfl; exact CellsL.agg; rfl; rfl; rfl; exact Swap.au; exact Put.au
  apply OL.nsr
  apply ofa; rfl; rfl; rfl
  apply OL.storeB; rfl; rfl; exact CellsL.one rfl; rfl; rfl; rfl; exact Swap.au; exact Put.au
  apply OL.nx
  apply W.seq
  apply W.sr
  apply omv; rfl; rfl
  apply oop; rfl; apply Pev.nil_ptr; rfl; exact yes
  apply ofa; rfl; rfl; rfl
  apply oop; rfl; apply Pev.load_kept; rfl; exact yes; exact .head _; rfl; intro hcond; assumption; intro hcond; assumption; intro hcond; exact NotOwned.au
  apply oop; rfl; apply Pev.len_slice; rfl; exact yes; rfl
  apply omv; rfl; rfl
  apply OL.nx
  apply W.block
  revert bk
  intro bx hbx
  have hbx0 : s0.heap.size ≤ bx := hbx.1
  obtain ⟨m0, hm0⟩ : ∃ m0, m0 = st.l.length := ⟨_, rfl⟩
  refine W.loop (G := Nat × ST × GR) (fun g => g.1 ≤ kids.length ∧ g.2.1.l.map Prod.fst = st.l.map Prod.fst ++ lays (kids.take g.1) m0) (fun g => kids.length - g.1)
    (fun g => [(1, true, .pointer (some ⟨bo, 0, none⟩)), (5, true, .pointer (some ⟨bx, 0, none⟩)), (16, true, .slice y.k.1 kids.length y.k.2), (17, true, .int .i64 (kids.length : Int)), (18, true, .int .i64 (g.1 : Int))])
    (fun g => Cls (row s0.heap.size g.2.2.O g.2.2.q g.1 g.2.2.c 3 1 (ints (roots (kids.take g.1) m0)) :: blk bx 28 [.int .i64 op, .int .i64 n, .slice y.b.1 binds.length y.b.2, .slice g.2.2.q g.1 g.2.2.c, .slice y.a.1 alts.length y.a.2] :: blk bo 22 [.slice g.2.1.q g.2.1.l.length g.2.1.c] :: row s0.heap.size g.2.1.O g.2.1.q g.2.1.l.length g.2.1.c 28 5 (cat (exS s0).c g.2.1.l) :: pool (exS s0) s0.heap.size g.2.1.O2 g.2.1.l :: H) (s0 :: S)) (0, st, ⟨fun _ => False, none, 0⟩) ⟨by simp, by simp [lays]⟩ (by exact Sub.au) (fun w' hw' => hw'.row_nil s0.heap.size 3 1) ?_
  rintro ⟨j, st1, ⟨Ok, qk, ck⟩⟩ ⟨hj, hst1⟩
  simp only at hj hst1 ⊢
  have hl1 : st1.l.length = m0 + tszs (kids.take j) := by
    have := congrArg List.length hst1
    rw [List.length_map, List.length_append, List.length_map, lays_len, ← hm0] at this
    exact this
  have htake := tszs_take_le (ts := kids) (i := j)
  apply W.sr
  apply obn; rfl; rfl; rfl; apply Bin.lss
  apply OL.nx
  apply W.seq
  (refine W.cnd (fun hlt => ?_) (fun hlt => ?_)) <;> (try (exfalso; first | omega | exact hlt trivial | contradiction))
  · have hjl : j < kids.length := by omega
    obtain ⟨a, hqa, hab, hnods⟩ := hks (by omega)
    have hki : kids[j]? = some kids[j] := List.getElem?_eq_getElem hjl
    obtain ⟨b', hcb, hkid⟩ := hnods.get hki
    have h1 := tszs_take_succ hki
    have h2 := tszs_take_le (ts := kids) (i := j + 1)
    rw [hqa]
    apply W.sk
    apply W.sb
    apply W.sr
    apply oop; rfl; apply Pev.idx; rfl; exact yes; rfl; exact yes; rfl; rfl; intro hcond; omega
    apply oop; rfl; apply Pev.load_kept; rfl; exact yes; exact .head _; rfl; intro hcond; assumption; intro hcond; (rw [add_block]; assumption); intro hcond; exact NotOwned.au
    apply oas; rfl; rfl
    apply OL.nx
    refine W.regany (X := XI (s0 :: S) st1 kids[j]) (fun x e => [(29, true, bif e 7 then .pointer (some ⟨bx, 0 + 3, none⟩) else x.old 29), (28, true, bif e 6 then .slice (some ⟨x.g1, 0, none⟩) (j + 1) x.c1 else x.old 28), (27, true, bif e 5 then .slice (some ⟨x.b1, 0, none⟩) 1 1 else x.old 27), (26, true, bif e 4 then .int .i64 ((x.st.l.length : Int) - 1) else x.old 26), (25, true, bif e 3 then .pointer (some ⟨bo, 0, none⟩) else x.old 25), (24, true, bif e 2 then .pointer (some ⟨b', 0, none⟩) else x.old 24), (23, true, bif e 1 then .slice qk j ck else x.old 23), (22, true, bif e 0 then .pointer (some ⟨bx, 0 + 3, none⟩) else x.old 22), (1, true, .pointer (some ⟨bo, 0, none⟩)), (5, true, .pointer (some ⟨bx, 0, none⟩)), (7, true, .pointer (some ⟨b', 0, none⟩)), (16, true, .slice (some a) kids.length y.k.2), (17, true, .int .i64 (kids.length : Int)), (18, true, .int .i64 (j : Int))])
      (fun x e => (bif e 6 then row s0.heap.size x.O1 (some ⟨x.g1, 0, none⟩) (j + 1) x.c1 3 1 (ints (roots (kids.take j) m0) ++ [.int .i64 ((x.st.l.length : Int) - 1)]) else row s0.heap.size Ok qk j ck 3 1 (ints (roots (kids.take j) m0))) :: (blk bx 28 [.int .i64 op, .int .i64 n, .slice y.b.1 binds.length y.b.2, bif e 8 then .slice (some ⟨x.g1, 0, none⟩) (j + 1) x.c1 else .slice qk j ck, .slice y.a.1 alts.length y.a.2]) :: (bif e 4 then blk bo 22 [.slice x.st.q x.st.l.length x.st.c] else blk bo 22 [.slice st1.q st1.l.length st1.c]) :: (bif e 4 then row s0.heap.size x.st.O x.st.q x.st.l.length x.st.c 28 5 (cat (exS s0).c x.st.l) else row s0.heap.size st1.O st1.q st1.l.length st1.c 28 5 (cat (exS s0).c st1.l)) :: (bif e 4 then pool (exS s0) s0.heap.size x.st.O2 x.st.l else pool (exS s0) s0.heap.size st1.O2 st1.l) :: (bif e 5 then blk x.b1 3 [.int .i64 ((x.st.l.length : Int) - 1)] else nothing) :: H)
      (fun old => ⟨st1.dummy (lay kids[j] st1.l.length), ST.dummy_map _ _, w.heap.size, AllLe.mk hc, 0, 0, fun _ => False, old⟩) (by kernel_rfl) (by kernel_rfl) (fun w hw => hw.drew) (fun old => by repeat (first | exact SubO.nil | apply SubO.cons rfl | refine SubO.old rfl ?_)) (fun old w' hw' => (hw'.nothing_cons).mv (A := [_]) (I := [_, _, _, _, _])) ?_ ?_
    · intro x e i o ho hei hd hcl
      have hi : i < 9 := (List.getElem?_eq_some_iff.1 ho).1
      obtain rfl | rfl | rfl | rfl | rfl | rfl | rfl | rfl | rfl : i = 0 ∨ i = 1 ∨ i = 2 ∨ i = 3 ∨ i = 4 ∨ i = 5 ∨ i = 6 ∨ i = 7 ∨ i = 8 := by omega
      · cases ho
        have v0 : Eng.upd e 0 0 = true := upd_eq
        simp only [hei, cond_true, cond_false]
        apply ofa; rfl; rfl; rfl
        apply OL.nil
        exact At.beside x (by repeat (first | exact Sub.nil | apply Sub.cons rfl | refine Sub.cons_eq rfl (by simp only [v0, cond_true, cond_false]) ?_)) (fun w' hw' => by first | exact hw' | (simp only [v0, cond_true, cond_false]; exact hw'))
      · cases ho
        have h0 : e 0 = true := hd ⟨0, .data⟩ (by simp) rfl
        have h8 : e 8 = false := hcl.not (i := 1) (j := 8) rfl hei (by kernel_rfl)
        have v1 : Eng.upd e 1 1 = true := upd_eq
        have v0 : Eng.upd e 1 0 = true := upd_mono h0
        have v8 : Eng.upd e 1 8 = false := h8
        simp only [hei, h0, h8, cond_true, cond_false]
        apply old; rfl; rfl; exact .tail _ (.head _); rfl; rfl
        apply OL.nil
        exact At.beside x (by repeat (first | exact Sub.nil | apply Sub.cons rfl | refine Sub.cons_eq rfl (by simp only [v1, v0, v8, cond_true, cond_false]) ?_)) (fun w' hw' => by first | exact hw' | (simp only [v1, v0, v8, cond_true, cond_false]; exact hw'))
      · cases ho
        have v2 : Eng.upd e 2 2 = true := upd_eq
        simp only [hei, cond_true, cond_false]
        apply omv; rfl; rfl
        apply OL.nil
        exact At.beside x (by repeat (first | exact Sub.nil | apply Sub.cons rfl | refine Sub.cons_eq rfl (by simp only [v2, cond_true, cond_false]) ?_)) (fun w' hw' => by first | exact hw' | (simp only [v2, cond_true, cond_false]; exact hw'))
      · cases ho
        have v3 : Eng.upd e 3 3 = true := upd_eq
        simp only [hei, cond_true, cond_false]
        apply omv; rfl; rfl
        apply OL.nil
        exact At.beside x (by repeat (first | exact Sub.nil | apply Sub.cons rfl | refine Sub.cons_eq rfl (by simp only [v3, cond_true, cond_false]) ?_)) (fun w' hw' => by first | exact hw' | (simp only [v3, cond_true, cond_false]; exact hw'))
      · cases ho
        have h2 : e 2 = true := hd ⟨2, .data⟩ (by simp) rfl
        have h3 : e 3 = true := hd ⟨3, .data⟩ (by simp) rfl
        have h5 : e 5 = false := hcl.not (i := 4) (j := 5) rfl hei (by kernel_rfl)
        have h6 : e 6 = false := hcl.not (i := 4) (j := 6) rfl hei (by kernel_rfl)
        have h8 : e 8 = false := hcl.not (i := 4) (j := 8) rfl hei (by kernel_rfl)
        have v4 : Eng.upd e 4 4 = true := upd_eq
        have v2 : Eng.upd e 4 2 = true := upd_mono h2
        have v3 : Eng.upd e 4 3 = true := upd_mono h3
        have v5 : Eng.upd e 4 5 = false := h5
        have v6 : Eng.upd e 4 6 = false := h6
        have v8 : Eng.upd e 4 8 = false := h8
        simp only [hei, h2, h3, h5, h6, h8, cond_true, cond_false]
        refine OL.callE (α := { z : ST // z.l.map Prod.fst = st1.l.map Prod.fst ++ lay kids[j] st1.l.length }) (fun z => .int .i64 ((z.1.l.length : Int) - 1)) (fun _ => True) (fun z => Cls (row s0.heap.size Ok qk j ck 3 1 (ints (roots (kids.take j) m0)) :: blk bx 28 [.int .i64 op, .int .i64 n, .slice y.b.1 binds.length y.b.2, .slice qk j ck, .slice y.a.1 alts.length y.a.2] :: blk bo 22 [.slice z.1.q z.1.l.length z.1.c] :: row s0.heap.size z.1.O z.1.q z.1.l.length z.1.c 28 5 (cat (exS s0).c z.1.l) :: pool (exS s0) s0.heap.size z.1.O2 z.1.l :: nothing :: H) (s0 :: S)) rfl rfl (by exact Args.au) (fun w2 hw2 => (ih kids[j] b' st1 (row s0.heap.size Ok qk j ck 3 1 (ints (roots (kids.take j) m0)) :: blk bx 28 [.int .i64 op, .int .i64 n, .slice y.b.1 binds.length y.b.2, .slice qk j ck, .slice y.a.1 alts.length y.a.2] :: nothing :: H) S w2 (by omega) hkid (by omega) (fun k hk => by have := hno k hk; exact NotOwned.au) (hw2.mv (A := [_, _]) (I := [_, _, _]) (H := nothing :: H))).mono (fun e w3 ⟨z, h1, h2, h3⟩ => ⟨⟨z, h2⟩, h1, trivial, h3.mv (A := [_, _, _]) (I := [_, _]) (H := nothing :: H)⟩)) ?_
        rintro ⟨st2, hst2⟩ -
        simp only
        apply OL.nil
        exact At.beside { x with st := st2, hst := hst2 } (by repeat (first | exact Sub.nil | apply Sub.cons rfl | refine Sub.cons_eq rfl (by simp only [v4, v2, v3, v5, v6, v8, cond_true, cond_false]) ?_)) (fun w' hw' => by first | exact hw' | (simp only [v4, v2, v3, v5, v6, v8, cond_true, cond_false]; exact hw'))
      · cases ho
        have h4 : e 4 = true := hd ⟨4, .data⟩ (by simp) rfl
        have v5 : Eng.upd e 5 5 = true := upd_eq
        have v4 : Eng.upd e 5 4 = true := upd_mono h4
        simp only [hei, h4, cond_true, cond_false]
        apply OL.buildSlice; rfl; rfl; rfl; exact Elems.au; rfl; rfl; (intro bk hbk; simp only [AllLe, and_true] at hbk)
        apply OL.nil
        exact At.beside { x with b1 := bk, hb1 := hbk } (by repeat (first | exact Sub.nil | apply Sub.cons rfl | refine Sub.cons_eq rfl (by simp only [v5, v4, cond_true, cond_false]) ?_)) (fun w' hw' => by simp only [v5, v4, cond_true, cond_false]; exact Cls.fill (p := 5) (H := _ :: _ :: _ :: _ :: _ :: _ :: H) (.s (.s (.s (.s (.s .z))))) hw')
      · cases ho
        have h1 : e 1 = true := hd ⟨1, .data⟩ (by simp) rfl
        have h5 : e 5 = true := hd ⟨5, .data⟩ (by simp) rfl
        have h4 : e 4 = true := hd ⟨4, .chain⟩ (by simp) rfl
        have h8 : e 8 = false := hcl.not (i := 6) (j := 8) rfl hei (by kernel_rfl)
        have v6 : Eng.upd e 6 6 = true := upd_eq
        have v1 : Eng.upd e 6 1 = true := upd_mono h1
        have v5 : Eng.upd e 6 5 = true := upd_mono h5
        have v4 : Eng.upd e 6 4 = true := upd_mono h4
        have v8 : Eng.upd e 6 8 = false := h8
        simp only [hei, h1, h5, h4, h8, cond_true, cond_false]
        apply OL.append
        rfl
        rfl
        rfl
        rfl
        exact Hole.au
        (repeat (first | exact List.Mem.head _ | apply List.Mem.tail))
        (repeat (first | apply Take.zero | apply Take.succ))
        rfl
        rfl
        exact ⟨s0, .head _, Nat.le_refl _⟩
        omega
        intro O1 g1 cap1
        apply OL.nil
        exact At.beside { x with g1 := g1, c1 := cap1, O1 := O1 } (by repeat (first | exact Sub.nil | apply Sub.cons rfl | refine Sub.cons_eq rfl (by simp only [v6, v1, v5, v4, v8, cond_true, cond_false]) ?_)) (fun w' hw' => by first | exact hw' | (simp only [v6, v1, v5, v4, v8, cond_true, cond_false]; exact hw'))
      · cases ho
        have v7 : Eng.upd e 7 7 = true := upd_eq
        simp only [hei, cond_true, cond_false]
        apply ofa; rfl; rfl; rfl
        apply OL.nil
        exact At.beside x (by repeat (first | exact Sub.nil | apply Sub.cons rfl | refine Sub.cons_eq rfl (by simp only [v7, cond_true, cond_false]) ?_)) (fun w' hw' => by first | exact hw' | (simp only [v7, cond_true, cond_false]; exact hw'))
      · cases ho
        have h6 : e 6 = true := hd ⟨6, .data⟩ (by simp) rfl
        have h7 : e 7 = true := hd ⟨7, .data⟩ (by simp) rfl
        have v8 : Eng.upd e 8 8 = true := upd_eq
        have v6 : Eng.upd e 8 6 = true := upd_mono h6
        have v7 : Eng.upd e 8 7 = true := upd_mono h7
        simp only [hei, h6, h7, cond_true, cond_false]
        apply OL.storeB; rfl; rfl; exact CellsL.one rfl; rfl; rfl; rfl; exact Swap.au; exact Put.au
        apply OL.nil
        exact At.beside x (by repeat (first | exact Sub.nil | apply Sub.cons rfl | refine Sub.cons_eq rfl (by simp only [v8, v6, v7, cond_true, cond_false]) ?_)) (fun w' hw' => by first | exact hw' | (simp only [v8, v6, v7, cond_true, cond_false]; exact hw'))
    · intro x e hall
      have hx1 := x.hb1
      have hst := x.hst
      have hxl : x.st.l.length = st1.l.length + tsz kids[j] := by
        have := congrArg List.length hst
        rw [List.length_map, List.length_append, List.length_map, lay_len] at this
        exact this
      simp only [hall 0 (by decide), hall 1 (by decide), hall 2 (by decide), hall 3 (by decide), hall 4 (by decide), hall 5 (by decide), hall 6 (by decide), hall 7 (by decide), hall 8 (by decide), cond_true, cond_false]
      have hsn : ints (roots (kids.take j) m0) ++ [.int .i64 ((x.st.l.length : Int) - 1)] = ints (roots (kids.take (j + 1)) m0) := by
        rw [roots_take hki, ints_append, hxl, hl1]
        rfl
      rw [hsn]
      with_reducible apply At.in_normal
      with_reducible apply At.next
      apply W.reg
      apply obn; rfl; rfl; rfl; apply Bin.add_in; omega
      apply omv; rfl; rfl
      apply OL.nil
      refine At.again (j + 1, x.st, ⟨x.O1, some ⟨x.g1, 0, none⟩, x.c1⟩) ⟨by simp only; omega, ?_⟩ (by simp only; omega) (by exact Sub.au) (fun w' hw' => (hw'.mv (A := [_, _, _, _, _]) (I := [_])).thin (.blk hx1 Thin.same))
      simp only
      rw [lays_take hki, ← List.append_assoc, ← hst1, hst, hl1]
  · obtain rfl : j = kids.length := by omega
    rw [List.take_length] at hst1 hl1 ⊢
    refine W.xt ?_
    with_reducible apply At.next
    apply W.seq
    refine W.regany (X := XI (s0 :: S) st1 leaf) (fun x e => [(38, true, bif e 7 then .pointer (some ⟨bo, 0, none⟩) else x.old 38), (37, true, bif e 6 then .slice (some ⟨x.g1, 0, none⟩) (st1.l.length + 1) x.c1 else x.old 37), (36, true, bif e 5 then .slice (some ⟨x.b1, 0, none⟩) 1 1 else x.old 36), (35, true, bif e 4 then .agg [.int .i64 op, .int .i64 n, .slice y.b.1 binds.length y.b.2, .slice qk kids.length ck, .slice y.a.1 alts.length y.a.2].toArray else x.old 35), (34, true, bif e 3 then .slice st1.q st1.l.length st1.c else x.old 34), (33, true, bif e 2 then .pointer (some ⟨bo, 0, none⟩) else x.old 33), (32, true, bif e 1 then .pointer (some ⟨bo, 0, none⟩) else x.old 32), (31, true, bif e 0 then .pointer (some ⟨bo, 0, none⟩) else x.old 31), (1, true, .pointer (some ⟨bo, 0, none⟩)), (5, true, .pointer (some ⟨bx, 0, none⟩))])
      (fun x e => (row s0.heap.size Ok qk kids.length ck 3 1 (ints (roots kids m0))) :: (blk bx 28 [.int .i64 op, .int .i64 n, .slice y.b.1 binds.length y.b.2, .slice qk kids.length ck, .slice y.a.1 alts.length y.a.2]) :: (blk bo 22 [bif e 8 then .slice (some ⟨x.g1, 0, none⟩) (st1.l.length + 1) x.c1 else .slice st1.q st1.l.length st1.c]) :: (bif e 6 then row s0.heap.size x.O1 (some ⟨x.g1, 0, none⟩) (st1.l.length + 1) x.c1 28 5 (cat (exS s0).c st1.l ++ [.int .i64 op, .int .i64 n, .slice y.b.1 binds.length y.b.2, .slice qk kids.length ck, .slice y.a.1 alts.length y.a.2]) else row s0.heap.size st1.O st1.q st1.l.length st1.c 28 5 (cat (exS s0).c st1.l)) :: (pool (exS s0) s0.heap.size st1.O2 st1.l) :: (bif e 5 then blk x.b1 28 [.int .i64 op, .int .i64 n, .slice y.b.1 binds.length y.b.2, .slice qk kids.length ck, .slice y.a.1 alts.length y.a.2] else nothing) :: H)
      (fun old => ⟨st1.dummy (lay leaf st1.l.length), ST.dummy_map _ _, w.heap.size, AllLe.mk hc, 0, 0, fun _ => False, old⟩) (by kernel_rfl) (by kernel_rfl) (fun w hw => hw.drew) (fun old => by repeat (first | exact SubO.nil | apply SubO.cons rfl | refine SubO.old rfl ?_)) (fun old w' hw' => (hw'.nothing_cons).mv (A := [_]) (I := [_, _, _, _, _])) ?_ ?_
    · intro x e i o ho hei hd hcl
      have hi : i < 9 := (List.getElem?_eq_some_iff.1 ho).1
      obtain rfl | rfl | rfl | rfl | rfl | rfl | rfl | rfl | rfl : i = 0 ∨ i = 1 ∨ i = 2 ∨ i = 3 ∨ i = 4 ∨ i = 5 ∨ i = 6 ∨ i = 7 ∨ i = 8 := by omega
      · cases ho
        have v0 : Eng.upd e 0 0 = true := upd_eq
        simp only [hei, cond_true, cond_false]
        apply omv; rfl; rfl
        apply OL.nil
        exact At.beside x (by repeat (first | exact Sub.nil | apply Sub.cons rfl | refine Sub.cons_eq rfl (by simp only [v0, cond_true, cond_false]) ?_)) (fun w' hw' => by first | exact hw' | (simp only [v0, cond_true, cond_false]; exact hw'))
      · cases ho
        have v1 : Eng.upd e 1 1 = true := upd_eq
        simp only [hei, cond_true, cond_false]
        apply omv; rfl; rfl
        apply OL.nil
        exact At.beside x (by repeat (first | exact Sub.nil | apply Sub.cons rfl | refine Sub.cons_eq rfl (by simp only [v1, cond_true, cond_false]) ?_)) (fun w' hw' => by first | exact hw' | (simp only [v1, cond_true, cond_false]; exact hw'))
      · cases ho
        have h1 : e 1 = true := hd ⟨1, .data⟩ (by simp) rfl
        have v2 : Eng.upd e 2 2 = true := upd_eq
        have v1 : Eng.upd e 2 1 = true := upd_mono h1
        simp only [hei, h1, cond_true, cond_false]
        apply oop; rfl; apply Pev.nil_ptr; rfl; exact yes
        apply OL.nil
        exact At.beside x (by repeat (first | exact Sub.nil | apply Sub.cons rfl | refine Sub.cons_eq rfl (by simp only [v2, v1, cond_true, cond_false]) ?_)) (fun w' hw' => by first | exact hw' | (simp only [v2, v1, cond_true, cond_false]; exact hw'))
      · cases ho
        have h2 : e 2 = true := hd ⟨2, .data⟩ (by simp) rfl
        have h8 : e 8 = false := hcl.not (i := 3) (j := 8) rfl hei (by kernel_rfl)
        have v3 : Eng.upd e 3 3 = true := upd_eq
        have v2 : Eng.upd e 3 2 = true := upd_mono h2
        have v8 : Eng.upd e 3 8 = false := h8
        simp only [hei, h2, h8, cond_true, cond_false]
        apply old; rfl; rfl; exact .tail _ (.tail _ (.head _)); rfl; rfl
        apply OL.nil
        exact At.beside x (by repeat (first | exact Sub.nil | apply Sub.cons rfl | refine Sub.cons_eq rfl (by simp only [v3, v2, v8, cond_true, cond_false]) ?_)) (fun w' hw' => by first | exact hw' | (simp only [v3, v2, v8, cond_true, cond_false]; exact hw'))
      · cases ho
        have v4 : Eng.upd e 4 4 = true := upd_eq
        simp only [hei, cond_true, cond_false]
        apply oop; rfl; apply Pev.load_blkA; rfl; exact yes; exact .tail _ (.head _); rfl; exact Take.au
        apply OL.nil
        exact At.beside x (by repeat (first | exact Sub.nil | apply Sub.cons rfl | refine Sub.cons_eq rfl (by simp only [v4, cond_true, cond_false]) ?_)) (fun w' hw' => by first | exact hw' | (simp only [v4, cond_true, cond_false]; exact hw'))
      · cases ho
        have h4 : e 4 = true := hd ⟨4, .data⟩ (by simp) rfl
        have v5 : Eng.upd e 5 5 = true := upd_eq
        have v4 : Eng.upd e 5 4 = true := upd_mono h4
        simp only [hei, h4, cond_true, cond_false]
        apply OL.buildSlice; rfl; rfl; rfl; exact Elems.au; rfl; rfl; (intro bk hbk; simp only [AllLe, and_true] at hbk)
        apply OL.nil
        exact At.beside { x with b1 := bk, hb1 := hbk } (by repeat (first | exact Sub.nil | apply Sub.cons rfl | refine Sub.cons_eq rfl (by simp only [v5, v4, cond_true, cond_false]) ?_)) (fun w' hw' => by simp only [v5, v4, cond_true, cond_false]; exact Cls.fill (p := 5) (H := _ :: _ :: _ :: _ :: _ :: _ :: H) (.s (.s (.s (.s (.s .z))))) hw')
      · cases ho
        have h3 : e 3 = true := hd ⟨3, .data⟩ (by simp) rfl
        have h5 : e 5 = true := hd ⟨5, .data⟩ (by simp) rfl
        have h8 : e 8 = false := hcl.not (i := 6) (j := 8) rfl hei (by kernel_rfl)
        have v6 : Eng.upd e 6 6 = true := upd_eq
        have v3 : Eng.upd e 6 3 = true := upd_mono h3
        have v5 : Eng.upd e 6 5 = true := upd_mono h5
        have v8 : Eng.upd e 6 8 = false := h8
        simp only [hei, h3, h5, h8, cond_true, cond_false]
        apply OL.append
        rfl
        rfl
        rfl
        rfl
        exact Hole.au
        (repeat (first | exact List.Mem.head _ | apply List.Mem.tail))
        (repeat (first | apply Take.zero | apply Take.succ))
        rfl
        rfl
        exact ⟨s0, .head _, Nat.le_refl _⟩
        omega
        intro O1 g1 cap1
        apply OL.nil
        exact At.beside { x with g1 := g1, c1 := cap1, O1 := O1 } (by repeat (first | exact Sub.nil | apply Sub.cons rfl | refine Sub.cons_eq rfl (by simp only [v6, v3, v5, v8, cond_true, cond_false]) ?_)) (fun w' hw' => by first | exact hw' | (simp only [v6, v3, v5, v8, cond_true, cond_false]; exact hw'))
      · cases ho
        have h0 : e 0 = true := hd ⟨0, .data⟩ (by simp) rfl
        have v7 : Eng.upd e 7 7 = true := upd_eq
        have v0 : Eng.upd e 7 0 = true := upd_mono h0
        simp only [hei, h0, cond_true, cond_false]
        apply oop; rfl; apply Pev.nil_ptr; rfl; exact yes
        apply OL.nil
        exact At.beside x (by repeat (first | exact Sub.nil | apply Sub.cons rfl | refine Sub.cons_eq rfl (by simp only [v7, v0, cond_true, cond_false]) ?_)) (fun w' hw' => by first | exact hw' | (simp only [v7, v0, cond_true, cond_false]; exact hw'))
      · cases ho
        have h6 : e 6 = true := hd ⟨6, .data⟩ (by simp) rfl
        have h7 : e 7 = true := hd ⟨7, .data⟩ (by simp) rfl
        have v8 : Eng.upd e 8 8 = true := upd_eq
        have v6 : Eng.upd e 8 6 = true := upd_mono h6
        have v7 : Eng.upd e 8 7 = true := upd_mono h7
        simp only [hei, h6, h7, cond_true, cond_false]
        apply OL.storeB; rfl; rfl; exact CellsL.one rfl; rfl; rfl; rfl; exact Swap.au; exact Put.au
        apply OL.nil
        exact At.beside x (by repeat (first | exact Sub.nil | apply Sub.cons rfl | refine Sub.cons_eq rfl (by simp only [v8, v6, v7, cond_true, cond_false]) ?_)) (fun w' hw' => by first | exact hw' | (simp only [v8, v6, v7, cond_true, cond_false]; exact hw'))
    · intro x e hall
      have hx1 := x.hb1
      simp only [hall 0 (by decide), hall 1 (by decide), hall 2 (by decide), hall 3 (by decide), hall 4 (by decide), hall 5 (by decide), hall 6 (by decide), hall 7 (by decide), hall 8 (by decide), cond_true, cond_false]
      with_reducible apply At.next
      apply W.sr
      apply omv; rfl; rfl
      apply oop; rfl; apply Pev.nil_ptr; rfl; exact yes
      apply old; rfl; rfl; exact .tail _ (.tail _ (.head _)); rfl; rfl
      apply oop; rfl; apply Pev.len_slice; rfl; exact yes; rfl
      apply obn; rfl; rfl; rfl; apply Bin.sub_in; omega
      apply oas; rfl; rfl
      apply OL.nx
      apply W.ret
      ((with_reducible apply At.fin1); rfl; rfl; intro w' hw')
      have hrow := hw'.item (i := row s0.heap.size Ok qk kids.length ck 3 1 (ints (roots kids m0))) (by exact mau)
      have hcap := row_cap hrow
      have h1 := (hw'.thin (.keep (.blk hbx (.keep (.keep (.keep (.blk hx1 Thin.same))))))).mv (A := [_, _, _]) (I := [_])
      have h2 := (h1.flip).pool_take (x := ⟨op, n, binds, roots kids m0, alts⟩) (y := ⟨y.b, (qk, ck), y.a⟩) (fun k hk => hk.1) ⟨by rw [roots_len]; exact ⟨hN.op, hN.n, hN.bl, hN.al, hN.kl, hN.bc, hN.ac, hN.b, hN.a⟩, by rw [roots_len]; exact hcap, fun hl => by
        obtain ⟨a, e1, e2, e3⟩ := row_at hrow (by rw [ints_length]; exact hl)
        exact ⟨a, e1, ⟨e2.1, .inr e2⟩, e3⟩⟩
      have h3 := h2.mv (A := [_]) (I := [_, _])
      refine ⟨⟨st1.l ++ [(⟨op, n, binds, roots kids m0, alts⟩, ⟨y.b, (qk, ck), y.a⟩)], x.O1, fun k => st1.O2 k ∨ (s0.heap.size ≤ k ∧ Ok k), some ⟨x.g1, 0, none⟩, x.c1⟩, ?_, ?_, ?_⟩
      · simp only [List.length_append, List.length_singleton]
      · rw [List.map_append, hst1, lay, List.append_assoc, ← hm0]
        rfl
      · simp only [List.length_append, List.length_singleton]
        rw [show cat (exS s0).c (st1.l ++ [((⟨op, n, binds, roots kids m0, alts⟩ : Ex), (⟨y.b, (qk, ck), y.a⟩ : ExY))]) = cat (exS s0).c st1.l ++ [.int .i64 op, .int .i64 n, .slice y.b.1 binds.length y.b.2, .slice qk kids.length ck, .slice y.a.1 alts.length y.a.2] by rw [cat_append, cat_one]; simp only [exS, Rel.c, exC, roots_len]]
        exact h3
theorem List_calls (t : Tr) (b : Nat) (w : World) (ht : NodO w t b) (hlen : tsz t ≤ 100000) :
    Calls Tryd.prog 15 [.pointer (some ⟨b, 0, none⟩)].toArray w fun e w' => ∃ (q : Option Addr) (c : Nat) (l : List (Ex × ExY)), e = .returned (.slice q l.length c) ∧ Ext w w' ∧ l.map Prod.fst = lay t 0 ∧ l.length ≤ c ∧ Arr exR w' (low w') l q := by
  refine enter Tryd.func15 rfl Tryd.ntmps15 rfl (Cls.start w) ?_
  (simp only [argEnv, Nat.zero_add, Nat.reduceAdd])
  apply W.sr
  apply oas; rfl; rfl
  apply OL.nsr
  apply OL.alloc; rfl; rfl; exact CellsL.one rfl; (intro bk hbk; simp only [AllLe, and_true] at hbk)
  apply OL.nsr
  apply omv; rfl; rfl
  revert bk
  intro bo hbo
  have hbo0 : w.heap.size ≤ bo := hbo
  refine OL.callE (α := ST) (fun z => .int .i64 ((z.l.length : Int) - 1)) (fun z => z.l.map Prod.fst = lay t 0) (fun z => Cls (blk bo 22 [.slice z.q z.l.length z.c] :: row w.heap.size z.O z.q z.l.length z.c 28 5 (cat (exS w).c z.l) :: pool (exS w) w.heap.size z.O2 z.l :: []) [w]) rfl rfl (by exact Args.au) (fun w2 hw2 => ?_) ?_
  · have h1 := (((hw2.row_nil w.heap.size 28 5).pool_nil (exS w) w.heap.size)).perm (List.reverse_perm _).symm
    refine (into_calls w bo hbo0 (tsz t) t b ⟨[], fun _ => False, fun _ => False, none, 0⟩ [] [] w2 (Nat.le_refl _) ht (by simpa using hlen) (fun k hk => NotOwned.nil) h1).mono fun e w3 ⟨z, h2, h3, h4⟩ => ⟨z, h2, by simpa using h3, h4⟩
  intro z hz
  apply OL.nsr
  apply old; rfl; rfl; exact .head _; rfl; rfl
  apply oas; rfl; rfl
  apply OL.nx
  apply W.ret
  ((with_reducible apply At.fin1); rfl; rfl; intro w' hw')
  have hsz := (hw'.kp w (.head _)).size
  have hk := hw'.same (.head _) (fun k hk => by exact NotOwned.au)
  have harr : Arr (exS w) w' (low w') z.l z.q := hw'.arr (B := w.heap.size) (O1 := z.O) (O2 := z.O2) (m := z.l.length) (cap := z.c) (e := 28) (by exact mau) (by exact mau)
  refine ⟨z.q, z.c, z.l, rfl, by (exact hw'.fr), hz, row_cap (hw'.item (i := row w.heap.size z.O z.q z.l.length z.c 28 5 (cat (exS w).c z.l)) (by exact mau)), harr.at_, fun p hp => (harr.el p hp).ok hsz hk⟩
end Go.Proofs.YtlboppiogeaicaaDoor.co

/- Plain: a check that finds a given expression valid by computing. No program in sight. No condition. -/
namespace Go.Co
set_option linter.unusedVariables false
set_option linter.unusedSimpArgs false
def growF (e : List Ex) : Nat → Nat → Tr
  | 0, _ => leaf
  | f + 1, i => match e[i]? with
    | none => leaf
    | some x => .mk x.op x.n x.binds (x.kids.map fun k => growF e f k.toNat) x.alts
theorem growF_eq {e : List Ex} (hd : Down e) : ∀ {f i : Nat}, i < f → i < e.length → growF e f i = grow e i := by
  intro f
  induction f with
  | zero => intro i h; omega
  | succ f ih =>
    intro i h hi
    have hx : e[i]? = some e[i] := List.getElem?_eq_getElem hi
    rw [growF, hx, grow_eq hd hx]
    simp only [Tr.mk.injEq, true_and, and_true]
    refine List.map_congr_left fun k hk => ?_
    have := hd i _ hx k hk
    exact ih (by omega) (by omega)
def downB (e : List Ex) : Bool := (List.range e.length).all fun i => match e[i]? with
  | none => true
  | some x => x.kids.all fun k => decide (0 ≤ k) && decide (k < (i : Int))
theorem downB_down {e : List Ex} (h : downB e = true) : Down e := fun i x hx k hk => by
  unfold downB at h
  rw [List.all_eq_true] at h
  have h1 := h i (List.mem_range.2 (List.getElem?_eq_some_iff.1 hx).1)
  rw [hx] at h1
  simp only [List.all_eq_true, Bool.and_eq_true, decide_eq_true_eq] at h1
  exact h1 k hk
def treeB (e : List Ex) : Bool := decide (0 < e.length) && decide (e.length ≤ 4096) && downB e && ((List.range (e.length - 1)).all fun i => decide ((kidsAll e).count (i : Int) = 1)) && decide (high (growF e e.length (e.length - 1)) ≤ 400)
theorem treeB_tree {e : List Ex} (h : treeB e = true) : TreeP e ∧ treeE e = 0 := by
  unfold treeB at h
  simp only [Bool.and_eq_true, decide_eq_true_eq, List.all_eq_true, List.mem_range] at h
  obtain ⟨⟨⟨⟨h1, h2⟩, h3⟩, h4⟩, h5⟩ := h
  have hd := downB_down h3
  have ht : TreeP e := ⟨h1, hd, fun i hi => h4 i (by omega)⟩
  refine ⟨ht, ?_⟩
  rw [treeE_tree (by omega) ht]
  rw [growF_eq hd (by omega) (by omega)] at h5
  exact if_neg (by omega)
def okB (e : List Ex) (ps : List Int) (flat : Bool) : Bool := treeB e && (e.all fun x => !flatBad flat x.op && decide (nodeE e x = 0)) && decide (ps ++ e.flatMap bindersX).Nodup && ((fv (growF e e.length (e.length - 1)) []).all fun n => decide (n ∈ ps))
theorem okB_ok {e : List Ex} {ps : List Int} {flat : Bool} (h : okB e ps flat = true) : bodyE e ps flat = 0 := by
  unfold okB at h
  simp only [Bool.and_eq_true, decide_eq_true_eq, List.all_eq_true, Bool.not_eq_true'] at h
  obtain ⟨⟨⟨h1, h2⟩, h3⟩, h4⟩ := h
  obtain ⟨h5, h6⟩ := treeB_tree h1
  have hp : 0 < e.length := h5.1
  rw [growF_eq h5.2.1 (by omega) (by omega)] at h4
  refine BodyOk.mk2 h6 (fun x hx => ?_) h3 h4
  obtain ⟨h7, h8⟩ := h2 x hx
  unfold oneE
  rw [if_neg (by rw [h7]; simp), h8]
end Go.Co

/- The walks of the reference's builders of nodes: N, B, W, V, Print. Conditions: none. -/
namespace Go.Proofs.YtlboppiogeaicaaDoor.co
open Go.RowKit Go.Eng Go.Co
set_option linter.unusedVariables false
set_option linter.unusedSimpArgs false
set_option maxRecDepth 100000
theorem N_calls (op n : Int) (ts : List Tr) (q : Option Addr) (c : Nat) (w : World) (ho : I64 op) (hn : I64 n) (hl : ts.length ≤ 4096) (hk : 0 < ts.length → ∃ a, q = some a ∧ a.block < w.heap.size ∧ NodsO w ts a) :
    Calls Tryd.prog 29 [.int .i64 op, .int .i64 n, .slice q ts.length c].toArray w fun e w' => ∃ b, e = .returned (.pointer (some ⟨b, 0, none⟩)) ∧ Ext w w' ∧ NodO w' (.mk op n [] ts []) b := by
  refine enter Tryd.func29 rfl Tryd.ntmps29 rfl (Cls.start w) ?_
  (simp only [argEnv, Nat.zero_add, Nat.reduceAdd])
  apply W.sr
  apply oas; rfl; rfl
  apply OL.nsr
  apply omv; rfl; rfl
  apply omv; rfl; rfl
  apply oop; rfl; apply Pev.build; rfl; exact CellsL.agg; rfl; exact Fill.au; rfl
  apply omv; rfl; rfl
  apply oop; rfl; apply Pev.build; rfl; exact CellsL.agg; rfl; exact Fill.au; rfl
  apply OL.box; rfl; rfl; exact CellsL.agg; (intro bk hbk; simp only [AllLe, and_true] at hbk)
  apply oas; rfl; rfl
  apply OL.nx
  apply W.ret
  ((with_reducible apply At.fin1); rfl; rfl; intro w' hw')
  have hb := hw'.item (.head _)
  refine ⟨bk, rfl, by (exact hw'.fr), ?_⟩
  simp only [NodO]
  refine ⟨⟨(none, 0), (q, c), (none, 0)⟩, blk_lt hb, fun j v hj => by rw [add_mid, blk_cell hb, Nat.zero_add]; exact hj, ⟨ho, hn, by simp, by simp, hl, by simp, by simp, IntsO.nil, ArrP.nil⟩, fun h => ?_⟩
  obtain ⟨a, h1, h2, h3⟩ := hk h
  have hsz := (hw'.kp w (by exact mau)).size
  exact ⟨a, h1, by omega, NodsO.ext hsz (hw'.same (by exact mau) (fun k hk => by exact NotOwned.au)) h2 h3⟩
theorem B_calls (op : Int) (l : List Int) (qb : Option Addr) (cb : Nat) (ts : List Tr) (q : Option Addr) (c : Nat) (w : World) (ho : I64 op) (hbl : l.length ≤ 16) (hbc : l.length ≤ cb) (hb : IntsO w (low w) l qb) (hl : ts.length ≤ 4096) (hk : 0 < ts.length → ∃ a, q = some a ∧ a.block < w.heap.size ∧ NodsO w ts a) :
    Calls Tryd.prog 18 [.int .i64 op, .slice qb l.length cb, .slice q ts.length c].toArray w fun e w' => ∃ b, e = .returned (.pointer (some ⟨b, 0, none⟩)) ∧ Ext w w' ∧ NodO w' (.mk op 0 l ts []) b := by
  refine enter Tryd.func18 rfl Tryd.ntmps18 rfl (Cls.start w) ?_
  (simp only [argEnv, Nat.zero_add, Nat.reduceAdd])
  apply W.sr
  apply oas; rfl; rfl
  apply OL.nsr
  apply omv; rfl; rfl
  apply omv; rfl; rfl
  apply oop; rfl; apply Pev.build; rfl; exact CellsL.agg; rfl; exact Fill.au; rfl
  apply omv; rfl; rfl
  apply oop; rfl; apply Pev.build; rfl; exact CellsL.agg; rfl; exact Fill.au; rfl
  apply OL.box; rfl; rfl; exact CellsL.agg; (intro bk hbk; simp only [AllLe, and_true] at hbk)
  apply oas; rfl; rfl
  apply OL.nx
  apply W.ret
  ((with_reducible apply At.fin1); rfl; rfl; intro w' hw')
  have hb2 := hw'.item (.head _)
  refine ⟨bk, rfl, by (exact hw'.fr), ?_⟩
  simp only [NodO]
  have hsz := (hw'.kp w (by exact mau)).size
  have hsm := hw'.same (List.Mem.head _) (fun k hk => by exact NotOwned.au)
  refine ⟨⟨(qb, cb), (q, c), (none, 0)⟩, blk_lt hb2, fun j v hj => by rw [add_mid, blk_cell hb2, Nat.zero_add]; exact hj, ⟨ho, by simp [I64], hbl, by simp, hl, hbc, by simp, (hb.stab hsm).mono fun k hk => Nat.lt_of_lt_of_le hk hsz, ArrP.nil⟩, fun h => ?_⟩
  obtain ⟨a, h1, h2, h3⟩ := hk h
  exact ⟨a, h1, by omega, NodsO.ext hsz hsm h2 h3⟩
theorem W_calls (n : Int) (w : World) (hn : I64 n) :
    Calls Tryd.prog 14 [.int .i64 n].toArray w fun e w' => ∃ b, e = .returned (.pointer (some ⟨b, 0, none⟩)) ∧ Ext w w' ∧ NodO w' (.mk 1 n [] [] []) b := by
  refine enter Tryd.func14 rfl Tryd.ntmps14 rfl (Cls.start w) ?_
  (simp only [argEnv, Nat.zero_add, Nat.reduceAdd])
  apply W.sr
  apply oas; rfl; rfl
  apply OL.nsr
  apply omv; rfl; rfl
  refine OL.callE (α := Nat × World) (fun z => .pointer (some ⟨z.1, 0, none⟩)) (fun z => NodO z.2 (.mk 1 n [] [] []) z.1) (fun z => Cls [] [z.2, w]) rfl rfl (by exact Args.au) (fun w2 hw2 => (N_calls 1 n [] none 0 w2 (by simp [I64]) hn (by simp) (fun h => by simp at h)).mono (fun e1 w3 ⟨b, h1, h2, h3⟩ => ⟨(b, w3), h1, h3, (hw2.ext h2).note⟩)) ?_
  rintro ⟨b, w3⟩ hN
  simp only at hN ⊢
  apply oas; rfl; rfl
  apply OL.nx
  apply W.ret
  ((with_reducible apply At.fin1); rfl; rfl; intro w' hw')
  exact ⟨b, rfl, hw'.fr (by exact mau), hN.at hw' (by exact mau) (fun k hk => NotOwned.nil)⟩
theorem V_calls (n : Int) (w : World) (hn : I64 n) :
    Calls Tryd.prog 19 [.int .i64 n].toArray w fun e w' => ∃ b, e = .returned (.pointer (some ⟨b, 0, none⟩)) ∧ Ext w w' ∧ NodO w' (.mk 0 n [] [] []) b := by
  refine enter Tryd.func19 rfl Tryd.ntmps19 rfl (Cls.start w) ?_
  (simp only [argEnv, Nat.zero_add, Nat.reduceAdd])
  apply W.sr
  apply oas; rfl; rfl
  apply OL.nsr
  apply omv; rfl; rfl
  refine OL.callE (α := Nat × World) (fun z => .pointer (some ⟨z.1, 0, none⟩)) (fun z => NodO z.2 (.mk 0 n [] [] []) z.1) (fun z => Cls [] [z.2, w]) rfl rfl (by exact Args.au) (fun w2 hw2 => (N_calls 0 n [] none 0 w2 (by simp [I64]) hn (by simp) (fun h => by simp at h)).mono (fun e1 w3 ⟨b, h1, h2, h3⟩ => ⟨(b, w3), h1, h3, (hw2.ext h2).note⟩)) ?_
  rintro ⟨b, w3⟩ hN
  simp only at hN ⊢
  apply oas; rfl; rfl
  apply OL.nx
  apply W.ret
  ((with_reducible apply At.fin1); rfl; rfl; intro w' hw')
  exact ⟨b, rfl, hw'.fr (by exact mau), hN.at hw' (by exact mau) (fun k hk => NotOwned.nil)⟩
/-- one kid, in a slice of the caller's -/
theorem kid1 {w : World} {H : List Eng.Item} {S : List World} {t : Tr} {b bk : Nat} {T : TypeId} (hw : Cls (blk bk T [.pointer (some ⟨b, 0, none⟩)] :: H) S w) (hN : NodO w t b) : 0 < [t].length → ∃ a, some (⟨bk, 0, none⟩ : Addr) = some a ∧ a.block < w.heap.size ∧ NodsO w [t] a := fun _ => by
  have hb := hw.item (.head _)
  refine ⟨_, rfl, blk_lt hb, ?_⟩
  simp only [NodsO]
  refine ⟨⟨b, ?_, hN⟩, trivial⟩
  rw [blk_cell hb]
  rfl
end Go.Proofs.YtlboppiogeaicaaDoor.co

/- The walk of the law CoreSizes. Conditions: none. -/
namespace Go.Co
open Go.Eng Go.RowKit
theorem word_ok (n : Int) (h : n = 1 ∨ n = 7 ∨ n = 2) : okB (lay (.mk 1 n [] [] []) 0) [] false = true := by rcases h with rfl | rfl | rfl <;> decide +kernel
theorem atE_zero {e : List Ex} (h : bodyE e [] false = 0) (hp : 0 < e.length) : atE e 0 = 0 := by
  unfold atE
  rw [if_pos h, if_pos (by omega)]
end Go.Co
namespace Go.Proofs.YtlboppiogeaicaaDoor.co
open Go.RowKit Go.Eng Go.Co
set_option linter.unusedVariables false
set_option linter.unusedSimpArgs false
set_option maxRecDepth 100000
theorem sizes_law (q : Option Addr) (cap : Nat) (es : List (Ex × ExY)) (n : Int) (w : World) (he : Arr exR w (low w) es q) (hlen : es.length ≤ 9223372036854775807) (hcap : es.length ≤ cap) (hn64 : I64 n) (hg : 1 < w.heap.size) (hs : arityAt w) :
    Calls Tryd.prog 4 #[.slice q es.length cap, .int .i64 n] w fun e w' => e = .returned (.bool true) ∧ Ext w w' := by
  refine enter Tryd.func4 rfl Tryd.ntmps4 rfl (Cls.start w) ?_
  (simp only [argEnv, Nat.zero_add, Nat.reduceAdd])
  apply W.sr
  apply oas; rfl; rfl
  apply OL.nx
  apply W.seq
  apply W.sr
  refine OL.callE (α := Nat × World) (fun z => .pointer (some ⟨z.1, 0, none⟩)) (fun z => NodO z.2 (.mk 1 1 [] [] []) z.1) (fun z => Cls [] [z.2, w]) rfl rfl (by exact Args.au) (fun w2 hw2 => (W_calls 1 w2 (by simp [I64])).mono (fun e1 w3 ⟨b, h1, h2, h3⟩ => ⟨(b, w3), h1, h3, (hw2.ext h2).note⟩)) ?_
  rintro ⟨b, w3⟩ hN
  simp only at hN ⊢
  refine OL.callE (α := (Option Addr × Nat × List (Ex × ExY)) × World) (fun z => .slice z.1.1 z.1.2.2.length z.1.2.1) (fun z => z.1.2.2.map Prod.fst = lay (.mk 1 1 [] [] []) 0 ∧ z.1.2.2.length ≤ z.1.2.1 ∧ Arr exR z.2 (low z.2) z.1.2.2 z.1.1) (fun z => Cls [] [z.2, w]) rfl rfl (by exact Args.au) (fun w2 hw2 => (List_calls _ b w2 (hN.at hw2 (by exact mau) (fun k hk => NotOwned.nil)) (by simp [tsz, tszs])).mono (fun e1 w4 ⟨q1, c1, l1, h1, h2, h3, h4, h5⟩ => ⟨((q1, c1, l1), w4), h1, ⟨h3, h4, h5⟩, ((hw2.forget (by simp)).ext h2).note⟩)) ?_
  rintro ⟨⟨q1, c1, l1⟩, w4⟩ ⟨hl1, hc1, ha1⟩
  simp only at hl1 hc1 ha1 ⊢
  have hb1 : bodyE (l1.map Prod.fst) [] false = 0 := by rw [hl1]; exact okB_ok (word_ok 1 (.inl rfl))
  have hll : l1.length = 1 := by
    have := congrArg List.length hl1
    rw [List.length_map, lay_len] at this
    simpa [tsz, tszs] using this
  have hat : atE (l1.map Prod.fst) 0 = 0 := atE_zero hb1 (by rw [List.length_map]; omega)
  have hone : tsz (grow (l1.map Prod.fst) 0) = 1 := by
    have hok := BodyOk.of hb1
    rw [← ids_tsz hok.tree.tree.down (by rw [List.length_map]; omega)]
    have h1 := ids_le hok.tree.tree (a := 0) (by rw [List.length_map]; omega)
    rw [List.length_map, hll] at h1
    have h2 : 0 < (ids (l1.map Prod.fst) 0).length := by unfold ids; simp
    omega
  (((first | (with_reducible apply OL.op) | (with_reducible apply QL.op)); (exact Guard.au); rfl; rfl); (refine Pev.call (v := .tuple #[.int .i64 1, .int .i64 0]) rfl (by exact Args.au) (fun _ w2 hw2 => ?_)))
  · refine (Size_calls l1 q1 c1 0 w2 (ha1.at hw2 (by exact mau) (fun k hk => NotOwned.nil)) (by omega) hc1 (Nat.lt_of_lt_of_le hg (hw2.kp w (by exact mau)).size) (hs.at hg hw2 (by exact mau) (fun k hk => by exact NotOwned.au))).mono ?_
    rintro e w5 ⟨c, h1, h2, h3, h4⟩
    refine ⟨?_, hw2.ext h2⟩
    rw [h1, h4 hat, hat]
    simp only [Int.toNat_zero, hone]
    rfl
  apply omv; rfl; rfl
  apply oex; rfl; rfl; rfl
  apply oex; rfl; rfl; rfl
  apply oas; rfl; rfl
  apply oas; rfl; rfl
  apply OL.nsr
  apply omv; rfl; rfl
  apply obn; rfl; rfl; rfl; apply Bin.neq
  apply omv; rfl; rfl
  apply ono; rfl; rfl; rfl; apply Pev.move; rfl; exact yes
  apply ono; rfl; rfl; rfl; apply Pev.bin; rfl; exact yes; rfl; exact yes; intro hcond; apply Bin.neq
  apply oop; rfl; apply Pev.pick_or; rfl; exact yes; rfl; exact yes
  apply OL.nx
  refine W.cond rfl (fun hb => by simp at hb) (fun _ => ?_)
  apply W.sk
  apply W.sr
  apply omv; rfl; rfl
  apply omv; rfl; rfl
  obtain ⟨e, hee⟩ : ∃ e, es.map Prod.fst = e := ⟨_, rfl⟩
  have hel : e.length = es.length := by rw [← hee, List.length_map]
  refine OL.callE (α := Int) (fun c => .tuple #[.int .i64 c, .int .i64 (atE e n)]) (fun c => (atE e n ≠ 0 → c = 0) ∧ (atE e n = 0 → c = (tsz (grow e n.toNat) : Int))) (fun z => Cls [] [w4, w]) rfl rfl (by exact Args.au) (fun w2 hw2 => (Size_calls es q cap n w2 (he.at hw2 (by exact mau) (fun k hk => NotOwned.nil)) hlen hcap (Nat.lt_of_lt_of_le hg (hw2.kp w (by exact mau)).size) (hs.at hg hw2 (by exact mau) (fun k hk => by exact NotOwned.au))).mono (fun e1 w5 ⟨c, h1, h2, h3, h4⟩ => ⟨c, by rw [h1, hee], by rw [hee] at h3 h4; exact ⟨h3, h4⟩, hw2.ext h2⟩)) ?_
  rintro c ⟨hc0, hc1⟩
  apply omv; rfl; rfl
  apply oex; rfl; rfl; rfl
  apply oex; rfl; rfl; rfl
  apply oas; rfl; rfl
  apply oas; rfl; rfl
  apply OL.nx
  apply W.seq
  apply W.sr
  apply omv; rfl; rfl
  (((first | (with_reducible apply OL.op) | (with_reducible apply QL.op)); (exact Guard.au); rfl; rfl); (exact Pev.call (v := .int .i64 (bodyE e [] false)) rfl (by exact Args.au) (fun _ w2 hw2 => (Fault_calls es q cap w2 (he.at hw2 (by exact mau) (fun k hk => by exact NotOwned.au)) hlen).mono (fun e1 w5 h => ⟨by rw [h.1, hee], hw2.ext h.2⟩))))
  apply oas; rfl; rfl
  apply OL.nsr
  apply omv; rfl; rfl
  apply obn; rfl; rfl; rfl; apply Bin.neq
  apply OL.nx
  (refine W.cnd (fun hf => ?_) (fun hf => ?_)) <;> (try (exfalso; first | omega | exact hf trivial | contradiction))
  · have ha : atE e n = bodyE e [] false := by unfold atE; rw [if_neg (by simpa using hf)]
    have h0 := hc0 (by rw [ha]; simpa using hf)
    rw [ha, h0]
    apply W.sr
    apply omv; rfl; rfl
    apply omv; rfl; rfl
    apply obn; rfl; rfl; rfl; apply Bin.eql
    apply omv; rfl; rfl
    apply oy; rfl; rfl; rfl; apply Pev.move; rfl; exact yes
    apply oy; rfl; rfl; rfl; apply Pev.bin; rfl; exact fun h => h; rfl; exact yes; intro hcond; apply Bin.eql
    apply oop; rfl; apply Pev.pick_and; rfl; exact yes; rfl; exact fun h => h
    apply oas; rfl; rfl
    apply OL.nx
    refine W.rt ?_
    ((with_reducible apply At.fin1); rfl; rfl; intro w' hw')
    exact ⟨by simp, hw'.fr (by exact mau)⟩
  have hf0 : bodyE e [] false = 0 := by simpa using hf
  apply W.sk
  apply W.seq
  apply W.sr
  apply omv; rfl; rfl
  apply obn; rfl; rfl; rfl; apply Bin.lss
  apply omv; rfl; rfl
  apply ono; rfl; rfl; rfl; apply Pev.move; rfl; exact yes
  apply ono; rfl; rfl; rfl; apply Pev.move; rfl; exact yes
  apply ono; rfl; rfl; rfl; apply Pev.len_slice; rfl; exact fun h => h; rfl
  apply ono; rfl; rfl; rfl; apply Pev.bin; rfl; exact fun h => h; rfl; exact fun h => h; intro hcond; apply Bin.geq
  apply oop; rfl; apply Pev.pick_or; rfl; exact yes; rfl; exact fun h => h
  apply OL.nx
  refine W.cond rfl (fun hb => ?_) (fun hb => ?_)
  · have hn : ¬ (0 ≤ n ∧ n < (e.length : Int)) := by rw [hel]; grind
    have ha : atE e n = 12 := by unfold atE; rw [if_pos hf0, if_neg hn]
    have h0 := hc0 (by rw [ha]; decide)
    rw [ha, h0]
    apply W.sr
    apply omv; rfl; rfl
    apply obn; rfl; rfl; rfl; apply Bin.eql
    apply omv; rfl; rfl
    apply oy; rfl; rfl; rfl; apply Pev.move; rfl; exact yes
    apply oy; rfl; rfl; rfl; apply Pev.bin; rfl; exact yes; rfl; exact yes; intro hcond; apply Bin.eql
    apply oop; rfl; apply Pev.pick_and; rfl; exact yes; rfl; exact yes
    apply oas; rfl; rfl
    apply OL.nx
    refine W.rt ?_
    ((with_reducible apply At.fin1); rfl; rfl; intro w' hw')
    exact ⟨by simp, hw'.fr (by exact mau)⟩
  · have hn : 0 ≤ n ∧ n < (e.length : Int) := by rw [hel]; grind
    have ha : atE e n = 0 := by unfold atE; rw [if_pos hf0, if_pos hn]
    have h1 := hc1 ha
    rw [ha, h1]
    obtain ⟨m, rfl⟩ : ∃ m : Nat, n = (m : Int) := ⟨n.toNat, by omega⟩
    have hok := BodyOk.of hf0
    have hl4 := hok.tree.len
    apply W.sk
    apply W.sr
    apply omv; rfl; rfl
    apply obn; rfl; rfl; rfl; apply Bin.eql
    apply omv; rfl; rfl
    apply oy; rfl; rfl; rfl; apply Pev.move; rfl; exact yes
    apply oy; rfl; rfl; rfl; apply Pev.move; rfl; exact yes
    apply oy; rfl; rfl; rfl; apply Pev.move; rfl; exact yes
    (((first | (with_reducible apply OL.op) | (with_reducible apply QL.op)); (exact Guard.au); rfl; rfl); (refine Pev.call (v := .int .i64 (tsz (grow e m) : Int)) rfl (by exact Args.au) (fun _ w2 hw2 => (RCount_calls es q cap m w2 (he.at hw2 (by exact mau) (fun k hk => by exact NotOwned.au)) (by omega) (by omega) (by rw [hee]; exact hok.tree.tree)).mono (fun e1 w5 h => ⟨by rw [h.1, hee], hw2.ext h.2⟩))))
    apply oy; rfl; rfl; rfl; apply Pev.bin; rfl; exact yes; rfl; exact yes; intro hcond; apply Bin.eql
    apply oop; rfl; apply Pev.pick_and; rfl; exact yes; rfl; exact yes
    apply oas; rfl; rfl
    apply OL.nx
    apply W.ret
    ((with_reducible apply At.fin1); rfl; rfl; intro w' hw')
    exact ⟨by simp, hw'.fr (by exact mau)⟩
end Go.Proofs.YtlboppiogeaicaaDoor.co

/- The walk of the law CoreSame. Conditions: none. -/
namespace Go.Proofs.YtlboppiogeaicaaDoor.co
open Go.RowKit Go.Eng Go.Co
set_option linter.unusedVariables false
set_option linter.unusedSimpArgs false
set_option maxRecDepth 100000
set_option maxHeartbeats 1000000 in
theorem sames_law (q : Option Addr) (cap : Nat) (es : List (Ex × ExY)) (q2 : Option Addr) (cap2 : Nat) (fs : List (Ex × ExY)) (w : World) (he : Arr exR w (low w) es q) (hlen : es.length ≤ 9223372036854775807) (hcap : es.length ≤ cap) (hf : Arr exR w (low w) fs q2) (hlen2 : fs.length ≤ 9223372036854775807) (hcap2 : fs.length ≤ cap2) (hg : 1 < w.heap.size) (hs : arityAt w) :
    Calls Tryd.prog 6 #[.slice q es.length cap, .slice q2 fs.length cap2] w fun e w' => e = .returned (.bool true) ∧ Ext w w' := by
  refine enter Tryd.func6 rfl Tryd.ntmps6 rfl (Cls.start w) ?_
  (simp only [argEnv, Nat.zero_add, Nat.reduceAdd])
  apply W.sr
  apply oas; rfl; rfl
  apply OL.nx
  apply W.seq
  apply W.sr
  refine OL.callE (α := Nat × World) (fun z => .pointer (some ⟨z.1, 0, none⟩)) (fun z => NodO z.2 (.mk 1 1 [] [] []) z.1) (fun z => Cls [] [z.2, w]) rfl rfl (by exact Args.au) (fun w2 hw2 => (W_calls 1 w2 (by simp [I64])).mono (fun e1 w3 ⟨b, h1, h2, h3⟩ => ⟨(b, w3), h1, h3, (hw2.ext h2).note⟩)) ?_
  rintro ⟨b, w3⟩ hN
  simp only at hN ⊢
  refine OL.callE (α := (Option Addr × Nat × List (Ex × ExY)) × World) (fun z => .slice z.1.1 z.1.2.2.length z.1.2.1) (fun z => z.1.2.2.map Prod.fst = lay (.mk 1 1 [] [] []) 0 ∧ z.1.2.2.length ≤ z.1.2.1 ∧ Arr exR z.2 (low z.2) z.1.2.2 z.1.1) (fun z => Cls [] [z.2, w]) rfl rfl (by exact Args.au) (fun w2 hw2 => (List_calls _ b w2 (hN.at hw2 (by exact mau) (fun k hk => NotOwned.nil)) (by simp [tsz, tszs])).mono (fun e1 w4 ⟨q1, c1, l1, h1, h2, h3, h4, h5⟩ => ⟨((q1, c1, l1), w4), h1, ⟨h3, h4, h5⟩, ((hw2.forget (by simp)).ext h2).note⟩)) ?_
  rintro ⟨⟨q1, c1, l1⟩, w4⟩ ⟨hl1, hc1, ha1⟩
  simp only at hl1 hc1 ha1 ⊢
  refine OL.callE (α := Nat × World) (fun z => .pointer (some ⟨z.1, 0, none⟩)) (fun z => NodO z.2 (.mk 1 1 [] [] []) z.1) (fun z => Cls [] [z.2, w4, w]) rfl rfl (by exact Args.au) (fun w2 hw2 => (W_calls 1 w2 (by simp [I64])).mono (fun e1 w3 ⟨b, h1, h2, h3⟩ => ⟨(b, w3), h1, h3, (hw2.ext h2).note⟩)) ?_
  rintro ⟨b2, w5⟩ hN2
  simp only at hN2 ⊢
  refine OL.callE (α := (Option Addr × Nat × List (Ex × ExY)) × World) (fun z => .slice z.1.1 z.1.2.2.length z.1.2.1) (fun z => z.1.2.2.map Prod.fst = lay (.mk 1 1 [] [] []) 0 ∧ z.1.2.2.length ≤ z.1.2.1 ∧ Arr exR z.2 (low z.2) z.1.2.2 z.1.1) (fun z => Cls [] [z.2, w4, w]) rfl rfl (by exact Args.au) (fun w2 hw2 => (List_calls _ b2 w2 (hN2.at hw2 (by exact mau) (fun k hk => NotOwned.nil)) (by simp [tsz, tszs])).mono (fun e1 w4 ⟨q1, c1, l1, h1, h2, h3, h4, h5⟩ => ⟨((q1, c1, l1), w4), h1, ⟨h3, h4, h5⟩, ((hw2.forget (fun s hs => by simp at hs ⊢; rcases hs with h | h <;> simp [h])).ext h2).note⟩)) ?_
  rintro ⟨⟨q3, c3, l3⟩, w6⟩ ⟨hl3, hc3, ha3⟩
  simp only at hl3 hc3 ha3 ⊢
  have hb1 : bodyE (l1.map Prod.fst) [] false = 0 := by rw [hl1]; exact okB_ok (word_ok 1 (.inl rfl))
  have hll1 : l1.length = 1 := by
    have := congrArg List.length hl1
    rw [List.length_map, lay_len] at this
    simpa [tsz, tszs] using this
  have hll3 : l3.length = 1 := by
    have := congrArg List.length hl3
    rw [List.length_map, lay_len] at this
    simpa [tsz, tszs] using this
  (((first | (with_reducible apply OL.op) | (with_reducible apply QL.op)); (exact Guard.au); rfl; rfl); (refine Pev.call (v := .bool true) rfl (by exact Args.au) (fun _ w2 hw2 => (Same_calls l1 l3 q1 q3 c1 c3 w2 (ha1.at hw2 (by exact mau) (fun k hk => NotOwned.nil)) (ha3.at hw2 (by exact mau) (fun k hk => NotOwned.nil)) (by omega) (by omega) (Nat.lt_of_lt_of_le hg (hw2.kp w (by exact mau)).size) (hs.at hg hw2 (by exact mau) (fun k hk => by exact NotOwned.au))).mono ?_)))
  · rintro e w7 ⟨r, h1, h2, h3⟩
    have hr : r = true := h3.2 ⟨hb1, by rw [hl3, ← hl1]; exact hb1, by rw [hl3, ← hl1, hll1, hll3]⟩
    exact ⟨by rw [h1, hr], hw2.ext h2⟩
  apply oop; rfl; apply Pev.not; rfl; exact yes
  apply OL.nx
  refine W.cond rfl (fun hb => by simp at hb) (fun _ => ?_)
  apply W.sk
  apply W.sr
  apply omv; rfl; rfl
  obtain ⟨e, hee⟩ : ∃ e, es.map Prod.fst = e := ⟨_, rfl⟩
  obtain ⟨f, hff⟩ : ∃ f, fs.map Prod.fst = f := ⟨_, rfl⟩
  obtain ⟨same, hsame⟩ : ∃ same : Bool, (same = true ↔ bodyE e [] false = 0 ∧ bodyE f [] false = 0 ∧ canon (grow e (es.length - 1)) [] = canon (grow f (fs.length - 1)) []) := by classical exact ⟨decide _, decide_eq_true_iff⟩
  (((first | (with_reducible apply OL.op) | (with_reducible apply QL.op)); (exact Guard.au); rfl; rfl); (exact Pev.call (v := .int .i64 (bodyE e [] false)) rfl (by exact Args.au) (fun _ w2 hw2 => (Fault_calls es q cap w2 (he.at hw2 (by exact mau) (fun k hk => by exact NotOwned.au)) hlen).mono (fun e1 w5 h => ⟨by rw [h.1, hee], hw2.ext h.2⟩))))
  apply obn; rfl; rfl; rfl; apply Bin.eql
  apply omv; rfl; rfl
  apply oy; rfl; rfl; rfl; apply Pev.move; rfl; exact yes
  (((first | (with_reducible apply OL.op) | (with_reducible apply QL.op)); (exact Guard.au); rfl; rfl); (exact Pev.call (v := .int .i64 (bodyE f [] false)) rfl (by exact Args.au) (fun _ w2 hw2 => (Fault_calls fs q2 cap2 w2 (hf.at hw2 (by exact mau) (fun k hk => by exact NotOwned.au)) hlen2).mono (fun e1 w5 h => ⟨by rw [h.1, hff], hw2.ext h.2⟩))))
  apply oy; rfl; rfl; rfl; apply Pev.bin; rfl; exact fun h => h; rfl; exact yes; intro hcond; apply Bin.eql
  apply oop; rfl; apply Pev.pick_and; rfl; exact yes; rfl; exact fun h => h
  apply omv; rfl; rfl
  apply oy; rfl; rfl; rfl; apply Pev.move; rfl; exact yes
  apply oy; rfl; rfl; rfl; apply Pev.move; rfl; exact yes
  (((first | (with_reducible apply OL.op) | (with_reducible apply QL.op)); (exact Guard.au); rfl; rfl); (refine Pev.call (v := .bool (decide (txt (canon (grow e (es.length - 1)) []) = txt (canon (grow f (fs.length - 1)) [])))) rfl (by exact Args.au) (fun hcnd w2 hw2 => ?_)))
  · have hbb : bodyE e [] false = 0 ∧ bodyE f [] false = 0 := by simpa using hcnd
    have h5 := Alike_calls es fs q q2 cap cap2 w2 (he.at hw2 (by exact mau) (fun k hk => by exact NotOwned.au)) (hf.at hw2 (by exact mau) (fun k hk => by exact NotOwned.au)) (by rw [hee]; exact hbb.1) (by rw [hff]; exact hbb.2)
    rw [hee, hff] at h5
    exact h5.mono (fun e1 w5 h => ⟨h.1, hw2.ext h.2⟩)
  apply oop; rfl; apply Pev.pick_and; rfl; exact yes; rfl; exact fun h => h
  apply oas; rfl; rfl
  apply OL.nsr
  apply omv; rfl; rfl
  apply omv; rfl; rfl
  (((first | (with_reducible apply OL.op) | (with_reducible apply QL.op)); (exact Guard.au); rfl; rfl); (refine Pev.call (v := .bool same) rfl (by exact Args.au) (fun _ w2 hw2 => (Same_calls es fs q q2 cap cap2 w2 (he.at hw2 (by exact mau) (fun k hk => by exact NotOwned.au)) (hf.at hw2 (by exact mau) (fun k hk => by exact NotOwned.au)) hlen hlen2 (Nat.lt_of_lt_of_le hg (hw2.kp w (by exact mau)).size) (hs.at hg hw2 (by exact mau) (fun k hk => by exact NotOwned.au))).mono ?_)))
  · rintro e1 w7 ⟨r, h1, h2, h3⟩
    rw [hee, hff] at h3
    have hr : r = same := by rw [Bool.eq_iff_iff, h3, hsame]
    exact ⟨by rw [h1, hr], hw2.ext h2⟩
  apply omv; rfl; rfl
  apply obn; rfl; rfl; rfl; apply Bin.bool_eql; rfl
  apply omv; rfl; rfl
  apply oy; rfl; rfl; rfl; apply Pev.move; rfl; exact yes
  apply oy; rfl; rfl; rfl; apply Pev.move; rfl; exact yes
  (((first | (with_reducible apply OL.op) | (with_reducible apply QL.op)); (exact Guard.au); rfl; rfl); (refine Pev.call (v := .bool (decide (bodyE e [] false = 0))) rfl (by exact Args.au) (fun _ w2 hw2 => (Same_calls es es q q cap cap w2 (he.at hw2 (by exact mau) (fun k hk => by exact NotOwned.au)) (he.at hw2 (by exact mau) (fun k hk => by exact NotOwned.au)) hlen hlen (Nat.lt_of_lt_of_le hg (hw2.kp w (by exact mau)).size) (hs.at hg hw2 (by exact mau) (fun k hk => by exact NotOwned.au))).mono ?_)))
  · rintro e1 w7 ⟨r, h1, h2, h3⟩
    rw [hee] at h3
    have hr : r = decide (bodyE e [] false = 0) := by rw [Bool.eq_iff_iff, h3, decide_eq_true_iff]; simp
    exact ⟨by rw [h1, hr], hw2.ext h2⟩
  apply oy; rfl; rfl; rfl; apply Pev.move; rfl; exact yes
  (((first | (with_reducible apply OL.op) | (with_reducible apply QL.op)); (exact Guard.au); rfl; rfl); (exact Pev.call (v := .int .i64 (bodyE e [] false)) rfl (by exact Args.au) (fun _ w2 hw2 => (Fault_calls es q cap w2 (he.at hw2 (by exact mau) (fun k hk => by exact NotOwned.au)) hlen).mono (fun e1 w5 h => ⟨by rw [h.1, hee], hw2.ext h.2⟩))))
  apply oy; rfl; rfl; rfl; apply Pev.bin; rfl; exact fun h => h; rfl; exact yes; intro hcond; apply Bin.eql
  apply oy; rfl; rfl; rfl; apply Pev.bin; rfl; exact fun h => h; rfl; exact fun h => h; intro hcond; apply Bin.bool_eql; rfl
  apply oop; rfl; apply Pev.pick_and; rfl; exact yes; rfl; exact fun h => h
  apply oas; rfl; rfl
  apply OL.nx
  apply W.ret
  ((with_reducible apply At.fin1); rfl; rfl; intro w' hw')
  refine ⟨?_, hw'.fr (by exact mau)⟩
  have hs2 : same = (decide (bodyE e [] false = 0) && decide (bodyE f [] false = 0) && decide (txt (canon (grow e (es.length - 1)) []) = txt (canon (grow f (fs.length - 1)) []))) := by
    rw [Bool.eq_iff_iff, hsame]
    simp only [Bool.and_eq_true, decide_eq_true_eq, txt_eq, and_assoc]
  rw [hs2]
  by_cases h1 : bodyE e [] false = 0 <;> by_cases h2 : bodyE f [] false = 0 <;> simp [h1, h2]
end Go.Proofs.YtlboppiogeaicaaDoor.co

/- Readings with the reach: what a slice's and a struct's parts are, and how much they weigh at most. General. No condition. -/
namespace Go.Eng
open Go.RowKit Go.ChangeShapes Go.WideShapes Go.ChangeAt
set_option linter.unusedVariables false
set_option linter.unusedSimpArgs false
section
variable {H : Type} {enc : TypeId × Value → H} {P : Program} {w : World} {spare : Nat → Bool} {held : Bool}

/-- a datum within reach -/
def Lt (P : Program) (t : TypeId) (d : DataW H) : Prop := ∀ n ∈ d.weights P t, n ≤ reachBytes
theorem weightsAll_mem {e : TypeId} : ∀ {ds : List (DataW H)} {d : DataW H}, d ∈ ds → ∀ n ∈ d.weights P e, n ∈ DataW.weightsAll P e ds
  | x :: ds, d, hd, n, hn => by
    simp only [DataW.weightsAll, List.mem_append]
    rcases List.mem_cons.1 hd with rfl | hd
    · exact .inl hn
    · exact .inr (weightsAll_mem hd n hn)
theorem Lt.arg {ts : List TypeId} {ds : List (DataW H)} (h : (DataW.weightsEach P ts ds).all (· ≤ reachBytes) = true) {j : Nat} {t : TypeId} {d : DataW H} (ht : ts[j]? = some t) (hd : ds[j]? = some d) : Lt P t d := fun n hn => by
  have := List.all_eq_true.1 h _ (DataW.weights_mem_each ht hd n hn)
  simpa using this
theorem Lt.str {t : TypeId} {b : List UInt8} (h : Lt (H := H) P t (.lit (.string b))) : b.length ≤ reachBytes := h b.length (by simp [DataW.weights])

/-- a struct that reads -/
theorem rd_struct {t : TypeId} {fs : Array Field} {fuel : Nat} {cs : List Value} {x : DataW H × List MemPlace} (ht : P.underlying t = some (.struct fs)) (h : DataW.trod enc P w 0 spare held fuel t cs = some x) (hw : Lt P t x.1) :
    cs.length = P.cellsOf t ∧ ∃ n, n < fuel ∧ ∀ (i : Nat) (f : Field), fs[i]? = some f → ∃ y, DataW.trod enc P w 0 spare held n f.type ((cs.drop f.offset).take (P.cellsOf f.type)) = some y ∧ Lt P f.type y.1 := by
  obtain ⟨xs, n, hfu, rfl, hlen, hxl, hf⟩ := DataW.trod_struct ht h
  refine ⟨hlen, n, by omega, fun i f hi => ?_⟩
  have hlt : i < xs.length := by rw [hxl]; exact (Array.getElem?_eq_some_iff.1 hi).1
  refine ⟨xs[i], by rw [hf i f hi, List.getElem?_eq_getElem hlt], fun k hk => hw k ?_⟩
  simp only [DataW.weights, ht]
  exact DataW.weights_mem_each (j := i) (t := f.type) (d := xs[i].1) (by simpa using ⟨f, by simpa using hi, rfl⟩) (by simp [hlt]) k hk
/-- a slice that reads -/
theorem rd_slice0 {t e : TypeId} {sz fuel : Nat} {cs : List Value} {x : DataW H × List MemPlace} (ht : P.underlying t = some (.slice e)) (hs : P.cellsOf e = sz) (h : DataW.trod enc P w 0 spare held fuel t cs = some x) (hw : Lt P t x.1) :
    ∃ (q : Option Addr) (len cap : Nat), cs = [.slice q len cap] ∧ len ≤ cap ∧ cap ≤ maxLen ∧ len * P.bytesOf e ≤ reachBytes ∧ (q = none → len = 0) ∧
      ∃ n, n < fuel ∧ ∀ a, q = some a → ∀ i, i < len → ∃ cs' y, CellsAt w (a.add (i * sz)) cs' ∧ cs'.length = sz ∧ DataW.trod enc P w 0 spare held n e cs' = some y ∧ Lt P e y.1 := by
  rcases DataW.trod_slice ht h with ⟨rfl, _⟩ | ⟨a, len, cap, elems, rest, n, hf, rfl, rfl, _, hl, hm, hlen, hel, _, _⟩
  · refine ⟨none, 0, 0, rfl, Nat.le_refl _, by simp [maxLen], by simp, fun _ => rfl, 0, ?_, fun a ha => by cases ha⟩
    cases fuel with
    | zero => simp [DataW.trod] at h
    | succ n => omega
  · have hwt : len * P.bytesOf e ≤ reachBytes := by
      have h1 := hw ((elems.map (·.1)).length * P.bytesOf e + (rest.map (·.1)).length * P.bytesOf e) (by simp [DataW.weights, ht, Nat.add_mul])
      rw [List.length_map, hlen] at h1
      omega
    refine ⟨some a, len, cap, rfl, hl, hm, hwt, (fun hn => by cases hn), n, by omega, fun a' ha i hi => ?_⟩
    obtain rfl := Option.some.inj ha
    have h1 := hel i hi
    rw [List.getElem?_eq_getElem (by omega)] at h1
    rw [hs] at h1
    obtain ⟨cs', hc, ht'⟩ := Option.bind_eq_some_iff.1 h1
    obtain ⟨h2, h3⟩ := cellsAt_of hc
    refine ⟨cs', _, h2, h3, ht', fun k hk => hw k ?_⟩
    simp only [DataW.weights, ht]
    exact List.mem_cons_of_mem _ (List.mem_append_left _ (weightsAll_mem (d := elems[i].1) (List.mem_map.2 ⟨_, List.getElem_mem (by omega), rfl⟩) k hk))
variable {α : Type} {f : α → List Value} {sz : Nat} {R : α → Prop}
/-- a slice whose elements read, as a list -/
theorem rd_slice {t e : TypeId} {fuel : Nat} {cs : List Value} {x : DataW H × List MemPlace} (ht : P.underlying t = some (.slice e)) (hs : P.cellsOf e = sz) (hsz : 0 < sz) (hf : ∀ x, (f x).length = sz)
    (he : ∀ (n : Nat) (cs' : List Value) (y : DataW H × List MemPlace), n < fuel → DataW.trod enc P w 0 spare held n e cs' = some y → Lt P e y.1 → ∃ u : α, cs' = f u ∧ R u)
    (h : DataW.trod enc P w 0 spare held fuel t cs = some x) (hw : Lt P t x.1) :
    ∃ (q : Option Addr) (l : List α) (cap : Nat), cs = [.slice q l.length cap] ∧ l.length ≤ cap ∧ cap ≤ maxLen ∧ l.length * P.bytesOf e ≤ reachBytes ∧ SlAt w w.heap.size q (cat f l) ∧ ∀ u ∈ l, R u := by
  obtain ⟨q, len, cap, rfl, hle, hcap, hwt, hq0, m, hm, hel⟩ := rd_slice0 ht hs h hw
  cases q with
  | none =>
    obtain rfl := hq0 rfl
    exact ⟨none, [], cap, rfl, hle, hcap, by simp, SlAt.nil, fun u hu => by cases hu⟩
  | some a =>
    obtain ⟨l, hl, hr⟩ := list_of (fun i (u : α) => CellsAt w (a.add (i * sz)) (f u) ∧ R u) len (fun i hi => by
      obtain ⟨cs', y, hc, hl1, ht', hy⟩ := hel a rfl i hi
      obtain ⟨u, rfl, hR⟩ := he m cs' y hm ht' hy
      exact ⟨u, hc, hR⟩)
    subst hl
    refine ⟨some a, l, cap, rfl, hle, hcap, hwt, fun hv => ⟨a, rfl, ?_, fun j v hj => ?_⟩, fun u hu => ?_⟩
    · rw [cat_length hf] at hv
      have hl0 : 0 < l.length := Nat.pos_of_mul_pos_right hv
      have h0 := (hr 0 _ (List.getElem?_eq_getElem hl0)).1
      rw [Nat.zero_mul, add_zero_] at h0
      have hz : 0 < (f l[0]).length := by rw [hf]; exact hsz
      have := h0 0 _ (List.getElem?_eq_getElem hz)
      rw [add_zero_] at this
      exact cell_lt this
    · have hjl := (List.getElem?_eq_some_iff.1 hj).1
      rw [cat_length hf] at hjl
      have hi : j / sz < l.length := Nat.div_lt_of_lt_mul (by rwa [Nat.mul_comm] at hjl)
      have h0 := (hr (j / sz) _ (List.getElem?_eq_getElem hi)).1
      have hm' : j % sz < (f l[j / sz]).length := by rw [hf]; exact Nat.mod_lt _ hsz
      have h1 := cat_get hf (List.getElem?_eq_getElem hi) (j % sz) _ (List.getElem?_eq_getElem hm')
      have ej : j / sz * sz + j % sz = j := by rw [Nat.mul_comm]; exact Nat.div_add_mod j sz
      rw [ej, hj] at h1
      have h2 := h0 (j % sz) _ (List.getElem?_eq_getElem hm')
      rw [add_add, ej] at h2
      rw [h2, h1]
    · obtain ⟨i, hi, rfl⟩ := List.getElem_of_mem hu
      exact (hr i _ (List.getElem?_eq_getElem hi)).2
end
end Go.Eng

/- Readings with the reach, as relations. General. No condition. Readings of core expressions. No condition. -/
namespace Go.Eng
open Go.RowKit Go.ChangeShapes Go.WideShapes Go.ChangeAt
set_option linter.unusedVariables false
set_option linter.unusedSimpArgs false
section
variable {H : Type} {enc : TypeId × Value → H} {P : Program} {w : World} {spare : Nat → Bool} {held : Bool} {α μ : Type} {R : Rel α μ}
theorem rd_arrL {t e : TypeId} {fuel : Nat} {cs : List Value} {x : DataW H × List MemPlace} (ht : P.underlying t = some (.slice e)) (hs : P.cellsOf e = R.sz)
    (he : ∀ (n : Nat) (cs' : List Value) (y : DataW H × List MemPlace), n < fuel → DataW.trod enc P w 0 spare held n e cs' = some y → Lt P e y.1 → ∃ u : α × μ, cs' = R.c u ∧ R.ok w (low w) u.1 u.2)
    (h : DataW.trod enc P w 0 spare held fuel t cs = some x) (hw : Lt P t x.1) :
    ∃ (q : Option Addr) (l : List (α × μ)) (cap : Nat), cs = [.slice q l.length cap] ∧ l.length ≤ cap ∧ cap ≤ maxLen ∧ l.length * P.bytesOf e ≤ reachBytes ∧ Arr R w (low w) l q := by
  obtain ⟨q, l, cap, e1, h1, h2, h3, h4, h5⟩ := rd_slice (α := α × μ) (f := R.c) (R := fun u => R.ok w (low w) u.1 u.2) ht hs R.pos R.clen he h hw
  exact ⟨q, l, cap, e1, h1, h2, h3, fun hl => h4 (by rw [cat_length (f := R.c) R.clen]; exact Nat.mul_pos hl R.pos), h5⟩
end
end Go.Eng
namespace Go.Proofs.YtlboppiogeaicaaDoor.co
open Go.RowKit Go.Eng Go.Co Go.ChangeShapes Go.WideShapes Go.ChangeAt
set_option linter.unusedVariables false
set_option linter.unusedSimpArgs false
set_option maxRecDepth 100000
section
variable {H : Type} {enc : TypeId × Value → H} {w : World} {spare : Nat → Bool} {held : Bool}
theorem list2 {α : Type} {l : List α} (h : l.length = 2) : ∃ a b, l = [a, b] := by
  match l, h with
  | [a, b], _ => exact ⟨a, b, rfl⟩
theorem list5 {α : Type} {l : List α} (h : l.length = 5) : ∃ a b c d e, l = [a, b, c, d, e] := by
  match l, h with
  | [a, b, c, d, e], _ => exact ⟨a, b, c, d, e, rfl⟩
theorem reach47 : reachBytes ≤ 140737488355328 := by decide
theorem cat_ints (l : List Int) : cat (fun x : Int => [Value.int .i64 x]) l = ints l := by
  induction l with
  | nil => rfl
  | cons x r ih =>
    show [Value.int .i64 x] ++ cat (fun x : Int => [Value.int .i64 x]) r = _
    rw [ih]
    rfl
theorem ints_rd {fuel : Nat} {cs : List Value} {x : DataW H × List MemPlace} (h : DataW.trod enc Tryd.prog w 0 spare held fuel 25 cs = some x) (hw : Lt Tryd.prog 25 x.1) :
    ∃ (q : Option Addr) (l : List Int) (cap : Nat), cs = [.slice q l.length cap] ∧ l.length ≤ cap ∧ l.length ≤ 140737488355328 ∧ IntsO w (low w) l q ∧ ∀ n ∈ l, I64 n := by
  obtain ⟨q, l, cap, e1, h1, h2, h3, h4, h5⟩ := rd_slice (α := Int) (f := fun x => [Value.int .i64 x]) (R := fun n => I64 n) Tryd.underlying25 (by kernel_rfl) (by decide) (fun _ => rfl) (fun n cs' y _ hy _ => by
    obtain ⟨k, e1, hk⟩ := DataW.trod_int Tryd.underlying3 hy
    exact ⟨k, e1, wf_i64 hk.2⟩) h hw
  rw [cat_ints] at h4
  have hb : Tryd.prog.bytesOf 3 = 8 := by kernel_rfl
  rw [hb] at h3
  have := reach47
  exact ⟨q, l, cap, e1, h1, by omega, fun hl => h4 (by rw [ints_length]; exact hl), h5⟩
theorem alt_rd {fuel : Nat} {cs : List Value} {x : DataW H × List MemPlace} (h : DataW.trod enc Tryd.prog w 0 spare held fuel 132 cs = some x) (hw : Lt Tryd.prog 132 x.1) : ∃ u : Al × Sc, cs = altR_.c u ∧ altR_.ok w (low w) u.1 u.2 := by
  obtain ⟨hlen, n, hn, hf⟩ := rd_struct Tryd.underlying132 h hw
  rw [show Tryd.prog.cellsOf 132 = 2 by kernel_rfl] at hlen
  obtain ⟨a0, a1, rfl⟩ := list2 hlen
  obtain ⟨y0, g0, w0⟩ := hf 0 _ rfl
  obtain ⟨y1, g1, w1⟩ := hf 1 _ rfl
  change DataW.trod enc Tryd.prog w 0 spare held n 3 ((List.drop 0 [a0, a1]).take (Tryd.prog.cellsOf 3)) = some y0 at g0
  change DataW.trod enc Tryd.prog w 0 spare held n 25 ((List.drop 1 [a0, a1]).take (Tryd.prog.cellsOf 25)) = some y1 at g1
  rw [show Tryd.prog.cellsOf 3 = 1 by kernel_rfl] at g0
  rw [show Tryd.prog.cellsOf 25 = 1 by kernel_rfl] at g1
  obtain ⟨k, e0, hk⟩ := DataW.trod_int Tryd.underlying3 g0
  obtain ⟨q, l, cap, e1, h1, h2, h3, h4⟩ := ints_rd g1 w1
  simp at e0 e1
  exact ⟨(⟨k, l⟩, (q, cap)), by rw [e0, e1]; rfl, wf_i64 hk.2, ⟨h2, h1⟩, h3⟩
theorem expr_rd {fuel : Nat} {cs : List Value} {x : DataW H × List MemPlace} (h : DataW.trod enc Tryd.prog w 0 spare held fuel 28 cs = some x) (hw : Lt Tryd.prog 28 x.1) : ∃ u : Ex × ExY, cs = exR.c u ∧ exR.ok w (low w) u.1 u.2 := by
  obtain ⟨hlen, n, hn, hf⟩ := rd_struct Tryd.underlying28 h hw
  rw [show Tryd.prog.cellsOf 28 = 5 by kernel_rfl] at hlen
  obtain ⟨a0, a1, a2, a3, a4, rfl⟩ := list5 hlen
  obtain ⟨y0, g0, w0⟩ := hf 0 _ rfl
  obtain ⟨y1, g1, w1⟩ := hf 1 _ rfl
  obtain ⟨y2, g2, w2⟩ := hf 2 _ rfl
  obtain ⟨y3, g3, w3⟩ := hf 3 _ rfl
  obtain ⟨y4, g4, w4⟩ := hf 4 _ rfl
  change DataW.trod enc Tryd.prog w 0 spare held n 3 ((List.drop 0 [a0, a1, a2, a3, a4]).take (Tryd.prog.cellsOf 3)) = some y0 at g0
  change DataW.trod enc Tryd.prog w 0 spare held n 3 ((List.drop 1 [a0, a1, a2, a3, a4]).take (Tryd.prog.cellsOf 3)) = some y1 at g1
  change DataW.trod enc Tryd.prog w 0 spare held n 25 ((List.drop 2 [a0, a1, a2, a3, a4]).take (Tryd.prog.cellsOf 25)) = some y2 at g2
  change DataW.trod enc Tryd.prog w 0 spare held n 25 ((List.drop 3 [a0, a1, a2, a3, a4]).take (Tryd.prog.cellsOf 25)) = some y3 at g3
  change DataW.trod enc Tryd.prog w 0 spare held n 26 ((List.drop 4 [a0, a1, a2, a3, a4]).take (Tryd.prog.cellsOf 26)) = some y4 at g4
  rw [show Tryd.prog.cellsOf 3 = 1 by kernel_rfl] at g0 g1
  rw [show Tryd.prog.cellsOf 25 = 1 by kernel_rfl] at g2 g3
  rw [show Tryd.prog.cellsOf 26 = 1 by kernel_rfl] at g4
  obtain ⟨op, e0, hop⟩ := DataW.trod_int Tryd.underlying3 g0
  obtain ⟨nn, e1, hnn⟩ := DataW.trod_int Tryd.underlying3 g1
  obtain ⟨qb, lb, cb, e2, b1, b2, b3, b4⟩ := ints_rd g2 w2
  obtain ⟨qk, lk, ck, e3, k1, k2, k3, k4⟩ := ints_rd g3 w3
  obtain ⟨qa, la, ca, e4, a1, a2, a3, a4⟩ := rd_arrL (R := altR_) Tryd.underlying26 (by kernel_rfl) (fun n cs' y _ hy hwy => alt_rd hy hwy) g4 w4
  have hb : Tryd.prog.bytesOf 132 = 32 := by kernel_rfl
  rw [hb] at a3
  have := reach47
  simp at e0 e1 e2 e3 e4
  refine ⟨(⟨op, nn, lb, lk, la.map Prod.fst⟩, ⟨(qb, cb), (qk, ck), (qa, ca)⟩), by rw [e0, e1, e2, e3, e4]; simp [Rel.c, exR, exC], ?_⟩
  exact ⟨wf_i64 hop.2, wf_i64 hnn.2, b2, k2, by simp only [List.length_map]; omega, b1, k1, by simp only [List.length_map]; exact a1, b3, k3, ⟨la, rfl, a4⟩⟩
theorem exprs_rd {fuel : Nat} {cs : List Value} {x : DataW H × List MemPlace} (h : DataW.trod enc Tryd.prog w 0 spare held fuel 22 cs = some x) (hw : Lt Tryd.prog 22 x.1) :
    ∃ (q : Option Addr) (l : List (Ex × ExY)) (cap : Nat), cs = [.slice q l.length cap] ∧ l.length ≤ 9223372036854775807 ∧ Arr exR w (low w) l q := by
  obtain ⟨q, l, cap, e1, h1, h2, h3, h4⟩ := rd_arrL (R := exR) Tryd.underlying22 (by kernel_rfl) (fun n cs' y _ hy hwy => expr_rd hy hwy) h hw
  unfold maxLen at h2
  exact ⟨q, l, cap, e1, by omega, h4⟩
theorem exprs_rd2 {fuel : Nat} {cs : List Value} {x : DataW H × List MemPlace} (h : DataW.trod enc Tryd.prog w 0 spare held fuel 22 cs = some x) (hw : Lt Tryd.prog 22 x.1) :
    ∃ (q : Option Addr) (l : List (Ex × ExY)) (cap : Nat), cs = [.slice q l.length cap] ∧ l.length ≤ 9223372036854775807 ∧ l.length ≤ cap ∧ Arr exR w (low w) l q := by
  obtain ⟨q, l, cap, e1, h1, h2, h3, h4⟩ := rd_arrL (R := exR) Tryd.underlying22 (by kernel_rfl) (fun n cs' y _ hy hwy => expr_rd hy hwy) h hw
  unfold maxLen at h2
  exact ⟨q, l, cap, e1, by omega, h1, h4⟩
end
end Go.Proofs.YtlboppiogeaicaaDoor.co
