/- Texts of the proof of CoreSame, part 4: rules of a calculus for walking, plain laws, and walks of the functions that the law reaches. No condition. -/
import Derived.Test.YtlboppiogeaicaaDoorCoreSame3
/- The walks of the reference's num, last, hidden and masked. Conditions: none. -/
namespace Go.Co
open Go.Eng Go.RowKit
set_option linter.unusedVariables false
set_option linter.unusedSimpArgs false
def bs (l : List UInt8) : ByteArray := ⟨l.toArray⟩
theorem bs_append (a b : List UInt8) : bs a ++ bs b = bs (a ++ b) := by
  apply ByteArray.ext
  simp [bs, ByteArray.data_append]
theorem bs_size (l : List UInt8) : (bs l).size = l.length := by simp [bs, ByteArray.size]
theorem bs_inj {a b : List UInt8} : bs a = bs b ↔ a = b := ⟨fun h => by simpa [bs] using h, fun h => by rw [h]⟩
theorem dec_len : ∀ (k m : Nat), m < 10 ^ (k + 1) → (dec m).length ≤ k + 1 := by
  intro k
  induction k with
  | zero =>
    intro m hm
    rw [dec, if_pos (by simpa using hm)]
    simp
  | succ k ih =>
    intro m hm
    rw [dec]
    split
    · simp
    · rw [List.length_append, List.length_singleton]
      have := ih (m / 10) (by rw [Nat.pow_succ] at hm; omega)
      omega
theorem numL_len {n : Int} (h : I64 n) : (numL n).length ≤ 20 := by
  have h1 : n.natAbs < 10 ^ (18 + 1) := by
    unfold I64 at h
    omega
  unfold numL
  split
  · have := dec_len 18 _ h1
    rw [List.length_cons]
    omega
  · have := dec_len 18 n.toNat (by omega)
    omega
theorem numL_neg10 {n : Int} (h : n ≤ -10) : numL (n.tdiv 10) ++ numL (-(n.tmod 10)) = numL n := by
  obtain ⟨k, rfl⟩ : ∃ k : Nat, n = -((k : Nat) : Int) := ⟨n.natAbs, by omega⟩
  have h1 : (-((k : Nat) : Int)).tdiv 10 = -((k / 10 : Nat) : Int) := by rw [Int.neg_tdiv]; rfl
  have h2 : (-((k : Nat) : Int)).tmod 10 = -((k % 10 : Nat) : Int) := by rw [Int.neg_tmod]; rfl
  rw [h1, h2, Int.neg_neg]
  unfold numL
  rw [if_pos (by omega), if_neg (by omega), if_pos (by omega), Int.natAbs_neg, Int.natAbs_neg, Int.natAbs_natCast, Int.natAbs_natCast, Int.toNat_natCast]
  conv => rhs; rw [dec, if_neg (by omega)]
  rw [dec.eq_1 (k % 10), if_pos (by omega)]
  rfl
theorem numL_neg {n : Int} (h : n < 0) : [45] ++ numL (-n) = numL n := by
  unfold numL
  rw [if_neg (by omega), if_pos h, show (-n).toNat = n.natAbs by omega]
  rfl
theorem numL_pos {n : Int} (h : 10 ≤ n) : numL (n / 10) ++ numL (n % 10) = numL n := by
  obtain ⟨k, rfl⟩ : ∃ k : Nat, n = (k : Int) := ⟨n.toNat, by omega⟩
  unfold numL
  rw [if_neg (by omega), if_neg (by omega), if_neg (by omega), show ((k : Int) / 10).toNat = k / 10 by omega, show ((k : Int) % 10).toNat = k % 10 by omega, Int.toNat_natCast]
  conv => rhs; rw [dec, if_neg (by omega)]
  rw [dec.eq_1 (k % 10), if_pos (by omega)]
theorem num_digit : ∀ k : Nat, k < 10 → (⟨#[48, 49, 50, 51, 52, 53, 54, 55, 56, 57]⟩ : ByteArray).extract k (k + 1) = bs (numL (k : Int))
  | 0, _ => by decide +kernel
  | 1, _ => by decide +kernel
  | 2, _ => by decide +kernel
  | 3, _ => by decide +kernel
  | 4, _ => by decide +kernel
  | 5, _ => by decide +kernel
  | 6, _ => by decide +kernel
  | 7, _ => by decide +kernel
  | 8, _ => by decide +kernel
  | 9, _ => by decide +kernel
  | k + 10, h => by omega
theorem lastA_get {l : List Int} {n : Int} {i : Nat} {x : Int} (h : l[i]? = some x) : lastA l n (i + 1) = if x = n then (i : Int) else lastA l n i := by
  rw [lastA, h]
  simp
def nmu (n : Int) : Nat := n.natAbs + (if n < 0 then 1 else 0)
end Go.Co
namespace Go.Proofs.YtlboppiogeaicaaDoor.co
open Go.RowKit Go.Eng Go.Co
set_option linter.unusedVariables false
set_option linter.unusedSimpArgs false
set_option maxRecDepth 100000
theorem num_all : ∀ (m : Nat) (n : Int) (w : World), nmu n ≤ m → I64 n →
    Calls Tryd.prog 80 [.int .i64 n].toArray w fun e w' => e = .returned (.string (bs (numL n))) ∧ Ext w w' := by
  intro m
  induction m using Nat.strongRecOn with
  | _ m ih =>
  intro n w hm hn
  have hI := hn
  unfold I64 at hI
  refine enter Tryd.func80 rfl Tryd.ntmps80 rfl (Cls.start w) ?_
  (simp only [argEnv, Nat.zero_add, Nat.reduceAdd])
  apply W.sr
  apply oas; rfl; rfl
  apply OL.nx
  apply W.seq
  apply W.sr
  apply omv; rfl; rfl
  apply obn; rfl; rfl; rfl; apply Bin.leq
  apply OL.nx
  (refine W.cnd (fun h10 => ?_) (fun h10 => ?_)) <;> (try (exfalso; first | omega | exact h10 trivial | contradiction))
  · have hd1 : n.tdiv 10 = -((n.natAbs / 10 : Nat) : Int) := by
      obtain ⟨k, rfl⟩ : ∃ k : Nat, n = -((k : Nat) : Int) := ⟨n.natAbs, by omega⟩
      rw [Int.neg_tdiv, Int.natAbs_neg, Int.natAbs_natCast]; rfl
    have hd2 : n.tmod 10 = -((n.natAbs % 10 : Nat) : Int) := by
      obtain ⟨k, rfl⟩ : ∃ k : Nat, n = -((k : Nat) : Int) := ⟨n.natAbs, by omega⟩
      rw [Int.neg_tmod, Int.natAbs_neg, Int.natAbs_natCast]; rfl
    have hm1 : nmu (n.tdiv 10) < m := by unfold nmu at *; split <;> (split at hm <;> omega)
    have hm2 : nmu (-(n.tmod 10)) < m := by unfold nmu at *; split <;> (split at hm <;> omega)
    have hw : IntKind.i64.wrap (n.tdiv 10) = n.tdiv 10 := IntWalk.i64_in _ (by omega)
    have hI1 : I64 (n.tdiv 10) := by unfold I64; omega
    have hI2 : I64 (-(n.tmod 10)) := by unfold I64; omega
    have hl1 := numL_len hI1
    have hl2 := numL_len hI2
    rw [← bs_size] at hl1 hl2
    apply W.sr
    apply omv; rfl; rfl
    apply obn; rfl; rfl; rfl; apply Bin.quo; omega
    rw [hw]
    skip
    (((first | (with_reducible apply OL.op) | (with_reducible apply QL.op)); (exact Guard.au); rfl; rfl); (exact Pev.call (v := .string (bs (numL (n.tdiv 10)))) rfl (by exact Args.au) (fun _ w2 hw2 => (ih (nmu (n.tdiv 10)) hm1 (n.tdiv 10) w2 (Nat.le_refl _) hI1).mono (fun e w3 h => ⟨h.1, hw2.ext h.2⟩))))
    apply omv; rfl; rfl
    apply obn; rfl; rfl; rfl; apply Bin.rem; omega
    apply oop; rfl; apply Pev.neg_in; rfl; exact yes; omega
    (((first | (with_reducible apply OL.op) | (with_reducible apply QL.op)); (exact Guard.au); rfl; rfl); (exact Pev.call (v := .string (bs (numL (-(n.tmod 10))))) rfl (by exact Args.au) (fun _ w2 hw2 => (ih (nmu (-(n.tmod 10))) hm2 (-(n.tmod 10)) w2 (Nat.le_refl _) hI2).mono (fun e w3 h => ⟨h.1, hw2.ext h.2⟩))))
    apply obn; rfl; rfl; rfl; apply Bin.str_add; omega
    apply oas; rfl; rfl
    apply OL.nx
    refine W.rt ?_
    ((with_reducible apply At.fin1); rfl; rfl; intro w' hw')
    exact ⟨by rw [bs_append, numL_neg10 h10], by (exact hw'.fr)⟩
  apply W.sk
  apply W.seq
  apply W.sr
  apply omv; rfl; rfl
  apply obn; rfl; rfl; rfl; apply Bin.lss
  apply OL.nx
  (refine W.cnd (fun h0 => ?_) (fun h0 => ?_)) <;> (try (exfalso; first | omega | exact h0 trivial | contradiction))
  · have hI1 : I64 (-n) := by unfold I64; omega
    have hm1 : nmu (-n) < m := by unfold nmu at *; split <;> (split at hm <;> omega)
    have hl1 := numL_len hI1
    rw [← bs_size] at hl1
    have h45 : (⟨#[45]⟩ : ByteArray).size = 1 := rfl
    apply W.sr
    apply omv; rfl; rfl
    apply oop; rfl; apply Pev.neg_in; rfl; exact yes; omega
    (((first | (with_reducible apply OL.op) | (with_reducible apply QL.op)); (exact Guard.au); rfl; rfl); (exact Pev.call (v := .string (bs (numL (-n)))) rfl (by exact Args.au) (fun _ w2 hw2 => (ih (nmu (-n)) hm1 (-n) w2 (Nat.le_refl _) hI1).mono (fun e w3 h => ⟨h.1, hw2.ext h.2⟩))))
    apply obn; rfl; rfl; rfl; apply Bin.str_add; omega
    apply oas; rfl; rfl
    apply OL.nx
    refine W.rt ?_
    ((with_reducible apply At.fin1); rfl; rfl; intro w' hw')
    refine ⟨?_, by (exact hw'.fr)⟩
    have h1 := bs_append [45] (numL (-n))
    rw [numL_neg h0] at h1
    rw [← h1]
    rfl
  obtain ⟨k, rfl⟩ : ∃ k : Nat, n = (k : Int) := ⟨n.toNat, by omega⟩
  apply W.sk
  apply W.seq
  apply W.sr
  apply omv; rfl; rfl
  apply obn; rfl; rfl; rfl; apply Bin.lss
  apply OL.nx
  (refine W.cnd (fun h9 => ?_) (fun h9 => ?_)) <;> (try (exfalso; first | omega | exact h9 trivial | contradiction))
  · have hsz : (⟨#[48, 49, 50, 51, 52, 53, 54, 55, 56, 57]⟩ : ByteArray).size = 10 := rfl
    apply W.sr
    apply omv; rfl; rfl
    apply omv; rfl; rfl
    apply obn; rfl; rfl; rfl; apply Bin.add_in; omega
    (((first | (with_reducible apply OL.op) | (with_reducible apply QL.op)); (exact Guard.au); rfl; rfl); (refine Pev.slice_str k (k + 1) rfl ?_ rfl ?_ rfl ?_ rfl ?_ <;> first | exact fun _ => rfl | (intro _; refine ⟨rfl, by omega, by omega, ?_⟩; omega)))
    rw [num_digit k (by omega)]
    apply oas; rfl; rfl
    apply OL.nx
    refine W.rt ?_
    ((with_reducible apply At.fin1); rfl; rfl; intro w' hw')
    exact ⟨rfl, by (exact hw'.fr)⟩
  · have hI1 : I64 ((k : Int) / 10) := by unfold I64; omega
    have hm1 : nmu ((k : Int) / 10) < m := by unfold nmu at *; split <;> (split at hm <;> omega)
    have hm2 : nmu ((k : Int) % 10) < m := by unfold nmu at *; split <;> (split at hm <;> omega)
    have hI2 : I64 ((k : Int) % 10) := by unfold I64; omega
    have hl1 := numL_len hI1
    have hl2 := numL_len hI2
    rw [← bs_size] at hl1 hl2
    apply W.sk
    apply W.sr
    apply omv; rfl; rfl
    apply obn; rfl; rfl; rfl; apply Bin.quo_in; omega
    (((first | (with_reducible apply OL.op) | (with_reducible apply QL.op)); (exact Guard.au); rfl; rfl); (exact Pev.call (v := .string (bs (numL ((k : Int) / 10)))) rfl (by exact Args.au) (fun _ w2 hw2 => (ih (nmu ((k : Int) / 10)) hm1 ((k : Int) / 10) w2 (Nat.le_refl _) hI1).mono (fun e w3 h => ⟨h.1, hw2.ext h.2⟩))))
    apply omv; rfl; rfl
    apply obn; rfl; rfl; rfl; apply Bin.rem_in; omega
    (((first | (with_reducible apply OL.op) | (with_reducible apply QL.op)); (exact Guard.au); rfl; rfl); (exact Pev.call (v := .string (bs (numL ((k : Int) % 10)))) rfl (by exact Args.au) (fun _ w2 hw2 => (ih (nmu ((k : Int) % 10)) hm2 ((k : Int) % 10) w2 (Nat.le_refl _) hI2).mono (fun e w3 h => ⟨h.1, hw2.ext h.2⟩))))
    apply obn; rfl; rfl; rfl; apply Bin.str_add; omega
    apply oas; rfl; rfl
    apply OL.nx
    apply W.ret
    ((with_reducible apply At.fin1); rfl; rfl; intro w' hw')
    exact ⟨by rw [bs_append, numL_pos (by omega)], by (exact hw'.fr)⟩
theorem num_calls (n : Int) (w : World) (hn : I64 n) :
    Calls Tryd.prog 80 [.int .i64 n].toArray w fun e w' => e = .returned (.string (bs (numL n))) ∧ Ext w w' := num_all (nmu n) n w (Nat.le_refl _) hn
theorem last_calls (q : Option Addr) (cap : Nat) (l : List Int) (s : Int) (w : World) (hlen : l.length ≤ 1000000000) (h : IntsO w (low w) l q) :
    Calls Tryd.prog 81 [.slice q l.length cap, .int .i64 s].toArray w fun e w' => e = .returned (.int .i64 (lastI l s)) ∧ Ext w w' := by
  refine enter Tryd.func81 rfl Tryd.ntmps81 rfl (Cls.start w) ?_
  (simp only [argEnv, Nat.zero_add, Nat.reduceAdd])
  apply W.sr
  apply oas; rfl; rfl
  apply OL.nx
  apply W.seq
  apply W.sr
  apply omv; rfl; rfl
  apply oop; rfl; apply Pev.len_slice; rfl; exact yes; rfl
  apply obn; rfl; rfl; rfl; apply Bin.sub_in; omega
  apply oas; rfl; rfl
  apply OL.nx
  apply W.block
  refine W.loop (G := Nat) (fun i => i ≤ l.length ∧ lastI l s = lastA l s i) (fun i => i)
    (fun i => [(0, true, .slice q l.length cap), (1, true, .int .i64 s), (5, true, .int .i64 ((i : Int) - 1))])
    (fun i => Cls [] [w]) l.length ⟨by omega, rfl⟩ (by exact Sub.au) (fun w' hw' => hw') ?_
  rintro i1 ⟨hi, hrest⟩
  apply W.seq
  apply W.sr
  apply omv; rfl; rfl
  apply obn; rfl; rfl; rfl; apply Bin.geq
  apply OL.nx
  (refine W.cnd (fun hlt => ?_) (fun hlt => ?_)) <;> (try (exfalso; first | omega | exact hlt trivial | contradiction))
  · obtain ⟨i, rfl⟩ : ∃ i : Nat, i1 = i + 1 := ⟨i1 - 1, by omega⟩
    have hii : ((i + 1 : Nat) : Int) - 1 = (i : Int) := by omega
    rw [hii]
    obtain ⟨a, u, rfl, hab, hu, hcell⟩ := h.get (show i < l.length by omega)
    have hab : a.block < w.heap.size := hab
    rw [lastA_get hu] at hrest
    apply W.sk
    apply W.sb
    apply W.sr
    apply omv; rfl; rfl
    apply omv; rfl; rfl
    apply oop; rfl; apply Pev.idx; rfl; exact yes; rfl; exact yes; rfl; rfl; intro hcond; omega
    apply oop; rfl; apply Pev.load_kept; rfl; exact yes; exact .head _; rfl; intro hcond; assumption; intro hcond; (rw [add_block]; assumption); intro hcond; exact NotOwned.au
    apply omv; rfl; rfl
    apply obn; rfl; rfl; rfl; apply Bin.eql
    apply OL.nx
    (refine W.cnd (fun heq => ?_) (fun heq => ?_)) <;> (try (exfalso; first | omega | exact heq trivial | contradiction))
    · apply W.sr
      apply omv; rfl; rfl
      apply oas; rfl; rfl
      apply OL.nx
      refine W.rt ?_
      ((with_reducible apply At.fin1); rfl; rfl; intro w' hw')
      rw [if_pos heq] at hrest
      exact ⟨by rw [hrest], by (exact hw'.fr)⟩
    · rw [if_neg heq] at hrest
      apply W.skip
      with_reducible apply At.in_normal
      with_reducible apply At.next
      apply W.reg
      apply omv; rfl; rfl
      apply obn; rfl; rfl; rfl; apply Bin.sub_in; omega
      apply oas; rfl; rfl
      apply OL.nil
      exact At.again i ⟨by omega, hrest⟩ (by omega) (by exact Sub.au) (fun w' hw' => hw')
  · obtain rfl : i1 = 0 := by omega
    refine W.xt ?_
    with_reducible apply At.next
    apply W.sr
    apply oas; rfl; rfl
    apply OL.nx
    apply W.ret
    ((with_reducible apply At.fin1); rfl; rfl; intro w' hw')
    exact ⟨by rw [hrest]; rfl, by (exact hw'.fr)⟩
theorem hidden_calls (n : Nat) (w : World) (hn : n ≤ 1000000) :
    Calls Tryd.prog 82 [.int .i64 (n : Int)].toArray w fun e w' => ∃ q c, e = .returned (.slice q n c) ∧ Ext w w' ∧ IntsO w' (fresh w w') (List.replicate n (-1)) q := by
  refine enter Tryd.func82 rfl Tryd.ntmps82 rfl (Cls.start w) ?_
  (simp only [argEnv, Nat.zero_add, Nat.reduceAdd])
  apply W.sr
  apply oas; rfl; rfl
  apply OL.nsr
  apply oas; rfl; rfl
  apply OL.nx
  apply W.seq
  apply W.sr
  apply omv; rfl; rfl
  apply omv; rfl; rfl
  apply OL.nx
  apply W.block
  refine W.loop (G := Nat × GR) (fun g => g.1 ≤ n) (fun g => n - g.1)
    (fun g => [(3, true, .slice g.2.q g.1 g.2.c), (4, true, .int .i64 (n : Int)), (5, true, .int .i64 (g.1 : Int))])
    (fun g => Cls [row w.heap.size g.2.O g.2.q g.1 g.2.c 3 1 (ints (List.replicate g.1 (-1)))] [w]) (0, ⟨fun _ => False, none, 0⟩) (by simp) (by exact Sub.au) (fun w' hw' => hw'.row_nil w.heap.size 3 1) ?_
  rintro ⟨i, ⟨O0, q0, c0⟩⟩ hi
  simp only at hi ⊢
  apply W.sr
  apply obn; rfl; rfl; rfl; apply Bin.lss
  apply OL.nx
  apply W.seq
  (refine W.cnd (fun hlt => ?_) (fun hlt => ?_)) <;> (try (exfalso; first | omega | exact hlt trivial | contradiction))
  · apply W.sk
    apply W.sb
    apply W.reg
    apply omv; rfl; rfl
    apply OL.buildSlice; rfl; rfl; rfl; exact Elems.au; rfl; rfl; (intro bk hbk; simp only [AllLe, and_true] at hbk)
    apply OL.append; rfl; rfl; rfl; rfl; exact Hole.au; exact .head _; exact Take.au; rfl; rfl; exact ⟨_, .head _, Nat.le_refl _⟩; omega; intro O1 g1 cap1
    apply oas; rfl; rfl
    apply OL.nil
    with_reducible apply At.in_normal
    with_reducible apply At.next
    apply W.reg
    apply obn; rfl; rfl; rfl; apply Bin.add_in; omega
    apply omv; rfl; rfl
    apply OL.nil
    have hsn : ints (List.replicate i (-1)) ++ [.int .i64 (-1)] = ints (List.replicate (i + 1) (-1)) := by
      rw [List.replicate_succ', ints_append]
      rfl
    rw [hsn]
    skip
    exact At.again (i + 1, ⟨O1, some ⟨g1, 0, none⟩, cap1⟩) (by simp only; omega) (by simp only; omega) (by exact Sub.au) (fun w' hw' => hw'.thin (by exact Thin.au))
  · obtain rfl : i = n := by omega
    refine W.xt ?_
    with_reducible apply At.next
    apply W.sr
    apply omv; rfl; rfl
    apply oas; rfl; rfl
    apply OL.nx
    apply W.ret
    ((with_reducible apply At.fin1); rfl; rfl; intro w' hw')
    exact ⟨q0, c0, rfl, by (exact hw'.fr), rowInts hw' (.head _) (Nat.le_refl _)⟩
/-- what masked leaves -/
def mskF (seen : List Int) (b : Int) : Int := if b ∈ seen then b else -1
def mskL (base B seen : List Int) (j : Nat) : List Int := base ++ ((B.take j).map (mskF seen) ++ B.drop j)
theorem mskL_length {base B seen : List Int} {j : Nat} (hj : j ≤ B.length) : (mskL base B seen j).length = base.length + B.length := by
  simp [mskL]
  omega
theorem mskL_get {base B seen : List Int} {j : Nat} {x : Int} (hx : B[j]? = some x) : (mskL base B seen j)[base.length + j]? = some x := by
  have hj := (List.getElem?_eq_some_iff.1 hx).1
  unfold mskL
  rw [List.getElem?_append_right (by omega), List.getElem?_append_right (by simp; omega)]
  simp only [List.length_map, List.length_take, List.getElem?_drop]
  rw [← hx]
  congr 1
  omega
theorem mskL_parts {B : List Int} {j : Nat} {x : Int} (hx : B[j]? = some x) : B.take (j + 1) = B.take j ++ [x] ∧ B.drop j = x :: B.drop (j + 1) := by
  obtain ⟨hj, rfl⟩ := List.getElem?_eq_some_iff.1 hx
  exact ⟨by rw [List.take_add_one, hx]; rfl, List.drop_eq_getElem_cons hj⟩
theorem mskL_keep {base B seen : List Int} {j : Nat} {x : Int} (hx : B[j]? = some x) (h : x ∈ seen) : mskL base B seen (j + 1) = mskL base B seen j := by
  obtain ⟨e1, e2⟩ := mskL_parts hx
  unfold mskL
  rw [e1, e2, List.map_append, List.append_assoc, show List.map (mskF seen) [x] = [x] by simp [mskF, h]]
  rfl
theorem mskL_set {base B seen : List Int} {j : Nat} {x : Int} (hx : B[j]? = some x) (h : ¬ x ∈ seen) : (mskL base B seen j).set (base.length + j) (-1) = mskL base B seen (j + 1) := by
  have hj := (List.getElem?_eq_some_iff.1 hx).1
  obtain ⟨e1, e2⟩ := mskL_parts hx
  unfold mskL
  rw [List.set_append_right _ _ (by omega), List.set_append_right _ _ (by simp; omega)]
  have e : base.length + j - base.length - ((B.take j).map (mskF seen)).length = 0 := by simp; omega
  rw [e, e1, e2, List.map_append, List.append_assoc, show List.map (mskF seen) [x] = [-1] by simp [mskF, h], List.set_cons_zero]
  rfl
theorem masked_calls (base B seen : List Int) (q qs : Option Addr) (cap cs : Nat) (w : World) (hlen : (base ++ B).length ≤ 1000000000) (h : IntsO w (low w) (base ++ B) q) (hs : IntsO w (low w) seen qs) (hsl : seen.length ≤ 1000000000) :
    Calls Tryd.prog 83 [.slice q (base ++ B).length cap, .int .i64 (base.length : Int), .slice qs seen.length cs].toArray w fun e w' => ∃ q' c, e = .returned (.slice q' (base ++ B).length c) ∧ Ext w w' ∧ IntsO w' (fresh w w') (base ++ B.map (mskF seen)) q' := by
  have hlen' := hlen
  rw [List.length_append] at hlen'
  refine enter Tryd.func83 rfl Tryd.ntmps83 rfl (Cls.start w) ?_
  (simp only [argEnv, Nat.zero_add, Nat.reduceAdd])
  refine W.cls (fun w' hw' => hw'.row_nil w.heap.size 3 1) ?_
  apply W.sr
  apply oas; rfl; rfl
  apply OL.nsr
  apply omv; rfl; rfl
  (apply OL.appendK (news := ints (base ++ B))); rfl; rfl; rfl; rfl; (exact Hole.au); (exact fun w2 hw2 => (h.at hw2 (.head _) (fun k hk => by exact NotOwned.au)).slAt); (rw [ints_length, Nat.mul_one]); (exact ints_oneL _); (exact ⟨w, .head _, Nat.le_refl _⟩); (omega); (intro O1 q1 c1)
  simp only [Nat.zero_add, List.nil_append]
  apply oas; rfl; rfl
  apply OL.nx
  apply W.seq
  apply W.sr
  apply omv; rfl; rfl
  apply oas; rfl; rfl
  apply OL.nx
  apply W.block
  have h0 : ints (base ++ B) = ints (mskL base B seen 0) := by simp [mskL]
  rw [h0]
  refine W.loop (G := Nat × GR) (fun g => g.1 ≤ B.length) (fun g => B.length - g.1)
    (fun g => [(2, true, .slice qs seen.length cs), (7, true, .slice g.2.q (base ++ B).length g.2.c), (8, true, .int .i64 ((base.length + g.1 : Nat) : Int))])
    (fun g => Cls [row w.heap.size g.2.O g.2.q (base ++ B).length g.2.c 3 1 (ints (mskL base B seen g.1))] [w]) (0, ⟨O1, q1, c1⟩) (by simp) (by exact Sub.au) (fun w' hw' => hw') ?_
  rintro ⟨i, ⟨O2, q2, c2⟩⟩ hi
  simp only at hi ⊢
  apply W.seq
  apply W.sr
  apply omv; rfl; rfl
  apply omv; rfl; rfl
  apply oop; rfl; apply Pev.len_slice; rfl; exact yes; rfl
  apply obn; rfl; rfl; rfl; apply Bin.lss
  apply OL.nx
  (refine W.cnd (fun hlt => ?_) (fun hlt => ?_)) <;> (try (exfalso; first | omega | exact hlt trivial | contradiction))
  · have hil : i < B.length := by rw [List.length_append] at hlt; omega
    have hx : B[i]? = some B[i] := List.getElem?_eq_getElem hil
    obtain ⟨x, hxd⟩ : ∃ x, B[i] = x := ⟨_, rfl⟩
    rw [hxd] at hx
    have hmx := mskL_get (base := base) (seen := seen) hx
    have hml := mskL_length (base := base) (seen := seen) hi
    refine W.exx (X := { g0 : Nat // q2 = some ⟨g0, 0, none⟩ }) (C' := fun _ => Cls [row w.heap.size O2 q2 (base ++ B).length c2 3 1 (ints (mskL base B seen i))] [w]) (fun w' hw' => by
      obtain ⟨g0, h1⟩ := row_some (hw'.item (.head _)) (by rw [List.length_append]; omega)
      exact ⟨⟨g0, h1⟩, hw'⟩) ?_
    rintro ⟨g0, hg0⟩
    try simp only at hg0
    subst hg0
    have hix : (ints (mskL base B seen i))[0 + ((base.length + i : Nat) : Int).toNat * 1]? = some (.int .i64 x) := by
      rw [show 0 + ((base.length + i : Nat) : Int).toNat * 1 = base.length + i by omega]
      exact ints_get hmx
    have hbl : ((base ++ B).length : Int) = (base.length : Int) + (B.length : Int) := by rw [List.length_append]; omega
    apply W.sk
    apply W.sb
    apply W.sr
    apply omv; rfl; rfl
    apply omv; rfl; rfl
    apply omv; rfl; rfl
    apply oop; rfl; apply Pev.idxB; rfl; exact yes; rfl; exact yes; rfl; intro hcond; omega; rfl
    apply oop; rfl; apply Pev.load_row; rfl; exact yes; exact .head _; rfl; assumption
    (((first | (with_reducible apply OL.op) | (with_reducible apply QL.op)); (exact Guard.au); rfl; rfl); (exact Pev.call (v := .bool (decide (x ∈ seen))) rfl (by exact Args.au) (fun _ w2 hw2 => (In_calls qs cs seen x w2 (by omega) (hs.at hw2 (by exact mau) (fun k hk => by exact NotOwned.au))).mono (fun e w3 h => ⟨h.1, hw2.ext h.2⟩))))
    apply oop; rfl; apply Pev.not; rfl; exact yes
    apply OL.nx
    refine W.cond rfl (fun hb => ?_) (fun hb => ?_)
    · have hns : ¬ x ∈ seen := by simpa using hb
      apply W.reg
      apply omv; rfl; rfl
      apply omv; rfl; rfl
      apply oop; rfl; apply Pev.idxB; rfl; exact yes; rfl; exact yes; rfl; intro hcond; omega; rfl
      refine OL.storeR (xs := ints (mskL base B seen i)) rfl rfl rfl rfl rfl .z (by rw [ints_length, hml]; omega) ?_
      rw [show 0 + ((base.length + i : Nat) : Int).toNat * 1 = base.length + i by omega, ints_set, mskL_set hx hns]
      apply OL.nil
      with_reducible apply At.in_normal
      with_reducible apply At.next
      apply W.reg
      apply omv; rfl; rfl
      apply obn; rfl; rfl; rfl; apply Bin.add_in; omega
      apply oas; rfl; rfl
      apply OL.nil
      exact At.again (i + 1, ⟨O2, some ⟨g0, 0, none⟩, c2⟩) (by simp only; omega) (by simp only; omega) (by exact Sub.au) (fun w' hw' => hw')
    · have hs2 : x ∈ seen := by simpa using hb
      rw [← mskL_keep hx hs2]
      apply W.skip
      with_reducible apply At.in_normal
      with_reducible apply At.next
      apply W.reg
      apply omv; rfl; rfl
      apply obn; rfl; rfl; rfl; apply Bin.add_in; omega
      apply oas; rfl; rfl
      apply OL.nil
      exact At.again (i + 1, ⟨O2, some ⟨g0, 0, none⟩, c2⟩) (by simp only; omega) (by simp only; omega) (by exact Sub.au) (fun w' hw' => hw')
  · obtain rfl : i = B.length := by rw [List.length_append] at hlt; omega
    refine W.xt ?_
    with_reducible apply At.next
    apply W.sr
    apply omv; rfl; rfl
    apply oas; rfl; rfl
    apply OL.nx
    apply W.ret
    ((with_reducible apply At.fin1); rfl; rfl; intro w' hw')
    have hfin : mskL base B seen B.length = base ++ B.map (mskF seen) := by simp [mskL]
    rw [hfin] at hw'
    exact ⟨q2, c2, rfl, by (exact hw'.fr), rowInts hw' (.head _) (Nat.le_refl _)⟩
end Go.Proofs.YtlboppiogeaicaaDoor.co

/- The walk of core's below. Conditions: none. (Printed by czb.py.) -/
namespace Go.Proofs.YtlboppiogeaicaaDoor.co
open Go.RowKit Go.Eng Go.Co
set_option linter.unusedVariables false
set_option linter.unusedSimpArgs false
set_option maxRecDepth 100000
theorem below_calls (es : List (Ex × ExY)) (q : Option Addr) (cap n : Nat) (w : World) (he : Arr exR w (low w) es q) (hlen : es.length ≤ 4096) (hcap : es.length ≤ cap) (hn : n < es.length) (hd : Down (es.map Prod.fst)) (hlim : ∀ p ∈ es, Lim p.1) (hkl : ∀ p ∈ es, p.1.kids.length ≤ 4096) :
    Calls Tryd.prog 41 [.slice q es.length cap, .int .i64 (n : Int)].toArray w fun e w' => ∃ b, e = .returned (.pointer (some ⟨b, 0, none⟩)) ∧ Ext w w' ∧ TrO w' (low w') (grow (es.map Prod.fst) n) b := by
  obtain ⟨e, hee⟩ : ∃ e, es.map Prod.fst = e := ⟨_, rfl⟩
  have hel : e.length = es.length := by rw [← hee, List.length_map]
  rw [hee] at hd ⊢
  have hget : ∀ {i : Nat}, i < es.length → ∃ a p, q = some a ∧ a.block < w.heap.size ∧ es[i]? = some p ∧ e[i]? = some p.1 ∧ CellsAt w (a.add (i * 5)) [.int .i64 p.1.op, .int .i64 p.1.n, .slice p.2.b.1 p.1.binds.length p.2.b.2, .slice p.2.k.1 p.1.kids.length p.2.k.2, .slice p.2.a.1 p.1.alts.length p.2.a.2] ∧ ExOk w (low w) p.1 p.2 := fun {i} hi => by
    obtain ⟨a, p, h1, h2, h3, h4, h5⟩ := he.get hi
    exact ⟨a, p, h1, h2, h3, by rw [← hee, List.getElem?_map, h3]; rfl, h4, h5⟩
  refine enter Tryd.func41 rfl Tryd.ntmps41 rfl (Cls.start w) ?_
  (simp only [argEnv, Nat.zero_add, Nat.reduceAdd])
  apply W.sr
  apply oas; rfl; rfl
  apply OL.nsr
  apply omv; rfl; rfl
  apply oop; rfl; apply Pev.len_slice; rfl; exact yes; rfl
  apply OL.makeSlice; rfl; rfl; rfl; rfl; rfl; rfl; rfl; omega; (intro bk hbk; simp only [AllLe, and_true] at hbk)
  apply oas; rfl; rfl
  apply OL.nx
  apply W.seq
  apply W.sr
  apply omv; rfl; rfl
  apply omv; rfl; rfl
  apply obn; rfl; rfl; rfl; apply Bin.add_in; omega
  apply oop; rfl; apply Pev.slice_hi; rfl; exact yes; rfl; exact yes; rfl; rfl; intro hcond; (simp only [Bool.and_eq_true, Bool.or_eq_true, Bool.not_eq_true', decide_eq_true_eq, decide_eq_false_iff_not] at *; omega)
  apply oop; rfl; apply Pev.len_slice; rfl; exact yes; rfl
  apply omv; rfl; rfl
  apply OL.nx
  apply W.block
  revert bk
  intro bn hbn
  have hz0 : List.replicate es.length (Value.pointer none) = nds (fun _ => 0) 0 es.length := nds_zero _ _
  refine W.exx (X := { x : World // bn < x.heap.size ∧ w.heap.size ≤ x.heap.size }) (C' := fun x => Cls [blk bn 69 (nds (fun _ => 0) 0 es.length)] [x.1, w]) (fun w2 hw2 => by rw [hz0] at hw2; exact ⟨⟨w2, hw2.lt _ (.head _) bn rfl, (hw2.kp w (.head _)).size⟩, hw2.note⟩) ?_
  rintro ⟨w0, hw0a, hw0b⟩
  simp only
  refine W.loop (G := Nat × World × (Nat → Nat)) (fun g => g.1 ≤ n + 1 ∧ w.heap.size ≤ g.2.1.heap.size ∧ bn < g.2.1.heap.size ∧ ∀ k, k < g.1 → TrO g.2.1 (fun b => b < g.2.1.heap.size ∧ b ≠ bn) (grow e k) (g.2.2 k)) (fun g => n + 1 - g.1)
    (fun g => [(1, true, .int .i64 (n : Int)), (5, true, .slice (some ⟨bn, 0, none⟩) es.length es.length), (17, true, .slice q (n + 1) cap), (18, true, .int .i64 ((n + 1 : Nat) : Int)), (19, true, .int .i64 (g.1 : Int))])
    (fun g => Cls [blk bn 69 (nds g.2.2 g.1 es.length)] [g.2.1, w]) (0, w0, fun _ => 0) ⟨by simp, hw0b, hw0a, fun k hk => by simp at hk⟩ (by exact Sub.au) (fun w' hw' => hw') ?_
  rintro ⟨i, wk, tb⟩ ⟨hi, hwk, hbnk, htr⟩
  simp only at hi hwk hbnk htr ⊢
  apply W.sr
  apply obn; rfl; rfl; rfl; apply Bin.lss
  apply OL.nx
  apply W.seq
  (refine W.cnd (fun hlt => ?_) (fun hlt => ?_)) <;> (try (exfalso; first | omega | exact hlt trivial | contradiction))
  · have hil : i < es.length := by omega
    have hin : i < n + 1 := by omega
    obtain ⟨a, p, rfl, hab, hp, hpe, hcell, hok⟩ := hget hil
    have hL := hlim p (List.mem_of_getElem? hp)
    have hkl1 := hkl p (List.mem_of_getElem? hp)
    have hdn := hd i _ hpe
    apply W.sk
    apply W.sb
    apply W.sr
    apply omv; rfl; rfl
    apply oop; rfl; apply Pev.idx; rfl; exact yes; rfl; exact yes; rfl; rfl; intro hcond; omega
    apply oop; rfl; apply Pev.load_keptA; rfl; exact yes; exact .tail _ (.head _); rfl; intro hcond; assumption; rfl; intro hcond; (rw [add_block]; assumption); intro hcond; exact NotOwned.au
    apply OL.alloc; rfl; rfl; exact CellsL.agg; (intro bk hbk; simp only [AllLe, and_true] at hbk)
    apply oas; rfl; rfl
    apply OL.storeB; rfl; rfl; exact CellsL.agg; rfl; rfl; rfl; exact Swap.au; exact Put.au
    apply OL.nsr
    apply ofa; rfl; rfl; rfl
    apply old; rfl; rfl; exact .head _; rfl; rfl
    apply ofa; rfl; rfl; rfl
    apply old; rfl; rfl; exact .head _; rfl; rfl
    apply ofa; rfl; rfl; rfl
    apply old; rfl; rfl; exact .head _; rfl; rfl
    apply ofa; rfl; rfl; rfl
    apply old; rfl; rfl; exact .head _; rfl; rfl
    apply oop; rfl; apply Pev.build; rfl; exact CellsL.agg; rfl; exact Fill.au; rfl
    apply OL.box; rfl; rfl; exact CellsL.agg; (intro bk hbk; simp only [AllLe, and_true] at hbk)
    apply oas; rfl; rfl
    apply OL.nx
    apply W.seq
    apply W.sr
    apply ofa; rfl; rfl; rfl
    apply old; rfl; rfl; exact .tail _ (.head _); rfl; rfl
    apply oop; rfl; apply Pev.len_slice; rfl; exact yes; rfl
    apply omv; rfl; rfl
    apply OL.nx
    apply W.block
    revert bk
    intro bt hbt
    revert bk
    intro bx hbx
    refine W.loop (G := Nat × GR) (fun g => g.1 ≤ p.1.kids.length) (fun g => p.1.kids.length - g.1)
      (fun g => [(1, true, .int .i64 (n : Int)), (5, true, .slice (some ⟨bn, 0, none⟩) es.length es.length), (6, true, .int .i64 (i : Int)), (8, true, .pointer (some ⟨bt, 0, none⟩)), (17, true, .slice (some a) (n + 1) cap), (18, true, .int .i64 ((n + 1 : Nat) : Int)), (19, true, .int .i64 (i : Int)), (35, true, .slice p.2.k.1 p.1.kids.length p.2.k.2), (36, true, .int .i64 (p.1.kids.length : Int)), (37, true, .int .i64 (g.1 : Int))])
      (fun g => Cls (blk bn 69 (nds tb i es.length) :: blk bx 28 [.int .i64 p.1.op, .int .i64 p.1.n, .slice p.2.b.1 p.1.binds.length p.2.b.2, .slice p.2.k.1 p.1.kids.length p.2.k.2, .slice p.2.a.1 p.1.alts.length p.2.a.2] :: blk bt 91 [.int .i64 p.1.op, .int .i64 p.1.n, .slice p.2.b.1 p.1.binds.length p.2.b.2, .slice g.2.q g.1 g.2.c, .slice p.2.a.1 p.1.alts.length p.2.a.2] :: row wk.heap.size g.2.O g.2.q g.1 g.2.c 69 1 (ptrs (kp tb (p.1.kids.take g.1))) :: []) [wk, w]) (0, ⟨fun _ => False, none, 0⟩) (by simp) (by exact Sub.au) (fun w' hw' => Cls.mv (A := [_]) (I := [_, _, _]) (H := []) (Cls.row_nil (hw'.perm (List.reverse_perm _).symm) wk.heap.size _ 1)) ?_
    rintro ⟨j, ⟨Ok, qk, ck⟩⟩ hj
    simp only at hj ⊢
    have hkl := hok.kl
    apply W.sr
    apply obn; rfl; rfl; rfl; apply Bin.lss
    apply OL.nx
    apply W.seq
    (refine W.cnd (fun hlt2 => ?_) (fun hlt2 => ?_)) <;> (try (exfalso; first | omega | exact hlt2 trivial | contradiction))
    · have hjl : j < p.1.kids.length := by omega
      obtain ⟨ak, k, hqk, habk, hk, hck⟩ := hok.k.get hjl
      have habk : ak.block < w.heap.size := habk
      have hkr := hdn k (List.mem_of_getElem? hk)
      obtain ⟨kn, rfl⟩ : ∃ kn : Nat, k = (kn : Int) := ⟨k.toNat, by omega⟩
      have hkn : (nds tb i es.length)[0 + (kn : Int).toNat * 1]? = some (.pointer (some ⟨tb kn, 0, none⟩)) := by
        have h1 := nds_get (tb := tb) (i := i) (n := es.length) (k := kn) (by omega) (by omega)
        simpa using h1
      rw [hqk]
      apply W.sk
      apply W.sb
      apply W.sr
      apply oop; rfl; apply Pev.idx; rfl; exact yes; rfl; exact yes; rfl; rfl; intro hcond; omega
      apply oop; rfl; apply Pev.load_kept; rfl; exact yes; exact .tail _ (.head _); rfl; intro hcond; assumption; intro hcond; (rw [add_block]; assumption); intro hcond; exact NotOwned.au
      apply oas; rfl; rfl
      apply OL.nx
      refine W.regany (X := XG [wk, w] p.1.binds.length wk.heap.size) (fun x e => [(53, true, bif e 12 then .pointer (some ⟨bt, 0 + 3, none⟩) else x.old 53), (52, true, bif e 11 then .pointer (some ⟨bt, 0, none⟩) else x.old 52), (51, true, bif e 10 then .slice (some ⟨x.g1, 0, none⟩) (j + 1) x.c1 else x.old 51), (50, true, bif e 9 then .slice (some ⟨x.b1, 0, none⟩) 1 1 else x.old 50), (49, true, bif e 8 then Value.pointer (some ⟨tb kn, 0, none⟩) else x.old 49), (48, true, bif e 7 then .pointer (some ⟨bn, 0 + (kn : Int).toNat * 1, none⟩) else x.old 48), (47, true, bif e 6 then .int .i64 (kn : Int) else x.old 47), (46, true, bif e 5 then .slice (some ⟨bn, 0, none⟩) es.length es.length else x.old 46), (45, true, bif e 4 then .slice qk j ck else x.old 45), (44, true, bif e 3 then .pointer (some ⟨bt, 0 + 3, none⟩) else x.old 44), (43, true, bif e 2 then .pointer (some ⟨bt, 0, none⟩) else x.old 43), (42, true, bif e 1 then .pointer (some ⟨bt, 0, none⟩) else x.old 42), (41, true, bif e 0 then .pointer (some ⟨bt, 0, none⟩) else x.old 41), (1, true, .int .i64 (n : Int)), (5, true, .slice (some ⟨bn, 0, none⟩) es.length es.length), (6, true, .int .i64 (i : Int)), (8, true, .pointer (some ⟨bt, 0, none⟩)), (10, true, .int .i64 (kn : Int)), (17, true, .slice (some a) (n + 1) cap), (18, true, .int .i64 ((n + 1 : Nat) : Int)), (19, true, .int .i64 (i : Int)), (35, true, .slice (some ak) p.1.kids.length p.2.k.2), (36, true, .int .i64 (p.1.kids.length : Int)), (37, true, .int .i64 (j : Int))])
        (fun x e => (blk bn 69 (nds tb i es.length)) :: (blk bx 28 [.int .i64 p.1.op, .int .i64 p.1.n, .slice p.2.b.1 p.1.binds.length p.2.b.2, .slice (some ak) p.1.kids.length p.2.k.2, .slice p.2.a.1 p.1.alts.length p.2.a.2]) :: (blk bt 91 [.int .i64 p.1.op, .int .i64 p.1.n, .slice p.2.b.1 p.1.binds.length p.2.b.2, bif e 13 then .slice (some ⟨x.g1, 0, none⟩) (j + 1) x.c1 else .slice qk j ck, .slice p.2.a.1 p.1.alts.length p.2.a.2]) :: (bif e 10 then row wk.heap.size x.O1 (some ⟨x.g1, 0, none⟩) (j + 1) x.c1 69 1 ((ptrs (kp tb (p.1.kids.take j))) ++ [Value.pointer (some ⟨tb kn, 0, none⟩)]) else row wk.heap.size Ok qk j ck 69 1 (ptrs (kp tb (p.1.kids.take j)))) :: (bif e 9 then blk x.b1 69 [Value.pointer (some ⟨tb kn, 0, none⟩)] else nothing) :: [])
        (fun old => ⟨fun _ => False, none, p.1.binds.length, Nat.le_refl _, wk.heap.size, Nat.le_refl _, 0, 0, fun _ => False, wk.heap.size, Nat.le_refl _, old⟩) (by kernel_rfl) (by kernel_rfl) (fun w hw => hw.drew) (fun old => by repeat (first | exact SubO.nil | apply SubO.cons rfl | refine SubO.old rfl ?_)) (fun old w' hw' => hw'.add_nothing) ?_ ?_
      · intro x e i o ho hei hd hcl
        have hi : i < 14 := (List.getElem?_eq_some_iff.1 ho).1
        obtain rfl | rfl | rfl | rfl | rfl | rfl | rfl | rfl | rfl | rfl | rfl | rfl | rfl | rfl : i = 0 ∨ i = 1 ∨ i = 2 ∨ i = 3 ∨ i = 4 ∨ i = 5 ∨ i = 6 ∨ i = 7 ∨ i = 8 ∨ i = 9 ∨ i = 10 ∨ i = 11 ∨ i = 12 ∨ i = 13 := by omega
        · cases ho
          have v0 : Eng.upd e 0 0 = true := upd_eq
          simp only [hei, cond_true, cond_false]
          apply omv; rfl; rfl
          apply OL.nil
          exact At.beside x (by repeat (first | exact Sub.nil | apply Sub.cons rfl | refine Sub.cons_eq rfl (by simp only [v0, cond_true, cond_false]) ?_)) (fun w' hw' => by first | exact hw' | (simp only [v0, cond_true, cond_false]; exact hw'))
        · cases ho
          have v1 : Eng.upd e 1 1 = true := upd_eq
          simp only [hei, cond_true, cond_false]
          apply omv; rfl; rfl
          apply OL.nil
          exact At.beside x (by repeat (first | exact Sub.nil | apply Sub.cons rfl | refine Sub.cons_eq rfl (by simp only [v1, cond_true, cond_false]) ?_)) (fun w' hw' => by first | exact hw' | (simp only [v1, cond_true, cond_false]; exact hw'))
        · cases ho
          have h1 : e 1 = true := hd ⟨1, .data⟩ (by simp) rfl
          have v2 : Eng.upd e 2 2 = true := upd_eq
          have v1 : Eng.upd e 2 1 = true := upd_mono h1
          simp only [hei, h1, cond_true, cond_false]
          apply oop; rfl; apply Pev.nil_ptr; rfl; exact yes
          apply OL.nil
          exact At.beside x (by repeat (first | exact Sub.nil | apply Sub.cons rfl | refine Sub.cons_eq rfl (by simp only [v2, v1, cond_true, cond_false]) ?_)) (fun w' hw' => by first | exact hw' | (simp only [v2, v1, cond_true, cond_false]; exact hw'))
        · cases ho
          have h2 : e 2 = true := hd ⟨2, .data⟩ (by simp) rfl
          have v3 : Eng.upd e 3 3 = true := upd_eq
          have v2 : Eng.upd e 3 2 = true := upd_mono h2
          simp only [hei, h2, cond_true, cond_false]
          apply ofa; rfl; rfl; rfl
          apply OL.nil
          exact At.beside x (by repeat (first | exact Sub.nil | apply Sub.cons rfl | refine Sub.cons_eq rfl (by simp only [v3, v2, cond_true, cond_false]) ?_)) (fun w' hw' => by first | exact hw' | (simp only [v3, v2, cond_true, cond_false]; exact hw'))
        · cases ho
          have h3 : e 3 = true := hd ⟨3, .data⟩ (by simp) rfl
          have h13 : e 13 = false := hcl.not (i := 4) (j := 13) rfl hei (by kernel_rfl)
          have v4 : Eng.upd e 4 4 = true := upd_eq
          have v3 : Eng.upd e 4 3 = true := upd_mono h3
          have v13 : Eng.upd e 4 13 = false := h13
          simp only [hei, h3, h13, cond_true, cond_false]
          apply old; rfl; rfl; exact .tail _ (.tail _ (.head _)); rfl; rfl
          apply OL.nil
          exact At.beside x (by repeat (first | exact Sub.nil | apply Sub.cons rfl | refine Sub.cons_eq rfl (by simp only [v4, v3, v13, cond_true, cond_false]) ?_)) (fun w' hw' => by first | exact hw' | (simp only [v4, v3, v13, cond_true, cond_false]; exact hw'))
        · cases ho
          have v5 : Eng.upd e 5 5 = true := upd_eq
          simp only [hei, cond_true, cond_false]
          apply omv; rfl; rfl
          apply OL.nil
          exact At.beside x (by repeat (first | exact Sub.nil | apply Sub.cons rfl | refine Sub.cons_eq rfl (by simp only [v5, cond_true, cond_false]) ?_)) (fun w' hw' => by first | exact hw' | (simp only [v5, cond_true, cond_false]; exact hw'))
        · cases ho
          have v6 : Eng.upd e 6 6 = true := upd_eq
          simp only [hei, cond_true, cond_false]
          apply omv; rfl; rfl
          apply OL.nil
          exact At.beside x (by repeat (first | exact Sub.nil | apply Sub.cons rfl | refine Sub.cons_eq rfl (by simp only [v6, cond_true, cond_false]) ?_)) (fun w' hw' => by first | exact hw' | (simp only [v6, cond_true, cond_false]; exact hw'))
        · cases ho
          have h5 : e 5 = true := hd ⟨5, .data⟩ (by simp) rfl
          have h6 : e 6 = true := hd ⟨6, .data⟩ (by simp) rfl
          have v7 : Eng.upd e 7 7 = true := upd_eq
          have v5 : Eng.upd e 7 5 = true := upd_mono h5
          have v6 : Eng.upd e 7 6 = true := upd_mono h6
          simp only [hei, h5, h6, cond_true, cond_false]
          apply oop; rfl; apply Pev.idxB; rfl; exact yes; rfl; exact yes; rfl; intro hcond; omega; rfl
          apply OL.nil
          exact At.beside x (by repeat (first | exact Sub.nil | apply Sub.cons rfl | refine Sub.cons_eq rfl (by simp only [v7, v5, v6, cond_true, cond_false]) ?_)) (fun w' hw' => by first | exact hw' | (simp only [v7, v5, v6, cond_true, cond_false]; exact hw'))
        · cases ho
          have h7 : e 7 = true := hd ⟨7, .data⟩ (by simp) rfl
          have v8 : Eng.upd e 8 8 = true := upd_eq
          have v7 : Eng.upd e 8 7 = true := upd_mono h7
          simp only [hei, h7, cond_true, cond_false]
          apply oop; rfl; apply Pev.load_blk; rfl; exact yes; exact .head _; rfl; assumption
          apply OL.nil
          exact At.beside x (by repeat (first | exact Sub.nil | apply Sub.cons rfl | refine Sub.cons_eq rfl (by simp only [v8, v7, cond_true, cond_false]) ?_)) (fun w' hw' => by first | exact hw' | (simp only [v8, v7, cond_true, cond_false]; exact hw'))
        · cases ho
          have h8 : e 8 = true := hd ⟨8, .data⟩ (by simp) rfl
          have v9 : Eng.upd e 9 9 = true := upd_eq
          have v8 : Eng.upd e 9 8 = true := upd_mono h8
          simp only [hei, h8, cond_true, cond_false]
          apply OL.buildSlice; rfl; rfl; rfl; exact Elems.au; rfl; rfl; (intro bk hbk; simp only [AllLe, and_true] at hbk)
          apply OL.nil
          exact At.beside { x with b1 := bk, hb1 := hbk.1 } (by repeat (first | exact Sub.nil | apply Sub.cons rfl | refine Sub.cons_eq rfl (by simp only [v9, v8, cond_true, cond_false]) ?_)) (fun w' hw' => by simp only [v9, v8, cond_true, cond_false]; exact Cls.fill (p := 4) (H := _ :: _ :: _ :: _ :: _ :: []) (.s (.s (.s (.s .z)))) hw')
        · cases ho
          have h4 : e 4 = true := hd ⟨4, .data⟩ (by simp) rfl
          have h9 : e 9 = true := hd ⟨9, .data⟩ (by simp) rfl
          have h13 : e 13 = false := hcl.not (i := 10) (j := 13) rfl hei (by kernel_rfl)
          have v10 : Eng.upd e 10 10 = true := upd_eq
          have v4 : Eng.upd e 10 4 = true := upd_mono h4
          have v9 : Eng.upd e 10 9 = true := upd_mono h9
          have v13 : Eng.upd e 10 13 = false := h13
          simp only [hei, h4, h9, h13, cond_true, cond_false]
          apply OL.append
          rfl
          rfl
          rfl
          rfl
          (repeat (first | apply Hole.z | apply Hole.s))
          (repeat (first | exact List.Mem.head _ | apply List.Mem.tail))
          (repeat (first | apply Take.zero | apply Take.succ))
          rfl
          rfl
          exact ⟨wk, .head _, Nat.le_refl _⟩
          omega
          intro O1 g1 cap1
          apply OL.nil
          exact At.beside { x with g1 := g1, c1 := cap1, O1 := O1 } (by repeat (first | exact Sub.nil | apply Sub.cons rfl | refine Sub.cons_eq rfl (by simp only [v10, v4, v9, v13, cond_true, cond_false]) ?_)) (fun w' hw' => by first | exact hw' | (simp only [v10, v4, v9, v13, cond_true, cond_false]; exact hw'))
        · cases ho
          have h0 : e 0 = true := hd ⟨0, .data⟩ (by simp) rfl
          have v11 : Eng.upd e 11 11 = true := upd_eq
          have v0 : Eng.upd e 11 0 = true := upd_mono h0
          simp only [hei, h0, cond_true, cond_false]
          apply oop; rfl; apply Pev.nil_ptr; rfl; exact yes
          apply OL.nil
          exact At.beside x (by repeat (first | exact Sub.nil | apply Sub.cons rfl | refine Sub.cons_eq rfl (by simp only [v11, v0, cond_true, cond_false]) ?_)) (fun w' hw' => by first | exact hw' | (simp only [v11, v0, cond_true, cond_false]; exact hw'))
        · cases ho
          have h11 : e 11 = true := hd ⟨11, .data⟩ (by simp) rfl
          have v12 : Eng.upd e 12 12 = true := upd_eq
          have v11 : Eng.upd e 12 11 = true := upd_mono h11
          simp only [hei, h11, cond_true, cond_false]
          apply ofa; rfl; rfl; rfl
          apply OL.nil
          exact At.beside x (by repeat (first | exact Sub.nil | apply Sub.cons rfl | refine Sub.cons_eq rfl (by simp only [v12, v11, cond_true, cond_false]) ?_)) (fun w' hw' => by first | exact hw' | (simp only [v12, v11, cond_true, cond_false]; exact hw'))
        · cases ho
          have h10 : e 10 = true := hd ⟨10, .data⟩ (by simp) rfl
          have h12 : e 12 = true := hd ⟨12, .data⟩ (by simp) rfl
          have v13 : Eng.upd e 13 13 = true := upd_eq
          have v10 : Eng.upd e 13 10 = true := upd_mono h10
          have v12 : Eng.upd e 13 12 = true := upd_mono h12
          simp only [hei, h10, h12, cond_true, cond_false]
          apply OL.storeB; rfl; rfl; exact CellsL.one rfl; rfl; rfl; rfl; exact Swap.au; exact Put.au
          apply OL.nil
          exact At.beside x (by repeat (first | exact Sub.nil | apply Sub.cons rfl | refine Sub.cons_eq rfl (by simp only [v13, v10, v12, cond_true, cond_false]) ?_)) (fun w' hw' => by first | exact hw' | (simp only [v13, v10, v12, cond_true, cond_false]; exact hw'))
      · intro x e2 hall
        have hx1 := x.hb1
        simp only [hall 0 (by decide), hall 1 (by decide), hall 2 (by decide), hall 3 (by decide), hall 4 (by decide), hall 5 (by decide), hall 6 (by decide), hall 7 (by decide), hall 8 (by decide), hall 9 (by decide), hall 10 (by decide), hall 11 (by decide), hall 12 (by decide), hall 13 (by decide), cond_true]
        have hsn : ptrs (kp tb (p.1.kids.take j)) ++ [.pointer (some ⟨tb kn, 0, none⟩)] = ptrs (kp tb (p.1.kids.take (j + 1))) := by
          rw [List.take_add_one, hk]
          simp [ptrs, kp]
        rw [hsn]
        with_reducible apply At.in_normal
        with_reducible apply At.next
        apply W.reg
        apply obn; rfl; rfl; rfl; apply Bin.add_in; omega
        apply omv; rfl; rfl
        apply OL.nil
        exact At.again (j + 1, ⟨x.O1, some ⟨x.g1, 0, none⟩, x.c1⟩) (by simp only; omega) (by simp only; omega) (by exact Sub.au) (fun w' hw' => hw'.thin (.keep (.keep (.keep (.keep (.blk ⟨hx1, by omega, trivial⟩ Thin.nil))))))
    obtain rfl : j = p.1.kids.length := by omega
    rw [List.take_length]
    refine W.xt ?_
    with_reducible apply At.next
    apply W.reg
    apply omv; rfl; rfl
    apply omv; rfl; rfl
    apply omv; rfl; rfl
    apply oop; rfl; apply Pev.idxB; rfl; exact yes; rfl; exact yes; rfl; intro hcond; omega; rfl
    (apply OL.storeI); rfl; rfl; rfl; rfl; rfl; (exact Swap.au); (rw [nds_length]; omega)
    have hset : (nds tb i es.length).set (0 + (i : Int).toNat * 1) (.pointer (some ⟨bt, 0, none⟩)) = nds (fun k => if k = i then bt else tb k) (i + 1) es.length := by
      rw [show 0 + (i : Int).toNat * 1 = i by simp, nds_set hil]
    rw [hset]
    apply OL.nil
    with_reducible apply At.in_normal
    with_reducible apply At.next
    apply W.reg
    apply obn; rfl; rfl; rfl; apply Bin.add_in; omega
    apply omv; rfl; rfl
    apply OL.nil
    refine At.againE (fun w' hw' => ⟨(i + 1, w', fun k => if k = i then bt else tb k), ⟨by simp only; omega, Nat.le_trans hwk (hw'.kp wk (.head _)).size, Nat.lt_of_lt_of_le hbnk (hw'.kp wk (.head _)).size, ?_⟩, by simp only; omega, (by exact Sub.au), ?_⟩)
    · intro k hk
      simp only at hk ⊢
      have hsz := (hw'.kp wk (.head _)).size
      have hold : ∀ m, m < i → TrO w' (fun b => b < w'.heap.size ∧ b ≠ bn) (grow e m) (tb m) := fun m hm =>
        TrO.mono (fun b hb => ⟨Nat.lt_of_lt_of_le hb.1 hsz, hb.2⟩) (TrO.stab (fun b hb => (hw'.kp wk (.head _)).block b hb.1 (NotOwned.not (by have h1 := hb.1; have h2 := hb.2; exact NotOwned.au))) (htr m hm))
      have hlow : ∀ k, low w k → w'.heap[k]? = w.heap[k]? := hw'.same (.tail _ (.head _)) (fun k hk => by have hk2 : k < w.heap.size := hk; exact NotOwned.au)
      have hlow2 : ∀ k, low w k → k < w'.heap.size ∧ k ≠ bn := fun k hk => ⟨hw'.up (.tail _ (.head _)) k hk, by have hk2 : k < w.heap.size := hk; omega⟩
      by_cases hki : k = i
      · subst hki
        rw [if_pos rfl, grow_eq hd hpe]
        have hbt2 := hw'.item (i := blk bt 91 [.int .i64 p.1.op, .int .i64 p.1.n, .slice p.2.b.1 p.1.binds.length p.2.b.2, .slice qk p.1.kids.length ck, .slice p.2.a.1 p.1.alts.length p.2.a.2]) (by exact mau)
        have hbt3 := hw'.lt (blk bt 91 [.int .i64 p.1.op, .int .i64 p.1.n, .slice p.2.b.1 p.1.binds.length p.2.b.2, .slice qk p.1.kids.length ck, .slice p.2.a.1 p.1.alts.length p.2.a.2]) (by exact mau) bt rfl
        have hrk := hw'.item (i := row wk.heap.size Ok qk p.1.kids.length ck 69 1 (ptrs (kp tb p.1.kids))) (by exact mau)
        have hrk3 := hw'.lt (row wk.heap.size Ok qk p.1.kids.length ck 69 1 (ptrs (kp tb p.1.kids))) (by exact mau)
        simp only [TrO]
        refine ⟨⟨p.2.b, (qk, ck), p.2.a⟩, ⟨⟨hbt3, by omega⟩, fun j v hj => ?_, hL.b, hL.a, hL.ab, (hok.b.stab hlow).mono hlow2, (hok.a.stab hlow).mono hlow2⟩, by rw [List.length_map]; exact hkl1, fun hl => ?_⟩
        · rw [add_mid, blk_cell hbt2, Nat.zero_add]
          rw [List.length_map] at hj
          exact hj
        · rw [List.length_map] at hl
          obtain ⟨a, h1, h2, h3⟩ := row_at hrk (by simpa [ptrs, kp] using hl)
          refine ⟨a, h1, ⟨hrk3 _ h2, by omega⟩, TrsO.of (bs := kp tb p.1.kids) (by simp [kp]) h3 (fun m t b h4 h5 => ?_)⟩
          simp only [kp, List.getElem?_map] at h4 h5
          cases hkm : p.1.kids[m]? with
          | none => rw [hkm] at h4; cases h4
          | some kv =>
            simp only [hkm, Option.map_some, Option.some.injEq] at h4 h5
            subst h4 h5
            have hkr := hdn kv (List.mem_of_getElem? hkm)
            exact hold kv.toNat (by omega)
      · rw [if_neg hki]
        exact hold k (by omega)
    · simp only
      have hany : ∀ (j : Eng.Item), (∀ k, j.own k → wk.heap.size ≤ k) → ∀ k, j.own k → AllLe [wk, w] k := fun j hj k hk => ⟨hj k hk, Nat.le_trans hwk (hj k hk), trivial⟩
      exact ((hw'.thin (.keep (.blk ⟨by omega, by omega, trivial⟩ (.blk ⟨by omega, by omega, trivial⟩ (.any (hany _ fun k hk => hk.1) Thin.nil))))).note).forget (fun s hs => by simp at hs ⊢; rcases hs with rfl | rfl <;> simp)
  · obtain rfl : i = n + 1 := by omega
    have hlast : (nds tb (n + 1) es.length)[0 + (n : Int).toNat * 1]? = some (.pointer (some ⟨tb n, 0, none⟩)) := by
      rw [show 0 + (n : Int).toNat * 1 = n by omega]
      exact nds_get (by omega) (by omega)
    refine W.xt ?_
    with_reducible apply At.next
    apply W.sr
    apply omv; rfl; rfl
    apply omv; rfl; rfl
    apply oop; rfl; apply Pev.idxB; rfl; exact yes; rfl; exact yes; rfl; intro hcond; omega; rfl
    apply oop; rfl; apply Pev.load_blk; rfl; exact yes; exact .head _; rfl; assumption
    apply oas; rfl; rfl
    apply OL.nx
    apply W.ret
    ((with_reducible apply At.fin1); rfl; rfl; intro w' hw')
    have hsz := (hw'.kp wk (.head _)).size
    exact ⟨tb n, rfl, by (exact hw'.fr), TrO.mono (fun b hb => Nat.lt_of_lt_of_le hb.1 hsz) (TrO.stab (fun b hb => (hw'.kp wk (.head _)).block b hb.1 (NotOwned.not (by have h1 := hb.1; have h2 := hb.2; exact NotOwned.au))) (htr _ (by omega)))⟩
end Go.Proofs.YtlboppiogeaicaaDoor.co

/- The walks of core's Size and of the reference's Below and Count. Conditions: none. -/
namespace Go.Co
open Go.Eng Go.RowKit
set_option linter.unusedVariables false
set_option linter.unusedSimpArgs false
noncomputable def atE (e : List Ex) (n : Int) : Int := if bodyE e [] false = 0 then (if 0 ≤ n ∧ n < (e.length : Int) then 0 else 12) else bodyE e [] false
def bls (l : List Bool) : List Value := l.map fun b => .bool b
theorem bls_length (l : List Bool) : (bls l).length = l.length := by simp [bls]
theorem bls_get {l : List Bool} {i : Nat} {b : Bool} (h : l[i]? = some b) : (bls l)[i]? = some (.bool b) := by simp [bls, h]
theorem bls_set (l : List Bool) (i : Nat) (b : Bool) : (bls l).set i (.bool b) = bls (l.set i b) := by simp [bls]
theorem bls_zero (n : Nat) : List.replicate n (Value.bool false) = bls (List.replicate n false) := by simp [bls]
/-- a slice of truth values -/
def BlsO (w : World) (O : Nat → Prop) (l : List Bool) (q : Option Addr) : Prop := 0 < l.length → ∃ a, q = some a ∧ O a.block ∧ CellsAt w a (bls l)
theorem BlsO.stab {w w' : World} {O : Nat → Prop} {l : List Bool} {q : Option Addr} (hk : ∀ k, O k → w'.heap[k]? = w.heap[k]?) (h : BlsO w O l q) : BlsO w' O l q := fun hl => by
  obtain ⟨a, h1, h2, h3⟩ := h hl
  exact ⟨a, h1, h2, cells_stab (hk _ h2) h3⟩
theorem BlsO.mono {w : World} {O O' : Nat → Prop} {l : List Bool} {q : Option Addr} (hk : ∀ k, O k → O' k) (h : BlsO w O l q) : BlsO w O' l q := fun hl => by
  obtain ⟨a, h1, h2, h3⟩ := h hl
  exact ⟨a, h1, hk _ h2, h3⟩
theorem BlsO.get {w : World} {O : Nat → Prop} {l : List Bool} {q : Option Addr} (h : BlsO w O l q) {i : Nat} (hi : i < l.length) : ∃ a u, q = some a ∧ O a.block ∧ l[i]? = some u ∧ w.cell? (a.add (i * 1)) = some (.bool u) := by
  obtain ⟨a, h1, h2, h3⟩ := h (by omega)
  have hu : l[i]? = some l[i] := List.getElem?_eq_getElem hi
  exact ⟨a, l[i], h1, h2, hu, by rw [Nat.mul_one]; exact h3 i _ (bls_get hu)⟩
theorem BlsO.at {w w' : World} {l : List Bool} {q : Option Addr} {H : List Eng.Item} {S : List World} (h : BlsO w (low w) l q) (hw : Cls H S w') (hs : w ∈ S) (hno : ∀ k, k < w.heap.size → NotOwned H k) : BlsO w' (low w') l q :=
  BlsO.mono (hw.up hs) (BlsO.stab (hw.same hs hno) h)
theorem count_take {l : List Bool} {i : Nat} {b : Bool} (h : l[i]? = some b) : (l.take (i + 1)).count true = (l.take i).count true + (if b then 1 else 0) := by
  rw [List.take_add_one, h]
  cases b <;> simp
end Go.Co
namespace Go.Proofs.YtlboppiogeaicaaDoor.co
open Go.RowKit Go.Eng Go.Co
set_option linter.unusedVariables false
set_option linter.unusedSimpArgs false
set_option maxRecDepth 100000
theorem Size_calls (es : List (Ex × ExY)) (q : Option Addr) (cap : Nat) (n : Int) (w : World) (he : Arr exR w (low w) es q) (hlen : es.length ≤ 9223372036854775807) (hcap : es.length ≤ cap) (hg : 1 < w.heap.size) (hs : arityAt w) :
    Calls Tryd.prog 13 [.slice q es.length cap, .int .i64 n].toArray w fun e w' => ∃ c : Int, e = .returned (.tuple #[.int .i64 c, .int .i64 (atE (es.map Prod.fst) n)]) ∧ Ext w w' ∧ (atE (es.map Prod.fst) n ≠ 0 → c = 0) ∧ (atE (es.map Prod.fst) n = 0 → c = (tsz (grow (es.map Prod.fst) n.toNat) : Int)) := by
  obtain ⟨e, hee⟩ : ∃ e, es.map Prod.fst = e := ⟨_, rfl⟩
  have hel : e.length = es.length := by rw [← hee, List.length_map]
  rw [hee]
  refine enter Tryd.func13 rfl Tryd.ntmps13 rfl (Cls.start w) ?_
  (simp only [argEnv, Nat.zero_add, Nat.reduceAdd])
  apply W.sr
  apply oas; rfl; rfl
  apply oas; rfl; rfl
  apply OL.nx
  apply W.seq
  apply W.sr
  apply omv; rfl; rfl
  apply omv; rfl; rfl
  (((first | (with_reducible apply OL.op) | (with_reducible apply QL.op)); (exact Guard.au); rfl; rfl); (exact Pev.call (v := .int .i64 (atE e n)) rfl (by exact Args.au) (fun _ w2 hw2 => (at_calls es q cap n w2 (he.at hw2 (by exact mau) (fun k hk => by exact NotOwned.au)) hlen (Nat.lt_of_lt_of_le hg (hw2.kp w (by exact mau)).size) (hs.at hg hw2 (by exact mau) (fun k hk => by exact NotOwned.au))).mono (fun e1 w3 h => ⟨by rw [h.1, hee, ← hel]; rfl, hw2.ext h.2⟩))))
  apply oas; rfl; rfl
  apply OL.nsr
  apply omv; rfl; rfl
  apply obn; rfl; rfl; rfl; apply Bin.neq
  apply OL.nx
  (refine W.cnd (fun hne => ?_) (fun hne => ?_)) <;> (try (exfalso; first | omega | exact hne trivial | contradiction))
  · apply W.sr
    apply omv; rfl; rfl
    apply oas; rfl; rfl
    apply oas; rfl; rfl
    apply OL.nx
    refine W.rt ?_
    ((with_reducible apply At.fin2); rfl; rfl; rfl; intro w' hw')
    exact ⟨0, rfl, by (exact hw'.fr), fun _ => rfl, fun h => absurd h (by simpa using hne)⟩
  have h0 : atE e n = 0 := by simpa using hne
  have hb0 : bodyE e [] false = 0 := by
    unfold atE at h0
    split at h0
    · assumption
    · exact h0
  have hn : 0 ≤ n ∧ n < (e.length : Int) := by
    unfold atE at h0
    rw [if_pos hb0] at h0
    split at h0
    · assumption
    · cases h0
  obtain ⟨m, rfl⟩ : ∃ m : Nat, n = (m : Int) := ⟨n.toNat, by omega⟩
  have hok := BodyOk.of hb0
  have hm : m < e.length := by omega
  have hl4 := hok.tree.len
  have hts := tsz_le hok.tree.tree hm
  have hin : ∀ p ∈ es, p.1 ∈ e := fun p hp => by rw [← hee]; exact List.mem_map_of_mem hp
  rw [h0]
  apply W.sk
  apply W.sr
  apply omv; rfl; rfl
  apply omv; rfl; rfl
  refine OL.callE (α := Nat × World) (fun z => .pointer (some ⟨z.1, 0, none⟩)) (fun z => TrO z.2 (low z.2) (grow e m) z.1 ∧ w.heap.size ≤ z.2.heap.size) (fun z => Cls [] [z.2, w]) rfl rfl (by exact Args.au) (fun w2 hw2 => (below_calls es q cap m w2 (he.at hw2 (by exact mau) (fun k hk => by exact NotOwned.au)) (by omega) hcap (by omega) (by rw [hee]; exact hok.tree.tree.down) (fun p hp => hok.lim (hin p hp)) (fun p hp => hok.kl (hin p hp))).mono (fun e1 w3 ⟨b, h1, h2, h3⟩ => ⟨(b, w3), h1, ⟨by rw [hee] at h3; exact h3, Nat.le_trans (hw2.kp w (by exact mau)).size h2.size⟩, (hw2.ext h2).note⟩)) ?_
  rintro ⟨bt, w3⟩ ⟨htr, hsz3⟩
  simp only at htr hsz3 ⊢
  (((first | (with_reducible apply OL.op) | (with_reducible apply QL.op)); (exact Guard.au); rfl; rfl); (exact Pev.call rfl (by exact Args.au) (fun _ w2 hw2 => (Count_calls (tsz (grow e m)) (grow e m) bt w2 (Nat.le_refl _) (by omega) (htr.at hw2 (by exact mau) (fun k hk => NotOwned.nil))).mono (fun e w3 h => ⟨h.1, hw2.ext h.2⟩))))
  apply oas; rfl; rfl
  apply oas; rfl; rfl
  apply OL.nx
  apply W.ret
  ((with_reducible apply At.fin2); rfl; rfl; rfl; intro w' hw')
  exact ⟨_, rfl, by (exact hw'.fr), fun h => absurd rfl h, fun _ => by rw [Int.toNat_natCast]⟩
end Go.Proofs.YtlboppiogeaicaaDoor.co

/- The walk of slices.Equal at []int. Conditions: none. -/
namespace Go.Proofs.YtlboppiogeaicaaDoor.co
open Go.RowKit Go.Eng Go.Co
set_option linter.unusedVariables false
set_option linter.unusedSimpArgs false
set_option maxRecDepth 100000
theorem IEqual_calls (q1 q2 : Option Addr) (cap1 cap2 : Nat) (l1 l2 : List Int) (w : World) (hl1 : l1.length ≤ 9223372036854775807) (hl2 : l2.length ≤ 9223372036854775807) (h1 : IntsO w (low w) l1 q1) (h2 : IntsO w (low w) l2 q2) :
    Calls Tryd.prog 20 #[.slice q1 l1.length cap1, .slice q2 l2.length cap2] w fun e w' => e = .returned (.bool (decide (l1 = l2))) ∧ Ext w w' := by
  refine enter Tryd.func20 rfl Tryd.ntmps20 rfl (Cls.start w) ?_
  (simp only [argEnv, Nat.zero_add, Nat.reduceAdd])
  apply W.sr
  apply oas; rfl; rfl
  apply OL.nx
  apply W.seq
  apply W.sr
  apply omv; rfl; rfl
  apply oop; rfl; apply Pev.len_slice; rfl; exact yes; rfl
  apply omv; rfl; rfl
  apply oop; rfl; apply Pev.len_slice; rfl; exact yes; rfl
  apply obn; rfl; rfl; rfl; apply Bin.neq
  apply OL.nx
  (refine W.cnd (fun hne => ?_) (fun hne => ?_)) <;> (try (exfalso; first | omega | exact hne trivial | contradiction))
  · apply W.sr
    apply oas; rfl; rfl
    apply OL.nx
    refine W.rt ?_
    ((with_reducible apply At.fin1); rfl; rfl; intro w' hw')
    have : ¬ l1 = l2 := fun e => by subst e; exact hne rfl
    exact ⟨by simp [this], by (exact hw'.fr)⟩
  apply W.sk
  apply W.seq
  apply W.sr
  apply omv; rfl; rfl
  apply oop; rfl; apply Pev.len_slice; rfl; exact yes; rfl
  apply omv; rfl; rfl
  apply OL.nx
  apply W.block
  refine W.loop (G := Nat) (fun i => i ≤ l1.length ∧ ∀ j, j < i → l1[j]? = l2[j]?) (fun i => l1.length - i)
    (fun i => [(13, true, .int .i64 (i : Int)), (12, true, .int .i64 (l1.length : Int)), (0, true, .slice q1 l1.length cap1), (1, true, .slice q2 l2.length cap2)])
    (fun i => Cls [] [w]) 0 ⟨by omega, fun j hj => by omega⟩ (by exact Sub.au) (fun w' hw' => hw') ?_
  rintro i ⟨hi, hsame⟩
  apply W.sr
  apply obn; rfl; rfl; rfl; apply Bin.lss
  apply OL.nx
  apply W.seq
  (refine W.cnd (fun hlt => ?_) (fun hlt => ?_)) <;> (try (exfalso; first | omega | exact hlt trivial | contradiction))
  · obtain ⟨a, u, rfl, hab, hu, hcell⟩ := h1.get (show i < l1.length by omega)
    obtain ⟨a2, u2, rfl, hab2, hu2, hcell2⟩ := h2.get (show i < l2.length by omega)
    have hab : a.block < w.heap.size := hab
    have hab2 : a2.block < w.heap.size := hab2
    apply W.sk
    apply W.sb
    apply W.sr
    apply omv; rfl; rfl
    apply oas; rfl; rfl
    apply OL.nx
    apply W.seq
    apply W.regd0; decide +kernel; kernel_rfl; decide +kernel; exact fun w hw => hw.drew
    apply qmv; rfl; rfl
    apply qmv; rfl; rfl
    apply qop; rfl; apply Pev.idx; rfl; exact yes; rfl; exact yes; rfl; rfl; intro hcond; omega
    apply qop; rfl; apply Pev.load_kept; rfl; exact yes; exact .head _; rfl; intro hcond; assumption; intro hcond; (rw [add_block]; assumption); intro hcond; exact NotOwned.au
    apply qmv; rfl; rfl
    apply qmv; rfl; rfl
    apply qop; rfl; apply Pev.idx; rfl; exact yes; rfl; exact yes; rfl; rfl; intro hcond; omega
    apply qop; rfl; apply Pev.load_kept; rfl; exact yes; exact .head _; rfl; intro hcond; assumption; intro hcond; (rw [add_block]; assumption); intro hcond; exact NotOwned.au
    apply qbn; rfl; rfl; rfl; apply Bin.neq
    apply QL.nil
    with_reducible apply At.next
    (refine W.cnd (fun hd => ?_) (fun hd => ?_)) <;> (try (exfalso; first | omega | exact hd trivial | contradiction))
    · apply W.sr
      apply oas; rfl; rfl
      apply OL.nx
      refine W.rt ?_
      ((with_reducible apply At.fin1); rfl; rfl; intro w' hw')
      have : ¬ l1 = l2 := fun e => by
        subst e
        rw [hu] at hu2
        exact hd (Option.some.inj hu2)
      exact ⟨by simp [this], by (exact hw'.fr)⟩
    · apply W.skip
      with_reducible apply At.in_normal
      with_reducible apply At.next
      apply W.reg
      apply obn; rfl; rfl; rfl; apply Bin.add_in; omega
      apply omv; rfl; rfl
      apply OL.nil
      refine At.again (i + 1) ⟨by omega, fun j hj => ?_⟩ (by omega) (by exact Sub.au) (fun w' hw' => hw')
      by_cases hji : j = i
      · subst hji
        rw [hu, hu2, show u = u2 by first | omega | (simpa using hd)]
      · exact hsame j (by omega)
  · refine W.xt ?_
    with_reducible apply At.next
    apply W.sr
    apply oas; rfl; rfl
    apply OL.nx
    apply W.ret
    ((with_reducible apply At.fin1); rfl; rfl; intro w' hw')
    have : l1 = l2 := List.ext_getElem? fun j => by
      rcases Nat.lt_or_ge j l1.length with h | h
      · exact hsame j (by omega)
      · rw [List.getElem?_eq_none h, List.getElem?_eq_none (by omega)]
    exact ⟨by simp [this], by (exact hw'.fr)⟩
end Go.Proofs.YtlboppiogeaicaaDoor.co

/- The walks of core's same, SameTree and Same. Conditions: none. -/
namespace Go.Co
open Go.Eng Go.RowKit
set_option linter.unusedVariables false
set_option linter.unusedSimpArgs false
theorem lget_lput (l : List (Int × Int)) (k v j : Int) : lget (lput l k v) j = if k = j then some v else lget l j := by
  induction l with
  | nil =>
    simp only [lput, lget]
  | cons p r ih =>
    rw [lput]
    by_cases h : p.1 = k
    · rw [if_pos h]
      simp only [lget, h]
      split <;> simp_all
    · rw [if_neg h]
      simp only [lget]
      by_cases h2 : p.1 = j
      · rw [if_pos h2, if_pos h2, if_neg (fun e => h (h2.trans e.symm))]
      · rw [if_neg h2, if_neg h2]
        exact ih
theorem bdBs_take {ts : List Tr} {i : Nat} {t : Tr} (h : ts[i]? = some t) : bdBs (ts.take (i + 1)) = bdBs (ts.take i) ++ bdB t := by
  induction ts generalizing i with
  | nil => simp at h
  | cons u r ih =>
    cases i with
    | zero => simp at h; subst h; simp [bdBs]
    | succ i =>
      have := ih (i := i) (by simpa using h)
      simp only [List.take_succ_cons, bdBs, this, List.append_assoc]
theorem bdBs_sub {ts : List Tr} {i : Nat} {b : Int} (h : b ∈ bdBs (ts.take i)) : b ∈ bdBs ts := by
  induction ts generalizing i with
  | nil => simpa using h
  | cons u r ih =>
    cases i with
    | zero => simp [bdBs] at h
    | succ i =>
      simp only [List.take_succ_cons, bdBs, List.mem_append] at h ⊢
      exact h.imp id ih
theorem bindersT_small {op : Int} {binds : List Int} {alts : List Al} (h1 : binds.length ≤ 16) (h2 : alts.length ≤ 4096) (h3 : ∀ a ∈ alts, a.binds.length ≤ 16) : (bindersT op binds alts).length ≤ 100000 := by
  have := flat_len h3
  unfold bindersT
  rw [List.length_append]
  have h4 : (if op = 2 ∨ op = 4 ∨ op = 5 then binds else []).length ≤ 16 := by split <;> simp [h1]
  omega
end Go.Co
namespace Go.Eng
theorem AllLe.up : ∀ {S : List World} {a b : Nat}, AllLe S a → a ≤ b → AllLe S b
  | [], _, _, _, _ => trivial
  | _ :: _, _, _, h, hab => ⟨Nat.le_trans h.1 hab, AllLe.up h.2 hab⟩
theorem Cls.pile1 {H : List Item} {S : List World} {w w' : World} {q : Option Addr} {c : Nat} {l : List Int} (h : Cls H S w) (he : Ext w w') (hI : Co.IntsO w' (fresh w w') l q) : Cls (pile w.heap.size (fun k => k < w'.heap.size) [⟨q, c, Co.ints l⟩] :: H) S w' :=
  h.add he _ (fun s hs hl => by
    obtain rfl := List.mem_singleton.1 hs
    simp only [Co.ints_length] at hl
    obtain ⟨a, h1, h2, h3⟩ := hI hl
    exact ⟨a, h1, h2, h3⟩) (fun k hk => hk)
open Go.Co
section
variable {P : Program} {n : Nat} {l : Env} {H : List Item} {S : List World} {c : Bool} {d : Option Nat} {ty : TypeId} {pos : String} {af : Array Edge} {g : Option (Nat × Bool)} {t : TypeId} {x y : Operand} {cx cy : Bool}
theorem iget_lget (m : List (Int × Int)) (k : Int) : iget (intM m) k = (lget m k).map fun v => .int .i64 v := by
  induction m with
  | nil => rfl
  | cons p r ih =>
    show (if p.1 = k then some (Value.int .i64 p.2) else iget (intM r) k) = _
    rw [lget]
    split
    · rfl
    · exact ih
theorem Pev.clookup2 {k e : TypeId} {b : Nat} {m : List (Int × Int)} {s v : Int} (hx : evl l x = some (cx, .map (some b))) (hcx : c = true → cx = true) (hy : evl l y = some (cy, .int .i64 s)) (hcy : c = true → cy = true) (ht : mapTi P t = some (k, e)) (hz : zeroV P e = some (.int .i64 0)) (hm : mapI b (intM m) ∈ H) (hv : lget m s = some v) :
    Pev P n l (Cls H S) ⟨d, .lookup t x y true, ty, pos, af, g⟩ c (.tuple #[.int .i64 v, .bool true]) := by
  have h1 := Pev.ilookup2 (P := P) (n := n) (C := Cls H S) (d := d) (ty := ty) (pos := pos) (af := af) (g := g) hx hcx hy hcy ht hz (fun w hw => hw.item hm)
  rw [iget_lget, hv] at h1
  exact h1
end
end Go.Eng
namespace Go.Proofs.YtlboppiogeaicaaDoor.co
open Go.RowKit Go.Eng Go.Co
set_option linter.unusedVariables false
set_option linter.unusedSimpArgs false
set_option maxRecDepth 100000
structure SK where
  mp : List (Int × Int)
set_option maxHeartbeats 2000000 in
theorem same_calls (s0 : World) (bm : Nat) (hbm : s0.heap.size ≤ bm) :
    ∀ (m : Nat) (t u : Tr) (b b2 : Nat) (na nb : List Int) (mp : List (Int × Int)) (H : List Eng.Item) (S : List World) (w : World), tsz t ≤ m → TrO s0 (low s0) t b → TrO s0 (low s0) u b2 → Gd t na → Gd u nb → Dn nb → Prs mp na nb → (∀ k, k < s0.heap.size → NotOwned H k) →
      Cls (mapI bm (intM mp) :: H) (s0 :: S) w →
      Calls Tryd.prog 78 [.pointer (some ⟨b, 0, none⟩), .pointer (some ⟨b2, 0, none⟩), .map (some bm)].toArray w fun e w' => ∃ (r : Bool) (mp' : List (Int × Int)), e = .returned (.bool r) ∧ (r = true ↔ canon t na = canon u nb) ∧ (∀ k, ¬ k ∈ bdB t → lget mp' k = lget mp k) ∧ Cls (mapI bm (intM mp') :: H) (s0 :: S) w' := by
  intro m
  induction m with
  | zero =>
    intro t u b b2 na nb mp H S w hm
    obtain ⟨op, n, binds, kids, alts⟩ := t
    simp only [tsz] at hm
    omega
  | succ m ih =>
  intro t u b b2 na nb mp H S w hm ht hu hg hg' hdn hprs hno hc
  obtain ⟨op, n, binds, kids, alts⟩ := t
  obtain ⟨op', n', binds', kids', alts'⟩ := u
  simp only [TrO] at ht hu
  obtain ⟨y, hnode, hkl, hks⟩ := ht
  obtain ⟨y', hnode', hkl', hks'⟩ := hu
  have hbs : b < s0.heap.size := hnode.own
  have hbs2 : b2 < s0.heap.size := hnode'.own
  have hcellA : ∀ {j : Nat} {v : Value}, ([.int .i64 op, .int .i64 n, .slice y.b.1 binds.length y.b.2, .slice y.k.1 kids.length y.k.2, .slice y.a.1 alts.length y.a.2] : List Value)[j]? = some v → s0.cell? ⟨b, 0 + j, none⟩ = some v := fun {j v} hj => by
    have := hnode.cells j v hj
    rwa [add_mid] at this
  have hcellB : ∀ {j : Nat} {v : Value}, ([.int .i64 op', .int .i64 n', .slice y'.b.1 binds'.length y'.b.2, .slice y'.k.1 kids'.length y'.k.2, .slice y'.a.1 alts'.length y'.a.2] : List Value)[j]? = some v → s0.cell? ⟨b2, 0 + j, none⟩ = some v := fun {j v} hj => by
    have := hnode'.cells j v hj
    rwa [add_mid] at this
  have a0 := hcellA (j := 0) rfl
  have a1 := hcellA (j := 1) rfl
  have a2 := hcellA (j := 2) rfl
  have a3 := hcellA (j := 3) rfl
  have a4 := hcellA (j := 4) rfl
  have e0 := hcellB (j := 0) rfl
  have e1 := hcellB (j := 1) rfl
  have e2 := hcellB (j := 2) rfl
  have e3 := hcellB (j := 3) rfl
  have e4 := hcellB (j := 4) rfl
  have hN := hg.node
  have hN' := hg'.node
  have hbl16 := hnode.bl
  have hbl16' := hnode'.bl
  have hal := hnode.al
  have hal' := hnode'.al
  refine enter Tryd.func78 rfl Tryd.ntmps78 rfl hc ?_
  (simp only [argEnv, Nat.zero_add, Nat.reduceAdd])
  apply W.sr
  apply oas; rfl; rfl
  apply OL.nx
  apply W.seq
  apply W.seq
  apply W.regd0; decide +kernel; kernel_rfl; decide +kernel; exact fun w hw => hw.drew
  apply qmv; rfl; rfl
  apply qop; rfl; apply Pev.nil_ptr; rfl; exact yes
  apply qfa; rfl; rfl; rfl
  apply qop; rfl; apply Pev.load_kept; rfl; exact yes; exact .head _; rfl; intro hcond; assumption; intro hcond; assumption; intro hcond; exact NotOwned.au
  apply qmv; rfl; rfl
  apply qop; rfl; apply Pev.nil_ptr; rfl; exact yes
  apply qfa; rfl; rfl; rfl
  apply qop; rfl; apply Pev.load_kept; rfl; exact yes; exact .head _; rfl; intro hcond; assumption; intro hcond; assumption; intro hcond; exact NotOwned.au
  apply qbn; rfl; rfl; rfl; apply Bin.neq
  apply qmv; rfl; rfl
  apply qno; rfl; rfl; rfl; apply Pev.move; rfl; exact yes
  apply qno; rfl; rfl; rfl; apply Pev.nil_ptr; rfl; exact fun h => h
  apply qno; rfl; rfl; rfl; apply Pev.fld; rfl; exact fun h => h; rfl
  apply qno; rfl; rfl; rfl; apply Pev.load_kept; rfl; exact fun h => h; exact .head _; rfl; intro hcond; assumption; intro hcond; assumption; intro hcond; exact NotOwned.au
  apply qno; rfl; rfl; rfl; apply Pev.len_slice; rfl; exact fun h => h; rfl
  apply qno; rfl; rfl; rfl; apply Pev.move; rfl; exact yes
  apply qno; rfl; rfl; rfl; apply Pev.nil_ptr; rfl; exact fun h => h
  apply qno; rfl; rfl; rfl; apply Pev.fld; rfl; exact fun h => h; rfl
  apply qno; rfl; rfl; rfl; apply Pev.load_kept; rfl; exact fun h => h; exact .head _; rfl; intro hcond; assumption; intro hcond; assumption; intro hcond; exact NotOwned.au
  apply qno; rfl; rfl; rfl; apply Pev.len_slice; rfl; exact fun h => h; rfl
  apply qno; rfl; rfl; rfl; apply Pev.bin; rfl; exact fun h => h; rfl; exact fun h => h; intro hcond; apply Bin.neq
  apply qop; rfl; apply Pev.pick_or; rfl; exact yes; rfl; exact fun h => h
  apply qmv; rfl; rfl
  apply qno; rfl; rfl; rfl; apply Pev.move; rfl; exact yes
  apply qno; rfl; rfl; rfl; apply Pev.nil_ptr; rfl; exact fun h => h
  apply qno; rfl; rfl; rfl; apply Pev.fld; rfl; exact fun h => h; rfl
  apply qno; rfl; rfl; rfl; apply Pev.load_kept; rfl; exact fun h => h; exact .head _; rfl; intro hcond; assumption; intro hcond; assumption; intro hcond; exact NotOwned.au
  apply qno; rfl; rfl; rfl; apply Pev.len_slice; rfl; exact fun h => h; rfl
  apply qno; rfl; rfl; rfl; apply Pev.move; rfl; exact yes
  apply qno; rfl; rfl; rfl; apply Pev.nil_ptr; rfl; exact fun h => h
  apply qno; rfl; rfl; rfl; apply Pev.fld; rfl; exact fun h => h; rfl
  apply qno; rfl; rfl; rfl; apply Pev.load_kept; rfl; exact fun h => h; exact .head _; rfl; intro hcond; assumption; intro hcond; assumption; intro hcond; exact NotOwned.au
  apply qno; rfl; rfl; rfl; apply Pev.len_slice; rfl; exact fun h => h; rfl
  apply qno; rfl; rfl; rfl; apply Pev.bin; rfl; exact fun h => h; rfl; exact fun h => h; intro hcond; apply Bin.neq
  apply qop; rfl; apply Pev.pick_or; rfl; exact yes; rfl; exact fun h => h
  apply qmv; rfl; rfl
  apply qno; rfl; rfl; rfl; apply Pev.move; rfl; exact yes
  apply qno; rfl; rfl; rfl; apply Pev.nil_ptr; rfl; exact fun h => h
  apply qno; rfl; rfl; rfl; apply Pev.fld; rfl; exact fun h => h; rfl
  apply qno; rfl; rfl; rfl; apply Pev.load_kept; rfl; exact fun h => h; exact .head _; rfl; intro hcond; assumption; intro hcond; assumption; intro hcond; exact NotOwned.au
  apply qno; rfl; rfl; rfl; apply Pev.len_slice; rfl; exact fun h => h; rfl
  apply qno; rfl; rfl; rfl; apply Pev.move; rfl; exact yes
  apply qno; rfl; rfl; rfl; apply Pev.nil_ptr; rfl; exact fun h => h
  apply qno; rfl; rfl; rfl; apply Pev.fld; rfl; exact fun h => h; rfl
  apply qno; rfl; rfl; rfl; apply Pev.load_kept; rfl; exact fun h => h; exact .head _; rfl; intro hcond; assumption; intro hcond; assumption; intro hcond; exact NotOwned.au
  apply qno; rfl; rfl; rfl; apply Pev.len_slice; rfl; exact fun h => h; rfl
  apply qno; rfl; rfl; rfl; apply Pev.bin; rfl; exact fun h => h; rfl; exact fun h => h; intro hcond; apply Bin.neq
  apply qop; rfl; apply Pev.pick_or; rfl; exact yes; rfl; exact fun h => h
  apply QL.nil
  with_reducible apply At.next
  refine W.cond rfl (fun hb => ?_) (fun hb => ?_)
  · apply W.sr
    apply oas; rfl; rfl
    apply OL.nx
    refine W.rt ?_
    ((with_reducible apply At.fin1); rfl; rfl; intro w' hw')
    refine ⟨false, mp, rfl, ⟨fun h => (by cases h), fun h => ?_⟩, fun k _ => rfl, hw'⟩
    obtain ⟨h1, h2, h3, h4⟩ := canon_shape hN hN' h
    simp [h1, h2, h3, h4] at hb
  have hsh : op = op' ∧ kids.length = kids'.length ∧ binds.length = binds'.length ∧ alts.length = alts'.length := by grind
  obtain ⟨rfl, hkk, hbb, haa⟩ := hsh
  apply W.sk
  apply W.seq
  refine W.joinx (G := Unit) (fun _ => op ≠ 0 ∧ n = n' ∧ (op = 9 → binds = binds')) (fun _ => [(0, true, .pointer (some ⟨b, 0, none⟩)), (1, true, .pointer (some ⟨b2, 0, none⟩)), (2, true, .map (some bm))]) (fun _ => Cls (mapI bm (intM mp) :: H) (s0 :: S)) ?_ ?_
  · apply W.block
    apply W.sr
    apply omv; rfl; rfl
    apply oop; rfl; apply Pev.nil_ptr; rfl; exact yes
    apply ofa; rfl; rfl; rfl
    apply oop; rfl; apply Pev.load_kept; rfl; exact yes; exact .head _; rfl; intro hcond; assumption; intro hcond; assumption; intro hcond; exact NotOwned.au
    apply obn; rfl; rfl; rfl; apply Bin.eql
    apply oas; rfl; rfl
    apply OL.nx
    (refine W.cnd (fun hop => ?_) (fun hop => ?_)) <;> (try (exfalso; first | omega | exact hop trivial | contradiction))
    · subst hop
      obtain ⟨⟨v, hv⟩, hcv⟩ := canon_var hprs hg hg' hdn
      apply W.sr
      apply omv; rfl; rfl
      apply omv; rfl; rfl
      apply oop; rfl; apply Pev.nil_ptr; rfl; exact yes
      apply ofa; rfl; rfl; rfl
      apply oop; rfl; apply Pev.load_kept; rfl; exact yes; exact .head _; rfl; intro hcond; assumption; intro hcond; assumption; intro hcond; exact NotOwned.au
      (((first | (with_reducible apply OL.op) | (with_reducible apply QL.op)); (exact Guard.au); rfl; rfl); (refine Pev.clookup2 (v := v) rfl ?_ rfl ?_ rfl rfl (.head _) hv <;> ((first | exact fun _ => rfl | exact fun h => h | (intro h; simp_all; done)))))
      apply omv; rfl; rfl
      apply oex; rfl; rfl; rfl
      apply oex; rfl; rfl; rfl
      apply oas; rfl; rfl
      apply oas; rfl; rfl
      apply OL.nx
      apply W.seq
      apply W.regd0; decide +kernel; kernel_rfl; decide +kernel; exact fun w hw => hw.drew
      apply qmv; rfl; rfl
      apply qmv; rfl; rfl
      apply qy; rfl; rfl; rfl; apply Pev.move; rfl; exact yes
      apply qy; rfl; rfl; rfl; apply Pev.move; rfl; exact yes
      apply qy; rfl; rfl; rfl; apply Pev.nil_ptr; rfl; exact yes
      apply qy; rfl; rfl; rfl; apply Pev.fld; rfl; exact yes; rfl
      apply qy; rfl; rfl; rfl; apply Pev.load_kept; rfl; exact yes; exact .head _; rfl; intro hcond; assumption; intro hcond; assumption; intro hcond; exact NotOwned.au
      apply qy; rfl; rfl; rfl; apply Pev.bin; rfl; exact yes; rfl; exact yes; intro hcond; apply Bin.eql
      apply qop; rfl; apply Pev.pick_and; rfl; exact yes; rfl; exact yes
      apply qmv; rfl; rfl
      apply qno; rfl; rfl; rfl; apply Pev.move; rfl; exact yes
      apply qno; rfl; rfl; rfl; apply Pev.not; rfl; exact fun h => h
      apply qno; rfl; rfl; rfl; apply Pev.move; rfl; exact fun h => h
      apply QL.op; exact Guard.cyes rfl rfl; rfl; rfl; apply Pev.move; rfl; exact yes
      apply QL.op; exact Guard.cyes rfl rfl; rfl; rfl; apply Pev.nil_ptr; rfl; exact fun h => h
      apply QL.op; exact Guard.cyes rfl rfl; rfl; rfl; apply Pev.fld; rfl; exact fun h => h; rfl
      apply QL.op; exact Guard.cyes rfl rfl; rfl; rfl; apply Pev.load_kept; rfl; exact fun h => h; exact .head _; rfl; intro hcond; assumption; intro hcond; assumption; intro hcond; exact NotOwned.au
      apply QL.op; exact Guard.cyes rfl rfl; rfl; rfl; apply Pev.move; rfl; exact yes
      apply QL.op; exact Guard.cyes rfl rfl; rfl; rfl; apply Pev.nil_ptr; rfl; exact fun h => h
      apply QL.op; exact Guard.cyes rfl rfl; rfl; rfl; apply Pev.fld; rfl; exact fun h => h; rfl
      apply QL.op; exact Guard.cyes rfl rfl; rfl; rfl; apply Pev.load_kept; rfl; exact fun h => h; exact .head _; rfl; intro hcond; assumption; intro hcond; assumption; intro hcond; exact NotOwned.au
      apply QL.op; exact Guard.cyes rfl rfl; rfl; rfl; apply Pev.bin; rfl; exact fun h => h; rfl; exact fun h => h; intro hcond; apply Bin.eql
      apply qno; rfl; rfl; rfl; apply Pev.pick_and; rfl; exact fun h => h; rfl; exact fun h => h
      apply qop; rfl; apply Pev.pick_or; rfl; exact yes; rfl; exact fun h => h
      apply qas; rfl; rfl
      apply QL.nil
      with_reducible apply At.next
      refine W.rt ?_
      ((with_reducible apply At.fin1); rfl; rfl; intro w' hw')
      refine ⟨_, mp, rfl, ?_, fun k _ => rfl, hw'⟩
      rw [hcv, hv]
      simp
    · apply W.seq
      apply W.regd0; decide +kernel; kernel_rfl; decide +kernel; exact fun w hw => hw.drew
      apply qmv; rfl; rfl
      apply qop; rfl; apply Pev.nil_ptr; rfl; exact yes
      apply qfa; rfl; rfl; rfl
      apply qop; rfl; apply Pev.load_kept; rfl; exact yes; exact .head _; rfl; intro hcond; assumption; intro hcond; assumption; intro hcond; exact NotOwned.au
      apply qmv; rfl; rfl
      apply qop; rfl; apply Pev.nil_ptr; rfl; exact yes
      apply qfa; rfl; rfl; rfl
      apply qop; rfl; apply Pev.load_kept; rfl; exact yes; exact .head _; rfl; intro hcond; assumption; intro hcond; assumption; intro hcond; exact NotOwned.au
      apply qbn; rfl; rfl; rfl; apply Bin.neq
      apply qmv; rfl; rfl
      apply qno; rfl; rfl; rfl; apply Pev.move; rfl; exact yes
      apply qno; rfl; rfl; rfl; apply Pev.nil_ptr; rfl; exact fun h => h
      apply qno; rfl; rfl; rfl; apply Pev.fld; rfl; exact fun h => h; rfl
      apply qno; rfl; rfl; rfl; apply Pev.load_kept; rfl; exact fun h => h; exact .head _; rfl; intro hcond; assumption; intro hcond; assumption; intro hcond; exact NotOwned.au
      apply qno; rfl; rfl; rfl; apply Pev.bin; rfl; exact fun h => h; rfl; exact yes; intro hcond; apply Bin.eql
      apply qno; rfl; rfl; rfl; apply Pev.move; rfl; exact fun h => h
      apply QL.op; exact Guard.cyes rfl rfl; rfl; rfl; apply Pev.move; rfl; exact yes
      apply QL.op; exact Guard.cyes rfl rfl; rfl; rfl; apply Pev.nil_ptr; rfl; exact fun h => h
      apply QL.op; exact Guard.cyes rfl rfl; rfl; rfl; apply Pev.fld; rfl; exact fun h => h; rfl
      apply QL.op; exact Guard.cyes rfl rfl; rfl; rfl; apply Pev.load_kept; rfl; exact fun h => h; exact .head _; rfl; intro hcond; assumption; intro hcond; assumption; intro hcond; exact NotOwned.au
      apply QL.op; exact Guard.cyes rfl rfl; rfl; rfl; apply Pev.move; rfl; exact yes
      apply QL.op; exact Guard.cyes rfl rfl; rfl; rfl; apply Pev.nil_ptr; rfl; exact fun h => h
      apply QL.op; exact Guard.cyes rfl rfl; rfl; rfl; apply Pev.fld; rfl; exact fun h => h; rfl
      apply QL.op; exact Guard.cyes rfl rfl; rfl; rfl; apply Pev.load_kept; rfl; exact fun h => h; exact .head _; rfl; intro hcond; assumption; intro hcond; assumption; intro hcond; exact NotOwned.au
      (((first | (with_reducible apply OL.op) | (with_reducible apply QL.op)); (exact Guard.au); rfl; rfl); (exact Pev.call (v := .bool (decide (binds = binds'))) rfl (by exact Args.au) (fun _ w2 hw2 => (IEqual_calls y.b.1 y'.b.1 y.b.2 y'.b.2 binds binds' w2 (by omega) (by omega) (hnode.b.at hw2 (by exact mau) (fun k hk => by exact NotOwned.au)) (hnode'.b.at hw2 (by exact mau) (fun k hk => by exact NotOwned.au))).mono (fun e w3 h => ⟨h.1, hw2.ext h.2⟩))))
      apply QL.op; exact Guard.cyes rfl rfl; rfl; rfl; apply Pev.not; rfl; exact fun h => h
      apply qno; rfl; rfl; rfl; apply Pev.pick_and; rfl; exact fun h => h; rfl; exact fun h => h
      apply qop; rfl; apply Pev.pick_or; rfl; exact yes; rfl; exact fun h => h
      apply qas; rfl; rfl
      apply QL.nil
      with_reducible apply At.next
      refine W.cond rfl (fun hb1 => ?_) (fun hb1 => ?_)
      · apply W.sr
        apply oas; rfl; rfl
        apply OL.nx
        refine W.rt ?_
        ((with_reducible apply At.fin1); rfl; rfl; intro w' hw')
        refine ⟨false, mp, rfl, ⟨fun h => (by cases h), fun h => ?_⟩, fun k _ => rfl, hw'⟩
        obtain ⟨h1, h2, _⟩ := (canon_other hop).1 h
        by_cases h9 : op = 9
        · have := h2 h9
          simp [h1, this] at hb1
        · simp [h1, h9] at hb1
      · have hh : n = n' ∧ (op = 9 → binds = binds') := by
          by_cases h1 : n = n'
          · by_cases h9 : op = 9
            · simp [h1, h9] at hb1
              exact ⟨h1, fun _ => hb1⟩
            · exact ⟨h1, fun h => absurd h h9⟩
          · simp [h1] at hb1
        apply W.skip
        with_reducible apply At.in_normal
        exact At.joinedx () ⟨hop, hh.1, hh.2⟩ (by exact Sub.au) (fun w' hw' => hw')
  rintro - ⟨hop, rfl, h9⟩
  obtain ⟨pa, hpa, harrA⟩ := hnode.a
  obtain ⟨pb, hpb, harrB⟩ := hnode'.a
  have hpal : alts.length = pa.length := by rw [← hpa, List.length_map]
  have hpbl : alts'.length = pb.length := by rw [← hpb, List.length_map]
  apply W.seq
  apply W.sr
  apply omv; rfl; rfl
  apply oop; rfl; apply Pev.nil_ptr; rfl; exact yes
  apply ofa; rfl; rfl; rfl
  apply oop; rfl; apply Pev.load_kept; rfl; exact yes; exact .head _; rfl; intro hcond; assumption; intro hcond; assumption; intro hcond; exact NotOwned.au
  apply oop; rfl; apply Pev.len_slice; rfl; exact yes; rfl
  apply omv; rfl; rfl
  apply OL.nx
  apply W.block
  refine W.loop (G := Nat) (fun i => i ≤ alts.length ∧ ∀ j, j < i → (alts.map fun a => (a.tag, a.binds.length))[j]? = (alts'.map fun a => (a.tag, a.binds.length))[j]?) (fun i => alts.length - i)
    (fun i => [(0, true, .pointer (some ⟨b, 0, none⟩)), (1, true, .pointer (some ⟨b2, 0, none⟩)), (2, true, .map (some bm)), (134, true, .int .i64 (alts.length : Int)), (135, true, .int .i64 (i : Int))])
    (fun _ => Cls (mapI bm (intM mp) :: H) (s0 :: S)) 0 ⟨by omega, fun j hj => by omega⟩ (by exact Sub.au) (fun w' hw' => hw') ?_
  rintro i ⟨hi, hsame⟩
  apply W.sr
  apply obn; rfl; rfl; rfl; apply Bin.lss
  apply OL.nx
  apply W.seq
  (refine W.cnd (fun hlt => ?_) (fun hlt => ?_)) <;> (try (exfalso; first | omega | exact hlt trivial | contradiction))
  · have hil : i < alts.length := by omega
    obtain ⟨qa, ua, hqa, hqab, hua, hca, hoka⟩ := harrA.get (show i < pa.length by omega)
    obtain ⟨qb, ub, hqb, hqbb, hub, hcb, hokb⟩ := harrB.get (show i < pb.length by omega)
    have hqab : qa.block < s0.heap.size := hqab
    have hqbb : qb.block < s0.heap.size := hqbb
    have hca : CellsAt s0 (qa.add (i * 2)) [.int .i64 ua.1.tag, .slice ua.2.1 ua.1.binds.length ua.2.2] := hca
    have hcb : CellsAt s0 (qb.add (i * 2)) [.int .i64 ub.1.tag, .slice ub.2.1 ub.1.binds.length ub.2.2] := hcb
    have hxa : (alts.map fun a => (a.tag, a.binds.length))[i]? = some (ua.1.tag, ua.1.binds.length) := by rw [← hpa, List.map_map, List.getElem?_map, hua]; rfl
    have hxb : (alts'.map fun a => (a.tag, a.binds.length))[i]? = some (ub.1.tag, ub.1.binds.length) := by rw [← hpb, List.map_map, List.getElem?_map, hub]; rfl
    rw [hqa] at a4
    rw [hqb] at e4
    apply W.sk
    apply W.sb
    apply W.sr
    apply omv; rfl; rfl
    apply oas; rfl; rfl
    apply OL.nx
    apply W.seq
    apply W.regd0; decide +kernel; kernel_rfl; decide +kernel; exact fun w hw => hw.drew
    apply qmv; rfl; rfl
    apply qop; rfl; apply Pev.nil_ptr; rfl; exact yes
    apply qfa; rfl; rfl; rfl
    apply qop; rfl; apply Pev.load_kept; rfl; exact yes; exact .head _; rfl; intro hcond; assumption; intro hcond; assumption; intro hcond; exact NotOwned.au
    apply qmv; rfl; rfl
    apply qop; rfl; apply Pev.idx; rfl; exact yes; rfl; exact yes; rfl; rfl; intro hcond; omega
    apply qop; rfl; apply Pev.fldA; rfl; exact yes; rfl
    apply qop; rfl; apply Pev.load_kept; rfl; exact yes; exact .head _; rfl; intro hcond; apply CellsAt.at_ (by assumption) rfl; intro hcond; (simp only [add_block]; assumption); intro hcond; exact NotOwned.au
    apply qmv; rfl; rfl
    apply qop; rfl; apply Pev.nil_ptr; rfl; exact yes
    apply qfa; rfl; rfl; rfl
    apply qop; rfl; apply Pev.load_kept; rfl; exact yes; exact .head _; rfl; intro hcond; assumption; intro hcond; assumption; intro hcond; exact NotOwned.au
    apply qmv; rfl; rfl
    apply qop; rfl; apply Pev.idx; rfl; exact yes; rfl; exact yes; rfl; rfl; intro hcond; omega
    apply qop; rfl; apply Pev.fldA; rfl; exact yes; rfl
    apply qop; rfl; apply Pev.load_kept; rfl; exact yes; exact .head _; rfl; intro hcond; apply CellsAt.at_ (by assumption) rfl; intro hcond; (simp only [add_block]; assumption); intro hcond; exact NotOwned.au
    apply qbn; rfl; rfl; rfl; apply Bin.neq
    apply qmv; rfl; rfl
    apply qno; rfl; rfl; rfl; apply Pev.move; rfl; exact yes
    apply qno; rfl; rfl; rfl; apply Pev.nil_ptr; rfl; exact fun h => h
    apply qno; rfl; rfl; rfl; apply Pev.fld; rfl; exact fun h => h; rfl
    apply qno; rfl; rfl; rfl; apply Pev.load_kept; rfl; exact fun h => h; exact .head _; rfl; intro hcond; assumption; intro hcond; assumption; intro hcond; exact NotOwned.au
    apply qno; rfl; rfl; rfl; apply Pev.move; rfl; exact yes
    apply qno; rfl; rfl; rfl; apply Pev.idx; rfl; exact fun h => h; rfl; exact fun h => h; rfl; rfl; intro hcond; omega
    apply qno; rfl; rfl; rfl; apply Pev.fldA; rfl; exact fun h => h; rfl
    apply qno; rfl; rfl; rfl; apply Pev.load_kept; rfl; exact fun h => h; exact .head _; rfl; intro hcond; apply CellsAt.at_ (by assumption) rfl; intro hcond; (simp only [add_block]; assumption); intro hcond; exact NotOwned.au
    apply qno; rfl; rfl; rfl; apply Pev.len_slice; rfl; exact fun h => h; rfl
    apply qno; rfl; rfl; rfl; apply Pev.move; rfl; exact yes
    apply qno; rfl; rfl; rfl; apply Pev.nil_ptr; rfl; exact fun h => h
    apply qno; rfl; rfl; rfl; apply Pev.fld; rfl; exact fun h => h; rfl
    apply qno; rfl; rfl; rfl; apply Pev.load_kept; rfl; exact fun h => h; exact .head _; rfl; intro hcond; assumption; intro hcond; assumption; intro hcond; exact NotOwned.au
    apply qno; rfl; rfl; rfl; apply Pev.move; rfl; exact yes
    apply qno; rfl; rfl; rfl; apply Pev.idx; rfl; exact fun h => h; rfl; exact fun h => h; rfl; rfl; intro hcond; omega
    apply qno; rfl; rfl; rfl; apply Pev.fldA; rfl; exact fun h => h; rfl
    apply qno; rfl; rfl; rfl; apply Pev.load_kept; rfl; exact fun h => h; exact .head _; rfl; intro hcond; apply CellsAt.at_ (by assumption) rfl; intro hcond; (simp only [add_block]; assumption); intro hcond; exact NotOwned.au
    apply qno; rfl; rfl; rfl; apply Pev.len_slice; rfl; exact fun h => h; rfl
    apply qno; rfl; rfl; rfl; apply Pev.bin; rfl; exact fun h => h; rfl; exact fun h => h; intro hcond; apply Bin.neq
    apply qop; rfl; apply Pev.pick_or; rfl; exact yes; rfl; exact fun h => h
    apply QL.nil
    with_reducible apply At.next
    refine W.cond rfl (fun hb1 => ?_) (fun hb1 => ?_)
    · apply W.sr
      apply oas; rfl; rfl
      apply OL.nx
      refine W.rt ?_
      ((with_reducible apply At.fin1); rfl; rfl; intro w' hw')
      refine ⟨false, mp, rfl, ⟨fun h => (by cases h), fun h => ?_⟩, fun k _ => rfl, hw'⟩
      obtain ⟨_, _, h3, _⟩ := (canon_other hop).1 h
      have h4 := congrArg (fun l => l[i]?) h3
      simp only [hxa, hxb, Option.some.injEq, Prod.mk.injEq] at h4
      simp [h4] at hb1
    · have h4 : ua.1.tag = ub.1.tag ∧ ua.1.binds.length = ub.1.binds.length := by
        simp at hb1
        exact ⟨hb1.1, by omega⟩
      apply W.skip
      with_reducible apply At.in_normal
      with_reducible apply At.next
      apply W.reg
      apply obn; rfl; rfl; rfl; apply Bin.add_in; omega
      apply omv; rfl; rfl
      apply OL.nil
      refine At.again (i + 1) ⟨by omega, fun j hj => ?_⟩ (by omega) (by exact Sub.au) (fun w' hw' => hw')
      by_cases ej : j = i
      · subst ej
        rw [hxa, hxb, h4.1, h4.2]
      · exact hsame j (by omega)
  obtain rfl : i = alts.length := by omega
  have htags : alts.map (fun a => (a.tag, a.binds.length)) = alts'.map (fun a => (a.tag, a.binds.length)) := List.ext_getElem? fun j => by
    by_cases hj : j < alts.length
    · exact hsame j hj
    · rw [List.getElem?_eq_none (by simp; omega), List.getElem?_eq_none (by simp; omega)]
  have hlens : alts.map (fun a => a.binds.length) = alts'.map (fun a => a.binds.length) := by
    have := congrArg (List.map Prod.snd) htags
    simpa [List.map_map, Function.comp_def] using this
  have hbl := binders_len (op := op) hbb hlens
  have hB64 : (bindersT op binds alts).length ≤ 100000 := bindersT_small hbl16 hal hnode.ab
  refine W.xt ?_
  with_reducible apply At.next
  apply W.sr
  apply omv; rfl; rfl
  refine OL.callE (α := (Option Addr × Nat) × Nat × Nat) (fun z => .slice z.1.1 (bindersT op binds alts).length z.1.2) (fun z => AllLe (s0 :: S) z.2.1) (fun z => Cls (pile z.2.1 (fun k => k < z.2.2) [⟨z.1.1, z.1.2, ints (bindersT op binds alts)⟩] :: mapI bm (intM mp) :: H) (s0 :: S)) rfl rfl (by exact Args.au) (fun w2 hw2 => (Binders_calls b op n binds kids.length alts y w2 (hnode.at hw2 (by exact mau) (fun k hk => by exact NotOwned.au))).mono (fun e w3 ⟨q, c, h1, h2, h3, h4⟩ => ⟨((q, c), w2.heap.size, w3.heap.size), h1, AllLe.mk hw2, hw2.pile1 h2 h3⟩)) ?_
  rintro ⟨⟨q1, c1⟩, lo1, hi1⟩ hlo1
  simp only at hlo1 ⊢
  have hlo1s : s0.heap.size ≤ lo1 := hlo1.1
  apply omv; rfl; rfl
  refine OL.callE (α := (Option Addr × Nat) × Nat × Nat) (fun z => .slice z.1.1 (bindersT op binds' alts').length z.1.2) (fun z => AllLe (s0 :: S) z.2.1) (fun z => Cls (pile z.2.1 (fun k => k < z.2.2) [⟨z.1.1, z.1.2, ints (bindersT op binds' alts')⟩] :: pile lo1 (fun k => k < hi1) [⟨q1, c1, ints (bindersT op binds alts)⟩] :: mapI bm (intM mp) :: H) (s0 :: S)) rfl rfl (by exact Args.au) (fun w2 hw2 => (Binders_calls b2 op n binds' kids'.length alts' y' w2 (hnode'.at hw2 (by exact mau) (fun k hk => by exact NotOwned.au))).mono (fun e w3 ⟨q, c, h1, h2, h3, h4⟩ => ⟨((q, c), w2.heap.size, w3.heap.size), h1, AllLe.mk hw2, hw2.pile1 h2 h3⟩)) ?_
  rintro ⟨⟨q2, c2⟩, lo2, hi2⟩ hlo2
  simp only at hlo2 ⊢
  have hlo2s : s0.heap.size ≤ lo2 := hlo2.1
  generalize hLd : bindersT op binds alts = L at *
  generalize hMd : bindersT op binds' alts' = M at *
  have hLnd : L.Nodup := by rw [← hLd]; exact hg.own
  apply oas; rfl; rfl
  apply oas; rfl; rfl
  apply OL.nx
  apply W.seq
  apply W.sr
  apply omv; rfl; rfl
  apply oop; rfl; apply Pev.len_slice; rfl; exact yes; rfl
  apply omv; rfl; rfl
  apply OL.nx
  apply W.block
  refine W.loop (G := Nat × SK) (fun g => g.1 ≤ L.length ∧ (∀ (j : Nat) x v, j < g.1 → L[j]? = some x → M[j]? = some v → lget g.2.mp x = some v) ∧ ∀ k, ¬ k ∈ L.take g.1 → lget g.2.mp k = lget mp k) (fun g => L.length - g.1)
    (fun g => [(0, true, .pointer (some ⟨b, 0, none⟩)), (1, true, .pointer (some ⟨b2, 0, none⟩)), (2, true, .map (some bm)), (10, true, .slice q1 L.length c1), (11, true, .slice q2 M.length c2), (182, true, .int .i64 (L.length : Int)), (183, true, .int .i64 (g.1 : Int))])
    (fun g => Cls (pile lo2 (fun k => k < hi2) [⟨q2, c2, ints M⟩] :: pile lo1 (fun k => k < hi1) [⟨q1, c1, ints L⟩] :: mapI bm (intM g.2.mp) :: H) (s0 :: S)) (0, ⟨mp⟩) ⟨by simp, fun j x v hj => by simp at hj, fun k _ => rfl⟩ (by exact Sub.au) (fun w' hw' => hw') ?_
  rintro ⟨i, ⟨mp1⟩⟩ ⟨hi, hm1, hm2⟩
  simp only at hi hm1 hm2 ⊢
  apply W.sr
  apply obn; rfl; rfl; rfl; apply Bin.lss
  apply OL.nx
  apply W.seq
  (refine W.cnd (fun hlt => ?_) (fun hlt => ?_)) <;> (try (exfalso; first | omega | exact hlt trivial | contradiction))
  · have hil : i < L.length := by omega
    have hx : L[i]? = some L[i] := List.getElem?_eq_getElem hil
    obtain ⟨x, hxd⟩ : ∃ x, L[i] = x := ⟨_, rfl⟩
    rw [hxd] at hx
    obtain ⟨v, hv⟩ : ∃ v, M[i]? = some v := ⟨_, List.getElem?_eq_getElem (by omega)⟩
    refine W.exx (X := { x : Addr × Addr // q1 = some x.1 ∧ q2 = some x.2 }) (C' := fun _ => Cls (pile lo2 (fun k => k < hi2) [⟨q2, c2, ints M⟩] :: pile lo1 (fun k => k < hi1) [⟨q1, c1, ints L⟩] :: mapI bm (intM mp1) :: H) (s0 :: S)) (fun w' hw' => by
      obtain ⟨a1, h1⟩ := pile_some (hw'.item (.tail _ (.head _))) (.head _) (by rw [ints_length]; omega)
      obtain ⟨a2, h2⟩ := pile_some (hw'.item (.head _)) (.head _) (by rw [ints_length]; omega)
      exact ⟨⟨(a1, a2), h1, h2⟩, hw'⟩) ?_
    rintro ⟨⟨qa, qb⟩, hqa, hqb⟩
    simp only at hqa hqb
    subst hqa hqb
    apply W.sk
    apply W.sb
    apply W.sr
    apply omv; rfl; rfl
    apply oas; rfl; rfl
    apply OL.nx
    apply W.regq; apply Split.s rfl; apply Split.s rfl; apply Split.s rfl; apply Split.s rfl; apply Split.s rfl; apply Split.s rfl; apply Split.s rfl; apply Split.s rfl; apply Split.s rfl; exact Split.z rfl; kernel_rfl; decide +kernel; exact fun w hw => hw.drew
    apply qmv; rfl; rfl
    apply qmv; rfl; rfl
    apply qmv; rfl; rfl
    apply qop; rfl; apply Pev.idx; rfl; exact yes; rfl; exact yes; rfl; rfl; intro hcond; omega
    (((first | (with_reducible apply OL.op) | (with_reducible apply QL.op)); (exact Guard.au); rfl; rfl); (apply Pev.load_pile (s := ⟨some qa, c1, ints L⟩)); rfl; ((first | exact fun _ => rfl | exact fun h => h | (intro h; simp_all; done))); (exact .tail _ (.head _)); rfl; (exact .head _); rfl; (exact by rw [Nat.mul_one]; exact ints_get hx))
    apply qmv; rfl; rfl
    apply qmv; rfl; rfl
    apply qop; rfl; apply Pev.idx; rfl; exact yes; rfl; exact yes; rfl; rfl; intro hcond; omega
    (((first | (with_reducible apply OL.op) | (with_reducible apply QL.op)); (exact Guard.au); rfl; rfl); (apply Pev.load_pile (s := ⟨some qb, c2, ints M⟩)); rfl; ((first | exact fun _ => rfl | exact fun h => h | (intro h; simp_all; done))); (exact .head _); rfl; (exact .head _); rfl; (exact by rw [Nat.mul_one]; exact ints_get hv))
    with_reducible apply QL.tail
    apply OL.iput; rfl; rfl; rfl; rfl; exact Hole.au
    apply OL.nil
    with_reducible apply At.in_normal
    with_reducible apply At.next
    apply W.reg
    apply obn; rfl; rfl; rfl; apply Bin.add_in; omega
    apply omv; rfl; rfl
    apply OL.nil
    rw [iput_intM]
    skip
    refine At.again (i + 1, ⟨lput mp1 x v⟩) ⟨by simp only; omega, fun j x2 v2 hj hx2 hv2 => ?_, fun k hk => ?_⟩ (by simp only; omega) (by exact Sub.au) (fun w' hw' => hw')
    · simp only at hj ⊢
      rw [lget_lput]
      by_cases ej : j = i
      · subst ej
        rw [hx] at hx2
        rw [hv] at hv2
        rw [if_pos (Option.some.inj hx2), ← Option.some.inj hv2]
      · rw [if_neg (fun h => ej (nodup_place hLnd hx2 (by rw [← h]; exact hx)))]
        exact hm1 j x2 v2 (by omega) hx2 hv2
    · simp only at hk ⊢
      rw [List.take_add_one, hx] at hk
      simp only [Option.toList_some, List.mem_append, List.mem_singleton, not_or] at hk
      rw [lget_lput, if_neg (fun h => hk.2 h.symm)]
      exact hm2 k hk.1
  obtain rfl : i = L.length := by omega
  rw [List.take_length] at hm2
  have hall : bdB (.mk op n binds kids alts) = L ++ bdBs kids := by rw [bdB, hLd]
  have hnda : (L ++ bdBs kids).Nodup := by rw [← hall]; exact hg.nd
  have htsz : tszs kids ≤ m := by simp only [tsz] at hm; omega
  refine W.xt ?_
  with_reducible apply At.next
  apply W.seq
  apply W.sr
  apply omv; rfl; rfl
  apply oop; rfl; apply Pev.nil_ptr; rfl; exact yes
  apply ofa; rfl; rfl; rfl
  apply oop; rfl; apply Pev.load_kept; rfl; exact yes; exact .head _; rfl; intro hcond; assumption; intro hcond; assumption; intro hcond; exact NotOwned.au
  apply oop; rfl; apply Pev.len_slice; rfl; exact yes; rfl
  apply omv; rfl; rfl
  apply OL.nx
  apply W.block
  refine W.loop (G := Nat × SK) (fun g => g.1 ≤ kids.length ∧ (∀ (j : Nat) t u, j < g.1 → kids[j]? = some t → kids'[j]? = some u → canon t (na ++ vis op binds alts j) = canon u (nb ++ vis op binds' alts' j)) ∧ ∀ k, ¬ k ∈ bdBs (kids.take g.1) → lget g.2.mp k = lget mp1 k) (fun g => kids.length - g.1)
    (fun g => [(0, true, .pointer (some ⟨b, 0, none⟩)), (1, true, .pointer (some ⟨b2, 0, none⟩)), (2, true, .map (some bm)), (200, true, .int .i64 (kids.length : Int)), (201, true, .int .i64 (g.1 : Int))])
    (fun g => Cls (mapI bm (intM g.2.mp) :: H) (s0 :: S)) (0, ⟨mp1⟩) ⟨by simp, fun j t u hj => by simp at hj, fun k _ => rfl⟩ (by exact Sub.au) (fun w' hw' => hw'.thin (.any (fun k hk => hlo2.up hk.1) (.any (fun k hk => hlo1.up hk.1) Thin.same))) ?_
  rintro ⟨i, ⟨mp2⟩⟩ ⟨hi, hk1, hk2⟩
  simp only at hi hk1 hk2 ⊢
  have hmp : ∀ k, ¬ k ∈ L ++ bdBs kids → lget mp2 k = lget mp k := fun k hk => by
    rw [List.mem_append, not_or] at hk
    rw [hk2 k (fun h => hk.2 (bdBs_sub h)), hm2 k hk.1]
  apply W.sr
  apply obn; rfl; rfl; rfl; apply Bin.lss
  apply OL.nx
  apply W.seq
  (refine W.cnd (fun hlt => ?_) (fun hlt => ?_)) <;> (try (exfalso; first | omega | exact hlt trivial | contradiction))
  · have hil : i < kids.length := by omega
    obtain ⟨ak, hqk, hakb, htrs⟩ := hks (by omega)
    obtain ⟨ak', hqk', hakb', htrs'⟩ := hks' (by omega)
    have hakb : ak.block < s0.heap.size := hakb
    have hakb' : ak'.block < s0.heap.size := hakb'
    have hki : kids[i]? = some kids[i] := List.getElem?_eq_getElem hil
    obtain ⟨ku, hki'⟩ : ∃ ku, kids'[i]? = some ku := ⟨_, List.getElem?_eq_getElem (by omega)⟩
    obtain ⟨bk1, hck1, hkid1⟩ := htrs.get hki
    obtain ⟨bk2, hck2, hkid2⟩ := htrs'.get hki'
    have hsz := tsz_get hki
    rw [hqk] at a3
    rw [hqk'] at e3
    have hprs2 : Prs mp2 (na ++ vis op binds alts i) (nb ++ vis op binds' alts' i) := hprs.kid hg hg' hbb hlens (by rw [hLd, hMd]; exact hbl) (fun x hx => hmp x (fun h => hg.out x (by rw [hall]; exact h) hx)) (fun j x v hx hv => by
      rw [hLd] at hx
      rw [hMd] at hv
      rw [hk2 x (fun h => (List.nodup_append.1 hnda).2.2 x (List.mem_of_getElem? hx) x (bdBs_sub h) rfl)]
      exact hm1 j x v (List.getElem?_eq_some_iff.1 hx).1 hx hv) i
    apply W.sk
    apply W.sb
    apply W.sr
    apply omv; rfl; rfl
    apply oas; rfl; rfl
    apply OL.nx
    apply W.seq
    refine W.regn 15 (by (repeat (first | exact SplitN.z | apply SplitN.s))) (by kernel_rfl) (by decide +kernel) (fun w hw => hw.drew) ?_
    apply qmv; rfl; rfl
    apply qop; rfl; apply Pev.nil_ptr; rfl; exact yes
    apply qfa; rfl; rfl; rfl
    apply qop; rfl; apply Pev.load_kept; rfl; exact yes; exact .head _; rfl; intro hcond; assumption; intro hcond; assumption; intro hcond; exact NotOwned.au
    apply qmv; rfl; rfl
    apply qop; rfl; apply Pev.idx; rfl; exact yes; rfl; exact yes; rfl; rfl; intro hcond; omega
    apply qop; rfl; apply Pev.load_kept; rfl; exact yes; exact .head _; rfl; intro hcond; assumption; intro hcond; (rw [add_block]; assumption); intro hcond; exact NotOwned.au
    apply qmv; rfl; rfl
    apply qop; rfl; apply Pev.nil_ptr; rfl; exact yes
    apply qfa; rfl; rfl; rfl
    apply qop; rfl; apply Pev.load_kept; rfl; exact yes; exact .head _; rfl; intro hcond; assumption; intro hcond; assumption; intro hcond; exact NotOwned.au
    apply qmv; rfl; rfl
    apply qop; rfl; apply Pev.idx; rfl; exact yes; rfl; exact yes; rfl; rfl; intro hcond; omega
    apply qop; rfl; apply Pev.load_kept; rfl; exact yes; exact .head _; rfl; intro hcond; assumption; intro hcond; (rw [add_block]; assumption); intro hcond; exact NotOwned.au
    apply qmv; rfl; rfl
    with_reducible apply QL.tail
    refine OL.callE (α := Bool × SK) (fun z => .bool z.1) (fun z => (z.1 = true ↔ canon kids[i] (na ++ vis op binds alts i) = canon ku (nb ++ vis op binds' alts' i)) ∧ ∀ k, ¬ k ∈ bdB kids[i] → lget z.2.mp k = lget mp2 k) (fun z => Cls (mapI bm (intM z.2.mp) :: H) (s0 :: S)) rfl rfl (by exact Args.au) (fun w2 hw2 => (ih kids[i] ku bk1 bk2 (na ++ vis op binds alts i) (nb ++ vis op binds' alts' i) mp2 H S w2 (by omega) hkid1 hkid2 (hg.kid hki) (hg'.kid hki') (hg'.dn hdn i) hprs2 hno hw2).mono (fun e w3 ⟨r, mp3, h1, h2, h3, h4⟩ => ⟨(r, ⟨mp3⟩), h1, ⟨h2, h3⟩, h4⟩)) ?_
    rintro ⟨r, ⟨mp3⟩⟩ ⟨hr, hmp3⟩
    simp only at hr hmp3 ⊢
    have htk := bdBs_take hki
    apply oop; rfl; apply Pev.not; rfl; exact yes
    apply OL.nx
    refine W.cond rfl (fun hb1 => ?_) (fun hb1 => ?_)
    · have hrf : r = false := by simpa using hb1
      subst hrf
      apply W.sr
      apply oas; rfl; rfl
      apply OL.nx
      refine W.rt ?_
      ((with_reducible apply At.fin1); rfl; rfl; intro w' hw')
      refine ⟨false, mp3, rfl, ⟨fun h => (by cases h), fun h => ?_⟩, fun k hk => ?_, hw'⟩
      · obtain ⟨_, _, _, _, h5⟩ := (canon_other hop).1 h
        exact absurd (hr.2 ((canons_eq.1 h5).2 i _ _ hki hki')) (by simp)
      · rw [hall] at hk
        rw [hmp3 k (fun h => hk (List.mem_append.2 (.inr (bdBs_get hki k h)))), hmp k hk]
    · have hrt : r = true := by simpa using hb1
      subst hrt
      apply W.skip
      with_reducible apply At.in_normal
      with_reducible apply At.next
      apply W.reg
      apply obn; rfl; rfl; rfl; apply Bin.add_in; omega
      apply omv; rfl; rfl
      apply OL.nil
      refine At.again (i + 1, ⟨mp3⟩) ⟨by simp only; omega, fun j t u hj ht hu => ?_, fun k hk => ?_⟩ (by simp only; omega) (by exact Sub.au) (fun w' hw' => hw')
      · simp only at hj
        by_cases ej : j = i
        · subst ej
          rw [hki] at ht
          rw [hki'] at hu
          obtain rfl := Option.some.inj ht
          obtain rfl := Option.some.inj hu
          exact hr.1 rfl
        · exact hk1 j t u (by omega) ht hu
      · simp only at hk ⊢
        rw [htk, List.mem_append, not_or] at hk
        rw [hmp3 k hk.2, hk2 k hk.1]
  · obtain rfl : i = kids.length := by omega
    refine W.xt ?_
    with_reducible apply At.next
    apply W.sr
    apply oas; rfl; rfl
    apply OL.nx
    apply W.ret
    ((with_reducible apply At.fin1); rfl; rfl; intro w' hw')
    refine ⟨true, mp2, rfl, ⟨fun _ => ?_, fun _ => rfl⟩, fun k hk => hmp k (by rw [← hall]; exact hk), hw'⟩
    exact (canon_other hop).2 ⟨rfl, h9, htags, by rw [hLd, hMd]; exact hbl, canons_eq.2 ⟨hkk, fun j t u ht hu => hk1 j t u (List.getElem?_eq_some_iff.1 ht).1 ht hu⟩⟩
theorem SameTree_calls (t u : Tr) (b b2 : Nat) (w : World) (ht : TrO w (low w) t b) (hu : TrO w (low w) u b2) (hg : Gd t []) (hg' : Gd u []) :
    Calls Tryd.prog 48 [.pointer (some ⟨b, 0, none⟩), .pointer (some ⟨b2, 0, none⟩)].toArray w fun e w' => ∃ r : Bool, e = .returned (.bool r) ∧ (r = true ↔ canon t [] = canon u []) ∧ Ext w w' := by
  refine enter Tryd.func48 rfl Tryd.ntmps48 rfl (Cls.start w) ?_
  (simp only [argEnv, Nat.zero_add, Nat.reduceAdd])
  apply W.sr
  apply oas; rfl; rfl
  apply OL.nsr
  apply omv; rfl; rfl
  apply omv; rfl; rfl
  apply OL.imakeMap; rfl; rfl; (intro bk hbk; simp only [AllLe, and_true] at hbk)
  revert bk
  intro bm hbm
  have hbm0 : w.heap.size ≤ bm := hbm
  refine OL.callE (α := Bool × SK) (fun z => .bool z.1) (fun z => (z.1 = true ↔ canon t [] = canon u [])) (fun z => Cls (mapI bm (intM z.2.mp) :: []) [w]) rfl rfl (by exact Args.au) (fun w2 hw2 => (same_calls w bm hbm0 (tsz t) t u b b2 [] [] [] [] [] w2 (Nat.le_refl _) ht hu hg hg' (fun i j x hi => by simp at hi) ⟨rfl, fun i x y hx => by simp at hx⟩ (fun k hk => NotOwned.nil) hw2).mono (fun e w3 ⟨r, mp3, h1, h2, h3, h4⟩ => ⟨(r, ⟨mp3⟩), h1, h2, h4⟩)) ?_
  rintro ⟨r, ⟨mp3⟩⟩ hr
  simp only at hr ⊢
  apply oas; rfl; rfl
  apply OL.nx
  apply W.ret
  ((with_reducible apply At.fin1); rfl; rfl; intro w' hw')
  exact ⟨r, rfl, hr, by (exact hw'.fr)⟩
theorem Same_calls (es fs : List (Ex × ExY)) (q q2 : Option Addr) (cap cap2 : Nat) (w : World) (he : Arr exR w (low w) es q) (hf : Arr exR w (low w) fs q2) (hlen : es.length ≤ 9223372036854775807) (hlen2 : fs.length ≤ 9223372036854775807) (hg : 1 < w.heap.size) (hs : arityAt w) :
    Calls Tryd.prog 22 [.slice q es.length cap, .slice q2 fs.length cap2].toArray w fun e w' => ∃ r : Bool, e = .returned (.bool r) ∧ Ext w w' ∧ (r = true ↔ bodyE (es.map Prod.fst) [] false = 0 ∧ bodyE (fs.map Prod.fst) [] false = 0 ∧ canon (grow (es.map Prod.fst) (es.length - 1)) [] = canon (grow (fs.map Prod.fst) (fs.length - 1)) []) := by
  refine enter Tryd.func22 rfl Tryd.ntmps22 rfl (Cls.start w) ?_
  (simp only [argEnv, Nat.zero_add, Nat.reduceAdd])
  apply W.sr
  apply oas; rfl; rfl
  apply OL.nsr
  apply omv; rfl; rfl
  (((first | (with_reducible apply OL.op) | (with_reducible apply QL.op)); (exact Guard.au); rfl; rfl); (exact Pev.call (v := .int .i64 (bodyE (es.map Prod.fst) [] false)) rfl (by exact Args.au) (fun _ w2 hw2 => (Check_calls es q cap w2 (he.at hw2 (by exact mau) (fun k hk => by exact NotOwned.au)) hlen (Nat.lt_of_lt_of_le hg (hw2.kp w (by exact mau)).size) (hs.at hg hw2 (by exact mau) (fun k hk => by exact NotOwned.au))).mono (fun e w3 h => ⟨h.1, hw2.ext h.2⟩))))
  apply obn; rfl; rfl; rfl; apply Bin.eql
  apply omv; rfl; rfl
  apply oy; rfl; rfl; rfl; apply Pev.move; rfl; exact yes
  (((first | (with_reducible apply OL.op) | (with_reducible apply QL.op)); (exact Guard.au); rfl; rfl); (exact Pev.call (v := .int .i64 (bodyE (fs.map Prod.fst) [] false)) rfl (by exact Args.au) (fun _ w2 hw2 => (Check_calls fs q2 cap2 w2 (hf.at hw2 (by exact mau) (fun k hk => by exact NotOwned.au)) hlen2 (Nat.lt_of_lt_of_le hg (hw2.kp w (by exact mau)).size) (hs.at hg hw2 (by exact mau) (fun k hk => by exact NotOwned.au))).mono (fun e w3 h => ⟨h.1, hw2.ext h.2⟩))))
  apply oy; rfl; rfl; rfl; apply Pev.bin; rfl; exact fun h => h; rfl; exact yes; intro hcond; apply Bin.eql
  apply oop; rfl; apply Pev.pick_and; rfl; exact yes; rfl; exact fun h => h
  apply omv; rfl; rfl
  apply oy; rfl; rfl; rfl; apply Pev.move; rfl; exact yes
  by_cases hbE : bodyE (es.map Prod.fst) [] false = 0
  · by_cases hbF : bodyE (fs.map Prod.fst) [] false = 0
    · have hok := BodyOk.of hbE
      have hok2 := BodyOk.of hbF
      have h4 := hok.tree.len
      have h42 := hok2.tree.len
      have hp := hok.tree.pos
      have hp2 := hok2.tree.pos
      rw [List.length_map] at h4 h42 hp hp2
      have hin : ∀ p ∈ es, p.1 ∈ es.map Prod.fst := fun p hp => List.mem_map_of_mem hp
      have hin2 : ∀ p ∈ fs, p.1 ∈ fs.map Prod.fst := fun p hp => List.mem_map_of_mem hp
      have hgd := hok.gd
      have hgd2 := hok2.gd
      rw [List.length_map] at hgd hgd2
      simp only [hbE, hbF, decide_true, Bool.and_self]
      ((apply OL.ungate); (exact Guard.au); rfl)
      refine OL.callE (α := Nat × World) (fun z => .pointer (some ⟨z.1, 0, none⟩)) (fun z => TrO z.2 (low z.2) (grow (es.map Prod.fst) (es.length - 1)) z.1) (fun z => Cls [] [z.2, w]) rfl rfl (by exact Args.au) (fun w2 hw2 => (Grow_calls es q cap w2 (he.at hw2 (by exact mau) (fun k hk => by exact NotOwned.au)) h4 hp hok.tree.tree.down (fun p hp => hok.lim (hin p hp)) (fun p hp => hok.kl (hin p hp))).mono (fun e1 w3 ⟨b, h1, h2, h3⟩ => ⟨(b, w3), h1, h3, (hw2.ext h2).note⟩)) ?_
      rintro ⟨b, w3⟩ ht1
      simp only at ht1 ⊢
      apply oy; rfl; rfl; rfl; apply Pev.move; rfl; exact yes
      ((apply OL.ungate); (exact Guard.au); rfl)
      refine OL.callE (α := Nat × World) (fun z => .pointer (some ⟨z.1, 0, none⟩)) (fun z => TrO z.2 (low z.2) (grow (fs.map Prod.fst) (fs.length - 1)) z.1) (fun z => Cls [] [z.2, w3, w]) rfl rfl (by exact Args.au) (fun w2 hw2 => (Grow_calls fs q2 cap2 w2 (hf.at hw2 (by exact mau) (fun k hk => by exact NotOwned.au)) h42 hp2 hok2.tree.tree.down (fun p hp => hok2.lim (hin2 p hp)) (fun p hp => hok2.kl (hin2 p hp))).mono (fun e1 w3 ⟨b, h1, h2, h3⟩ => ⟨(b, w3), h1, h3, (hw2.ext h2).note⟩)) ?_
      rintro ⟨b2, w4⟩ ht2
      simp only at ht2 ⊢
      ((apply OL.ungate); (exact Guard.au); rfl)
      refine OL.callE (α := Bool) (fun z => .bool z) (fun z => (z = true ↔ canon (grow (es.map Prod.fst) (es.length - 1)) [] = canon (grow (fs.map Prod.fst) (fs.length - 1)) [])) (fun z => Cls [] [w4, w3, w]) rfl rfl (by exact Args.au) (fun w2 hw2 => (SameTree_calls _ _ b b2 w2 (ht1.at hw2 (by exact mau) (fun k hk => by exact NotOwned.au)) (ht2.at hw2 (by exact mau) (fun k hk => by exact NotOwned.au)) hgd hgd2).mono (fun e1 w3 ⟨r, h1, h2, h3⟩ => ⟨r, h1, h2, hw2.ext h3⟩)) ?_
      intro r hr
      apply oop; rfl; apply Pev.pick_and; rfl; exact yes; rfl; exact yes
      apply oas; rfl; rfl
      apply OL.nx
      apply W.ret
      ((with_reducible apply At.fin1); rfl; rfl; intro w' hw')
      exact ⟨_, rfl, hw'.fr (by exact mau), by simp [hbE, hbF, hr]⟩
    · have hd : decide (bodyE (fs.map Prod.fst) [] false = 0) = false := decide_eq_false hbF
      simp only [hd, Bool.and_false]
      apply oy; rfl; rfl; rfl; with_reducible exact Pev.no
      apply oy; rfl; rfl; rfl; with_reducible exact Pev.no
      apply oy; rfl; rfl; rfl; with_reducible exact Pev.no
      apply oy; rfl; rfl; rfl; with_reducible exact Pev.no
      apply oop; rfl; apply Pev.pick_and; rfl; exact yes; rfl; exact fun h => h
      apply oas; rfl; rfl
      apply OL.nx
      apply W.ret
      ((with_reducible apply At.fin1); rfl; rfl; intro w' hw')
      exact ⟨_, rfl, hw'.fr (by exact mau), by simp [hbF]⟩
  · have hd : decide (bodyE (es.map Prod.fst) [] false = 0) = false := decide_eq_false hbE
    simp only [hd, Bool.false_and]
    apply oy; rfl; rfl; rfl; with_reducible exact Pev.no
    apply oy; rfl; rfl; rfl; with_reducible exact Pev.no
    apply oy; rfl; rfl; rfl; with_reducible exact Pev.no
    apply oy; rfl; rfl; rfl; with_reducible exact Pev.no
    apply oop; rfl; apply Pev.pick_and; rfl; exact yes; rfl; exact fun h => h
    apply oas; rfl; rfl
    apply OL.nx
    apply W.ret
    ((with_reducible apply At.fin1); rfl; rfl; intro w' hw')
    exact ⟨_, rfl, hw'.fr (by exact mau), by simp [hbE]⟩
end Go.Proofs.YtlboppiogeaicaaDoor.co

/- The walks of the reference's numbersError, goodForm, goodKids. Conditions: none. (Printed by cra.py.) -/
namespace Go.Proofs.YtlboppiogeaicaaDoor.co
open Go.RowKit Go.Eng Go.Co
set_option linter.unusedVariables false
set_option linter.unusedSimpArgs false
set_option maxRecDepth 100000
theorem numE_bad {x : Ex} (h : rangesOk x = false) : numE x = 4 := by unfold numE; rw [if_pos h]
theorem numbersError_calls (x : Ex) (y : ExY) (w : World) (h : ExOk w (low w) x y) :
    Calls Tryd.prog 73 [.agg (exC x y).toArray].toArray w fun e w' => e = .returned (.int .i64 (numE x)) ∧ Ext w w' := by
  obtain ⟨ps, hps, harr⟩ := h.alts
  have hpl : x.alts.length = ps.length := by rw [← hps, List.length_map]
  have hal := h.al
  have hkl := h.kl
  have hbl := h.bl
  refine enter Tryd.func73 rfl Tryd.ntmps73 rfl (Cls.start w) ?_
  (simp only [argEnv, Nat.zero_add, Nat.reduceAdd])
  simp only [exC]
  apply W.sr
  apply OL.box; rfl; rfl; exact CellsL.agg; (intro bk hbk; simp only [AllLe, and_true] at hbk)
  apply oas; rfl; rfl
  apply OL.nsr
  apply oas; rfl; rfl
  apply oas; rfl; rfl
  apply OL.nx
  apply W.seq
  apply W.sr
  apply ofa; rfl; rfl; rfl
  apply old; rfl; rfl; exact .head _; rfl; rfl
  apply OL.nx
  revert bk
  intro b0 hb0
  refine W.joinx (G := Unit) (fun _ => True) (fun _ => [(1, true, .pointer (some ⟨b0, 0, none⟩)), (4, true, .int .i64 (highN x.op)), (3, true, .int .i64 (lowN x.op))]) (fun _ => Cls [blk b0 28 [.int .i64 x.op, .int .i64 x.n, .slice y.b.1 x.binds.length y.b.2, .slice y.k.1 x.kids.length y.k.2, .slice y.a.1 x.alts.length y.a.2]] [w]) ?_ ?_
  · skip
    apply W.block
    apply W.sr
    apply obn; rfl; rfl; rfl; apply Bin.eql
    apply oas; rfl; rfl
    apply OL.nx
    (refine W.cnd (fun r1 => ?_) (fun r1 => ?_)) <;> (try (exfalso; first | omega | exact r1 trivial | contradiction))
    · apply W.reg
      apply oas; rfl; rfl
      apply oas; rfl; rfl
      apply OL.nil
      with_reducible apply At.in_normal
      exact At.joinedx () trivial (by repeat (first | exact Sub.nil | apply Sub.cons rfl | (refine Sub.cons_eq rfl (congrArg (Value.int .i64) (by unfold highN; grind)) ?_) | (refine Sub.cons_eq rfl (congrArg (Value.int .i64) (by unfold lowN; grind)) ?_))) (fun w' hw' => hw')
    apply W.sr
    apply obn; rfl; rfl; rfl; apply Bin.eql
    apply oas; rfl; rfl
    apply OL.nx
    (refine W.cnd (fun r2 => ?_) (fun r2 => ?_)) <;> (try (exfalso; first | omega | exact r2 trivial | contradiction))
    · apply W.reg
      apply oas; rfl; rfl
      apply OL.nil
      with_reducible apply At.in_normal
      exact At.joinedx () trivial (by repeat (first | exact Sub.nil | apply Sub.cons rfl | (refine Sub.cons_eq rfl (congrArg (Value.int .i64) (by unfold highN; grind)) ?_) | (refine Sub.cons_eq rfl (congrArg (Value.int .i64) (by unfold lowN; grind)) ?_))) (fun w' hw' => hw')
    apply W.sr
    apply obn; rfl; rfl; rfl; apply Bin.eql
    apply oas; rfl; rfl
    apply OL.nx
    (refine W.cnd (fun r3 => ?_) (fun r3 => ?_)) <;> (try (exfalso; first | omega | exact r3 trivial | contradiction))
    · apply W.reg
      apply oas; rfl; rfl
      apply oas; rfl; rfl
      apply OL.nil
      with_reducible apply At.in_normal
      exact At.joinedx () trivial (by repeat (first | exact Sub.nil | apply Sub.cons rfl | (refine Sub.cons_eq rfl (congrArg (Value.int .i64) (by unfold highN; grind)) ?_) | (refine Sub.cons_eq rfl (congrArg (Value.int .i64) (by unfold lowN; grind)) ?_))) (fun w' hw' => hw')
    apply W.sr
    apply obn; rfl; rfl; rfl; apply Bin.eql
    apply oas; rfl; rfl
    apply OL.nx
    (refine W.cnd (fun r4 => ?_) (fun r4 => ?_)) <;> (try (exfalso; first | omega | exact r4 trivial | contradiction))
    · apply W.reg
      apply oas; rfl; rfl
      apply OL.nil
      with_reducible apply At.in_normal
      exact At.joinedx () trivial (by repeat (first | exact Sub.nil | apply Sub.cons rfl | (refine Sub.cons_eq rfl (congrArg (Value.int .i64) (by unfold highN; grind)) ?_) | (refine Sub.cons_eq rfl (congrArg (Value.int .i64) (by unfold lowN; grind)) ?_))) (fun w' hw' => hw')
    apply W.skip
    with_reducible apply At.in_normal
    exact At.joinedx () trivial (by repeat (first | exact Sub.nil | apply Sub.cons rfl | (refine Sub.cons_eq rfl (congrArg (Value.int .i64) (by unfold highN; grind)) ?_) | (refine Sub.cons_eq rfl (congrArg (Value.int .i64) (by unfold lowN; grind)) ?_))) (fun w' hw' => hw')
  rintro - -
  apply W.seq
  apply W.sr
  apply ofa; rfl; rfl; rfl
  apply old; rfl; rfl; exact .head _; rfl; rfl
  apply omv; rfl; rfl
  apply omv; rfl; rfl
  (((first | (with_reducible apply OL.op) | (with_reducible apply QL.op)); (exact Guard.au); rfl; rfl); (exact Pev.call rfl (by exact Args.au) (fun _ w2 hw2 => (inside_calls x.n (lowN x.op) (highN x.op) w2).mono (fun e w3 h => ⟨h.1, hw2.ext h.2⟩))))
  apply oop; rfl; apply Pev.not; rfl; exact yes
  apply OL.nx
  (refine W.cnd (fun hn => ?_) (fun hn => ?_)) <;> (try (exfalso; first | omega | exact hn trivial | contradiction))
  · apply W.sr
    apply oas; rfl; rfl
    apply OL.nx
    refine W.rt ?_
    ((with_reducible apply At.fin1); rfl; rfl; intro w' hw')
    refine ⟨by rw [numE_bad]; unfold rangesOk; grind, by (exact hw'.fr)⟩
  apply W.sk
  apply W.seq
  apply W.sr
  apply ofa; rfl; rfl; rfl
  apply old; rfl; rfl; exact .head _; rfl; rfl
  apply oop; rfl; apply Pev.len_slice; rfl; exact yes; rfl
  apply omv; rfl; rfl
  apply OL.nx
  apply W.block
  refine W.loop (G := Nat) (fun i => i ≤ x.binds.length ∧ ∀ (j : Nat) (v : Int), j < i → x.binds[j]? = some v → idB v = true) (fun i => x.binds.length - i)
    (fun i => [(1, true, .pointer (some ⟨b0, 0, none⟩)), (29, true, .slice y.b.1 x.binds.length y.b.2), (30, true, .int .i64 (x.binds.length : Int)), (31, true, .int .i64 (i : Int))])
    (fun _ => Cls [blk b0 28 [.int .i64 x.op, .int .i64 x.n, .slice y.b.1 x.binds.length y.b.2, .slice y.k.1 x.kids.length y.k.2, .slice y.a.1 x.alts.length y.a.2]] [w]) 0 ⟨by omega, fun j v hj => by omega⟩ (by exact Sub.au) (fun w' hw' => hw') ?_
  rintro i ⟨hi, hbs⟩
  apply W.sr
  apply obn; rfl; rfl; rfl; apply Bin.lss
  apply OL.nx
  apply W.seq
  (refine W.cnd (fun hlt => ?_) (fun hlt => ?_)) <;> (try (exfalso; first | omega | exact hlt trivial | contradiction))
  · have hil : i < x.binds.length := by omega
    obtain ⟨a, v, hqa, hab, hv, hcell⟩ := h.b.get hil
    have hab : a.block < w.heap.size := hab
    rw [hqa]
    apply W.sk
    apply W.sb
    apply W.sr
    apply oop; rfl; apply Pev.idx; rfl; exact yes; rfl; exact yes; rfl; rfl; intro hcond; omega
    apply oop; rfl; apply Pev.load_kept; rfl; exact yes; exact .head _; rfl; intro hcond; assumption; intro hcond; (rw [add_block]; assumption); intro hcond; exact NotOwned.au
    apply oas; rfl; rfl
    apply OL.nsr
    apply omv; rfl; rfl
    (((first | (with_reducible apply OL.op) | (with_reducible apply QL.op)); (exact Guard.au); rfl; rfl); (exact Pev.call rfl (by exact Args.au) (fun _ w2 hw2 => (inside_calls v 0 1048575 w2).mono (fun e w3 h => ⟨h.1, hw2.ext h.2⟩))))
    apply oop; rfl; apply Pev.not; rfl; exact yes
    apply OL.nx
    (refine W.cnd (fun hv2 => ?_) (fun hv2 => ?_)) <;> (try (exfalso; first | omega | exact hv2 trivial | contradiction))
    · apply W.sr
      apply oas; rfl; rfl
      apply OL.nx
      refine W.rt ?_
      ((with_reducible apply At.fin1); rfl; rfl; intro w' hw')
      refine ⟨?_, by (exact hw'.fr)⟩
      have hid : idB v = false := by unfold idB; grind
      have : x.binds.all idB = false := List.all_eq_false.2 ⟨v, List.mem_of_getElem? hv, by simp [hid]⟩
      rw [numE_bad]
      unfold rangesOk
      simp [this]
    apply W.skip
    with_reducible apply At.in_normal
    with_reducible apply At.next
    apply W.reg
    apply obn; rfl; rfl; rfl; apply Bin.add_in; omega
    apply omv; rfl; rfl
    apply OL.nil
    refine At.again (i + 1) ⟨by omega, fun j u hj hu => ?_⟩ (by omega) (by exact Sub.au) (fun w' hw' => hw')
    by_cases e : j = i
    · subst e
      rw [hv] at hu
      obtain rfl := Option.some.inj hu
      unfold idB
      grind
    · exact hbs j u (by omega) hu
  obtain rfl : i = x.binds.length := by omega
  have hball : x.binds.all idB = true := List.all_eq_true.2 fun v hv => by
    obtain ⟨j, hj⟩ := List.getElem?_of_mem hv
    exact hbs j v (List.getElem?_eq_some_iff.1 hj).1 hj
  clear hbs hlt hi
  rw [hpl]
  refine W.xt ?_
  with_reducible apply At.next
  apply W.sr
  apply oas; rfl; rfl
  apply OL.nx
  apply W.seq
  apply W.sr
  apply ofa; rfl; rfl; rfl
  apply old; rfl; rfl; exact .head _; rfl; rfl
  apply oop; rfl; apply Pev.len_slice; rfl; exact yes; rfl
  apply omv; rfl; rfl
  apply OL.nx
  apply W.block
  refine W.loop (G := Nat) (fun i => i ≤ ps.length ∧ (∀ (j : Nat) (p : Al × Sc), j < i → ps[j]? = some p → altR x.op p.1 = true) ∧ ((ps.take i).foldl (fun m p => max m p.1.binds.length) 0) ≤ 140737488355328) (fun i => ps.length - i)
    (fun i => [(1, true, .pointer (some ⟨b0, 0, none⟩)), (7, true, .int .i64 (((ps.take i).foldl (fun m p => max m p.1.binds.length) 0 : Nat) : Int)), (40, true, .slice y.a.1 ps.length y.a.2), (41, true, .int .i64 (ps.length : Int)), (42, true, .int .i64 (i : Int))])
    (fun _ => Cls [blk b0 28 [.int .i64 x.op, .int .i64 x.n, .slice y.b.1 x.binds.length y.b.2, .slice y.k.1 x.kids.length y.k.2, .slice y.a.1 ps.length y.a.2]] [w]) 0 ⟨by omega, fun j v hj => by omega, by simp⟩ (by exact Sub.au) (fun w' hw' => hw') ?_
  rintro i ⟨hi, has, hwd⟩
  apply W.sr
  apply obn; rfl; rfl; rfl; apply Bin.lss
  apply OL.nx
  apply W.seq
  (refine W.cnd (fun hlt => ?_) (fun hlt => ?_)) <;> (try (exfalso; first | omega | exact hlt trivial | contradiction))
  · have hil : i < ps.length := by omega
    obtain ⟨a, u, hq, hab, hu, hcell, hok⟩ := harr.get hil
    have hab : a.block < w.heap.size := hab
    have hcell : CellsAt w (a.add (i * 2)) [.int .i64 u.1.tag, .slice u.2.1 u.1.binds.length u.2.2] := hcell
    obtain ⟨htag, hul, huo⟩ := hok
    have hua : u.1 ∈ x.alts := by rw [← hps]; exact List.mem_map_of_mem (f := Prod.fst) (List.mem_of_getElem? hu)
    have hbad : altR x.op u.1 = false → numE x = 4 := fun hf => numE_bad (by
      have : x.alts.all (altR x.op) = false := List.all_eq_false.2 ⟨_, hua, by simp [hf]⟩
      unfold rangesOk
      simp [this])
    rw [hq]
    apply W.sk
    apply W.sb
    apply W.sr
    apply oop; rfl; apply Pev.idx; rfl; exact yes; rfl; exact yes; rfl; rfl; intro hcond; omega
    apply oop; rfl; apply Pev.load_keptA; rfl; exact yes; exact .head _; rfl; intro hcond; assumption; rfl; intro hcond; (rw [add_block]; assumption); intro hcond; exact NotOwned.au
    apply OL.alloc; rfl; rfl; exact CellsL.agg; (intro bk hbk; simp only [AllLe, and_true] at hbk)
    apply OL.storeB; rfl; rfl; exact CellsL.agg; rfl; rfl; rfl; exact Swap.au; exact Put.au
    apply OL.nx
    apply W.seq
    apply W.sr
    apply ofa; rfl; rfl; rfl
    apply old; rfl; rfl; exact .head _; rfl; rfl
    apply obn; rfl; rfl; rfl; apply Bin.geq
    apply omv; rfl; rfl
    apply ono; rfl; rfl; rfl; apply Pev.fld; rfl; exact yes; rfl
    apply ono; rfl; rfl; rfl; apply Pev.load_blk; rfl; exact fun h => h; exact .tail _ (.head _); rfl; rfl
    apply ono; rfl; rfl; rfl; apply Pev.bin; rfl; exact fun h => h; rfl; exact yes; intro hcond; apply Bin.eql
    apply ono; rfl; rfl; rfl; apply Pev.move; rfl; exact fun h => h
    apply OL.op; exact Guard.cyes rfl rfl; rfl; rfl; apply Pev.fld; rfl; exact yes; rfl
    apply OL.op; exact Guard.cyes rfl rfl; rfl; rfl; apply Pev.load_blk; rfl; exact fun h => h; exact .head _; rfl; rfl
    apply OL.op; exact Guard.cyes rfl rfl; rfl; rfl; apply Pev.bin; rfl; exact fun h => h; rfl; exact yes; intro hcond; apply Bin.gtr
    apply ono; rfl; rfl; rfl; apply Pev.pick_and; rfl; exact fun h => h; rfl; exact fun h => h
    apply oop; rfl; apply Pev.pick_or; rfl; exact yes; rfl; exact fun h => h
    apply OL.nx
    refine W.cond rfl (fun hb => ?_) (fun hb => ?_)
    · apply W.sr
      apply oas; rfl; rfl
      apply OL.nx
      refine W.rt ?_
      ((with_reducible apply At.fin1); rfl; rfl; intro w' hw')
      refine ⟨by rw [hbad (by unfold altR; grind)], by (exact hw'.fr)⟩
    apply W.sk
    apply W.seq
    apply W.sr
    apply ofa; rfl; rfl; rfl
    apply old; rfl; rfl; exact .head _; rfl; rfl
    apply oop; rfl; apply Pev.len_slice; rfl; exact yes; rfl
    apply omv; rfl; rfl
    apply OL.nx
    apply W.block
    refine W.loop (G := Nat) (fun k => k ≤ u.1.binds.length ∧ ∀ (j : Nat) (v : Int), j < k → u.1.binds[j]? = some v → idB v = true) (fun k => u.1.binds.length - k)
      (fun k => [(1, true, .pointer (some ⟨b0, 0, none⟩)), (7, true, .int .i64 (((ps.take i).foldl (fun m p => max m p.1.binds.length) 0 : Nat) : Int)), (9, true, .pointer (some ⟨bk, 0, none⟩)), (40, true, .slice (some a) ps.length y.a.2), (41, true, .int .i64 (ps.length : Int)), (42, true, .int .i64 (i : Int)), (60, true, .slice u.2.1 u.1.binds.length u.2.2), (61, true, .int .i64 (u.1.binds.length : Int)), (62, true, .int .i64 (k : Int))])
      (fun _ => Cls [blk bk 132 [.int .i64 u.1.tag, .slice u.2.1 u.1.binds.length u.2.2], blk b0 28 [.int .i64 x.op, .int .i64 x.n, .slice y.b.1 x.binds.length y.b.2, .slice y.k.1 x.kids.length y.k.2, .slice (some a) ps.length y.a.2]] [w]) 0 ⟨by omega, fun j v hj => by omega⟩ (by exact Sub.au) (fun w' hw' => by first | exact hw' | (rw [hq] at hw'; exact hw')) ?_
    rintro k ⟨hk, hbs⟩
    apply W.sr
    apply obn; rfl; rfl; rfl; apply Bin.lss
    apply OL.nx
    apply W.seq
    (refine W.cnd (fun hlt2 => ?_) (fun hlt2 => ?_)) <;> (try (exfalso; first | omega | exact hlt2 trivial | contradiction))
    · have hkl2 : k < u.1.binds.length := by omega
      obtain ⟨av, v, hqv, habv, hv, hcv⟩ := huo.get hkl2
      have habv : av.block < w.heap.size := habv
      rw [hqv]
      apply W.sk
      apply W.sb
      apply W.sr
      apply oop; rfl; apply Pev.idx; rfl; exact yes; rfl; exact yes; rfl; rfl; intro hcond; omega
      apply oop; rfl; apply Pev.load_kept; rfl; exact yes; exact .head _; rfl; intro hcond; assumption; intro hcond; (rw [add_block]; assumption); intro hcond; exact NotOwned.au
      apply oas; rfl; rfl
      apply OL.nsr
      apply omv; rfl; rfl
      (((first | (with_reducible apply OL.op) | (with_reducible apply QL.op)); (exact Guard.au); rfl; rfl); (exact Pev.call rfl (by exact Args.au) (fun _ w2 hw2 => (inside_calls v 0 1048575 w2).mono (fun e w3 h => ⟨h.1, hw2.ext h.2⟩))))
      apply oop; rfl; apply Pev.not; rfl; exact yes
      apply OL.nx
      (refine W.cnd (fun hv2 => ?_) (fun hv2 => ?_)) <;> (try (exfalso; first | omega | exact hv2 trivial | contradiction))
      · apply W.sr
        apply oas; rfl; rfl
        apply OL.nx
        refine W.rt ?_
        ((with_reducible apply At.fin1); rfl; rfl; intro w' hw')
        refine ⟨?_, by (exact hw'.fr)⟩
        have hid : idB v = false := by unfold idB; grind
        have : u.1.binds.all idB = false := List.all_eq_false.2 ⟨v, List.mem_of_getElem? hv, by simp [hid]⟩
        rw [hbad (by unfold altR; simp [this])]
      apply W.skip
      with_reducible apply At.in_normal
      with_reducible apply At.next
      apply W.reg
      apply obn; rfl; rfl; rfl; apply Bin.add_in; omega
      apply omv; rfl; rfl
      apply OL.nil
      refine At.again (k + 1) ⟨by omega, fun j z hj hz => ?_⟩ (by omega) (by exact Sub.au) (fun w' hw' => by first | exact hw' | (rw [hqv] at hw'; exact hw') | (rw [← hqv] at hw'; exact hw'))
      by_cases e : j = k
      · subst e
        rw [hv] at hz
        obtain rfl := Option.some.inj hz
        unfold idB
        grind
      · exact hbs j z (by omega) hz
    obtain rfl : k = u.1.binds.length := by omega
    have huall : u.1.binds.all idB = true := List.all_eq_true.2 fun v hv => by
      obtain ⟨j, hj⟩ := List.getElem?_of_mem hv
      exact hbs j v (List.getElem?_eq_some_iff.1 hj).1 hj
    have hfold : (ps.take (i + 1)).foldl (fun m p => max m p.1.binds.length) 0 = max ((ps.take i).foldl (fun m p => max m p.1.binds.length) 0) u.1.binds.length := by
      rw [List.take_add_one, hu]
      simp [List.foldl_append]
    refine W.xt ?_
    with_reducible apply At.next
    apply W.reg
    apply omv; rfl; rfl
    apply ofa; rfl; rfl; rfl
    apply old; rfl; rfl; exact .head _; rfl; rfl
    apply oop; rfl; apply Pev.len_slice; rfl; exact yes; rfl
    apply oop; rfl; apply Pev.max2; rfl; exact yes; rfl; exact yes
    apply oas; rfl; rfl
    apply OL.nil
    with_reducible apply At.in_normal
    with_reducible apply At.next
    apply W.reg
    apply obn; rfl; rfl; rfl; apply Bin.add_in; omega
    apply omv; rfl; rfl
    apply OL.nil
    try rw [max_if]
    refine At.again (i + 1) ⟨by omega, fun j p hj hp => ?_, by rw [hfold]; omega⟩ (by omega) (by rw [hfold]; first | exact Sub.au) (fun w' hw' => hw'.thin (by exact Thin.au))
    by_cases e : j = i
    · subst e
      rw [hu] at hp
      obtain rfl := Option.some.inj hp
      unfold altR
      grind
    · exact has j p (by omega) hp
  · obtain rfl : i = ps.length := by omega
    rw [List.take_length] at hwd ⊢
    have haall : x.alts.all (altR x.op) = true := List.all_eq_true.2 fun v hv => by
      rw [← hps] at hv
      obtain ⟨p, hp, rfl⟩ := List.mem_map.1 hv
      obtain ⟨j, hj⟩ := List.getElem?_of_mem hp
      exact has j p (List.getElem?_eq_some_iff.1 hj).1 hj
    have hrok : rangesOk x = true := by unfold rangesOk; grind
    have hwide : altW x.alts = ps.foldl (fun m p => max m p.1.binds.length) 0 := by
      unfold altW
      rw [← hps, List.foldl_map]
    rw [← hwide] at hwd ⊢
    have hre : numE x = if (x.op = 2 ∧ 6 < x.binds.length) ∨ (x.op = 3 ∧ 7 < x.kids.length) ∨ (x.op = 14 ∧ 6 < x.kids.length) ∨ ((x.op = 6 ∨ x.op = 15) ∧ 16 < x.kids.length) ∨ 16 < x.binds.length ∨ 16 < altW x.alts then 2 else 0 := by
      unfold numE
      rw [if_neg (by simp [hrok])]
    refine W.xt ?_
    with_reducible apply At.next
    apply W.sb
    apply W.seq
    apply W.sr
    apply ofa; rfl; rfl; rfl
    apply old; rfl; rfl; exact .head _; rfl; rfl
    apply obn; rfl; rfl; rfl; apply Bin.eql
    apply omv; rfl; rfl
    apply oy; rfl; rfl; rfl; apply Pev.fld; rfl; exact yes; rfl
    apply oy; rfl; rfl; rfl; apply Pev.load_blk; rfl; exact fun h => h; exact .head _; rfl; rfl
    apply oy; rfl; rfl; rfl; apply Pev.len_slice; rfl; exact fun h => h; rfl
    apply oy; rfl; rfl; rfl; apply Pev.bin; rfl; exact fun h => h; rfl; exact yes; intro hcond; apply Bin.gtr
    apply oop; rfl; apply Pev.pick_and; rfl; exact yes; rfl; exact fun h => h
    apply oas; rfl; rfl
    apply OL.nx
    refine W.cond rfl (fun c1 => ?_) (fun c1 => ?_)
    · apply W.sk
      refine W.cond rfl (fun _ => ?_) (fun h4 => by rw [c1] at h4; cases h4)
      apply W.sr
      apply oas; rfl; rfl
      apply OL.nx
      refine W.rt ?_
      ((with_reducible apply At.fin1); rfl; rfl; intro w' hw')
      exact ⟨by rw [hre, if_pos (by simp only [Bool.and_eq_true, Bool.and_eq_false_iff, Bool.or_eq_false_iff, Bool.not_eq_true', Bool.not_eq_false', decide_eq_true_eq, decide_eq_false_iff_not, Bool.or_eq_true, Bool.not_eq_true] at c1; omega)], by (exact hw'.fr)⟩
    apply W.sr
    apply ofa; rfl; rfl; rfl
    apply old; rfl; rfl; exact .head _; rfl; rfl
    apply obn; rfl; rfl; rfl; apply Bin.eql
    apply omv; rfl; rfl
    apply oy; rfl; rfl; rfl; apply Pev.fld; rfl; exact yes; rfl
    apply oy; rfl; rfl; rfl; apply Pev.load_blk; rfl; exact fun h => h; exact .head _; rfl; rfl
    apply oy; rfl; rfl; rfl; apply Pev.len_slice; rfl; exact fun h => h; rfl
    apply oy; rfl; rfl; rfl; apply Pev.bin; rfl; exact fun h => h; rfl; exact yes; intro hcond; apply Bin.gtr
    apply oop; rfl; apply Pev.pick_and; rfl; exact yes; rfl; exact fun h => h
    apply oas; rfl; rfl
    apply OL.nx
    refine W.cond rfl (fun c2 => ?_) (fun c2 => ?_)
    · apply W.sk
      refine W.cond rfl (fun _ => ?_) (fun h4 => by rw [c2] at h4; cases h4)
      apply W.sr
      apply oas; rfl; rfl
      apply OL.nx
      refine W.rt ?_
      ((with_reducible apply At.fin1); rfl; rfl; intro w' hw')
      exact ⟨by rw [hre, if_pos (by simp only [Bool.and_eq_true, Bool.and_eq_false_iff, Bool.or_eq_false_iff, Bool.not_eq_true', Bool.not_eq_false', decide_eq_true_eq, decide_eq_false_iff_not, Bool.or_eq_true, Bool.not_eq_true] at c2; omega)], by (exact hw'.fr)⟩
    apply W.reg
    apply ofa; rfl; rfl; rfl
    apply old; rfl; rfl; exact .head _; rfl; rfl
    apply obn; rfl; rfl; rfl; apply Bin.eql
    apply omv; rfl; rfl
    apply oy; rfl; rfl; rfl; apply Pev.fld; rfl; exact yes; rfl
    apply oy; rfl; rfl; rfl; apply Pev.load_blk; rfl; exact fun h => h; exact .head _; rfl; rfl
    apply oy; rfl; rfl; rfl; apply Pev.len_slice; rfl; exact fun h => h; rfl
    apply oy; rfl; rfl; rfl; apply Pev.bin; rfl; exact fun h => h; rfl; exact yes; intro hcond; apply Bin.gtr
    apply oop; rfl; apply Pev.pick_and; rfl; exact yes; rfl; exact fun h => h
    apply oas; rfl; rfl
    apply OL.nx
    refine W.cond rfl (fun c3 => ?_) (fun c3 => ?_)
    · apply W.sr
      apply oas; rfl; rfl
      apply OL.nx
      refine W.rt ?_
      ((with_reducible apply At.fin1); rfl; rfl; intro w' hw')
      exact ⟨by rw [hre, if_pos (by simp only [Bool.and_eq_true, Bool.and_eq_false_iff, Bool.or_eq_false_iff, Bool.not_eq_true', Bool.not_eq_false', decide_eq_true_eq, decide_eq_false_iff_not, Bool.or_eq_true, Bool.not_eq_true] at c3; omega)], by (exact hw'.fr)⟩
    apply W.seq
    apply W.sr
    apply ofa; rfl; rfl; rfl
    apply old; rfl; rfl; exact .head _; rfl; rfl
    apply obn; rfl; rfl; rfl; apply Bin.eql
    apply omv; rfl; rfl
    apply ono; rfl; rfl; rfl; apply Pev.fld; rfl; exact yes; rfl
    apply ono; rfl; rfl; rfl; apply Pev.load_blk; rfl; exact fun h => h; exact .head _; rfl; rfl
    apply ono; rfl; rfl; rfl; apply Pev.bin; rfl; exact fun h => h; rfl; exact yes; intro hcond; apply Bin.eql
    apply oop; rfl; apply Pev.pick_or; rfl; exact yes; rfl; exact fun h => h
    apply omv; rfl; rfl
    apply oy; rfl; rfl; rfl; apply Pev.fld; rfl; exact yes; rfl
    apply oy; rfl; rfl; rfl; apply Pev.load_blk; rfl; exact fun h => h; exact .head _; rfl; rfl
    apply oy; rfl; rfl; rfl; apply Pev.len_slice; rfl; exact fun h => h; rfl
    apply oy; rfl; rfl; rfl; apply Pev.bin; rfl; exact fun h => h; rfl; exact yes; intro hcond; apply Bin.gtr
    apply oop; rfl; apply Pev.pick_and; rfl; exact yes; rfl; exact fun h => h
    apply oas; rfl; rfl
    apply OL.nx
    refine W.cond rfl (fun c4 => ?_) (fun c4 => ?_)
    · apply W.sk
      refine W.cond rfl (fun _ => ?_) (fun h4 => by rw [c4] at h4; cases h4)
      apply W.sr
      apply oas; rfl; rfl
      apply OL.nx
      refine W.rt ?_
      ((with_reducible apply At.fin1); rfl; rfl; intro w' hw')
      exact ⟨by rw [hre, if_pos (by simp only [Bool.and_eq_true, Bool.and_eq_false_iff, Bool.or_eq_false_iff, Bool.not_eq_true', Bool.not_eq_false', decide_eq_true_eq, decide_eq_false_iff_not, Bool.or_eq_true, Bool.not_eq_true] at c4; omega)], by (exact hw'.fr)⟩
    apply W.sr
    apply ofa; rfl; rfl; rfl
    apply old; rfl; rfl; exact .head _; rfl; rfl
    apply oop; rfl; apply Pev.len_slice; rfl; exact yes; rfl
    apply obn; rfl; rfl; rfl; apply Bin.gtr
    apply oas; rfl; rfl
    apply OL.nx
    refine W.cond rfl (fun c5 => ?_) (fun c5 => ?_)
    · apply W.sk
      refine W.cond rfl (fun _ => ?_) (fun h4 => by rw [c5] at h4; cases h4)
      apply W.sr
      apply oas; rfl; rfl
      apply OL.nx
      refine W.rt ?_
      ((with_reducible apply At.fin1); rfl; rfl; intro w' hw')
      exact ⟨by rw [hre, if_pos (by simp only [Bool.and_eq_true, Bool.and_eq_false_iff, Bool.or_eq_false_iff, Bool.not_eq_true', Bool.not_eq_false', decide_eq_true_eq, decide_eq_false_iff_not, Bool.or_eq_true, Bool.not_eq_true] at c5; omega)], by (exact hw'.fr)⟩
    apply W.reg
    apply omv; rfl; rfl
    apply obn; rfl; rfl; rfl; apply Bin.gtr
    apply oas; rfl; rfl
    apply OL.nx
    refine W.cond rfl (fun c6 => ?_) (fun c6 => ?_)
    · apply W.sr
      apply oas; rfl; rfl
      apply OL.nx
      refine W.rt ?_
      ((with_reducible apply At.fin1); rfl; rfl; intro w' hw')
      exact ⟨by rw [hre, if_pos (by simp only [Bool.and_eq_true, Bool.and_eq_false_iff, Bool.or_eq_false_iff, Bool.not_eq_true', Bool.not_eq_false', decide_eq_true_eq, decide_eq_false_iff_not, Bool.or_eq_true, Bool.not_eq_true] at c6; omega)], by (exact hw'.fr)⟩
    apply W.skip
    with_reducible apply At.in_normal
    with_reducible apply At.next
    apply W.sr
    apply oas; rfl; rfl
    apply OL.nx
    apply W.ret
    ((with_reducible apply At.fin1); rfl; rfl; intro w' hw')
    exact ⟨by rw [hre, if_neg (by simp only [Bool.and_eq_true, Bool.and_eq_false_iff, Bool.or_eq_false_iff, Bool.not_eq_true', Bool.not_eq_false', decide_eq_true_eq, decide_eq_false_iff_not, Bool.or_eq_true, Bool.not_eq_true] at c1 c2 c3 c4 c5 c6; omega)], by (exact hw'.fr)⟩
end Go.Proofs.YtlboppiogeaicaaDoor.co

/- The walks of the reference's parentsOf, Depth and binder. Conditions: none. -/
namespace Go.Co
open Go.Eng Go.RowKit
set_option linter.unusedVariables false
set_option linter.unusedSimpArgs false
/-- the list of the parents while it is set to -1 -/
def neg1 (n i : Nat) : List Int := List.replicate i (-1) ++ List.replicate (n - i) 0
theorem neg1_length {n i : Nat} (h : i ≤ n) : (neg1 n i).length = n := by simp [neg1]; omega
theorem neg1_zero (n : Nat) : List.replicate n (Value.int .i64 0) = ints (neg1 n 0) := by simp [neg1, ints]
theorem neg1_end (n : Nat) : neg1 n n = List.replicate n (-1) := by simp [neg1]
theorem neg1_set {n i : Nat} (h : i < n) : (neg1 n i).set i (-1) = neg1 n (i + 1) := by
  refine List.ext_getElem? fun k => ?_
  rw [List.getElem?_set]
  have hl1 := neg1_length (n := n) (i := i) (by omega)
  have hl2 := neg1_length (n := n) (i := i + 1) (by omega)
  by_cases e : i = k
  · subst e
    rw [if_pos rfl, if_pos (by omega)]
    unfold neg1
    rw [List.getElem?_append_left (by simp)]
    simp [List.getElem?_replicate]
  · rw [if_neg e]
    unfold neg1
    by_cases h1 : k < i
    · rw [List.getElem?_append_left (by simpa using h1), List.getElem?_append_left (by simp; omega)]
      simp [List.getElem?_replicate, h1, show k < i + 1 by omega]
    · rw [List.getElem?_append_right (by simp; omega), List.getElem?_append_right (by simp; omega)]
      simp only [List.getElem?_replicate, List.length_replicate]
      by_cases h2 : k < n
      · rw [if_pos (by omega), if_pos (by omega)]
      · rw [if_neg (by omega), if_neg (by omega)]
end Go.Co
namespace Go.Proofs.YtlboppiogeaicaaDoor.co
open Go.RowKit Go.Eng Go.Co
set_option linter.unusedVariables false
set_option linter.unusedSimpArgs false
set_option maxRecDepth 100000
theorem parentsOf_calls (es : List (Ex × ExY)) (q : Option Addr) (cap : Nat) (w : World) (he : Arr exR w (low w) es q) (hlen : es.length ≤ 4096) :
    Calls Tryd.prog 45 [.slice q es.length cap].toArray w fun e w' => ∃ q' n c b, e = .returned (.tuple #[.slice q' n c, .bool b]) ∧ Ext w w' ∧ (b = true ↔ TreeP (es.map Prod.fst)) ∧ (b = true → n = es.length ∧ ∃ P, Parents (es.map Prod.fst) P ∧ IntsO w' (low w') P q') := by
  obtain ⟨e, hee⟩ : ∃ e, es.map Prod.fst = e := ⟨_, rfl⟩
  have hel : e.length = es.length := by rw [← hee, List.length_map]
  rw [hee]
  have hget : ∀ {i : Nat}, i < es.length → ∃ a p, q = some a ∧ a.block < w.heap.size ∧ es[i]? = some p ∧ e[i]? = some p.1 ∧ CellsAt w (a.add (i * 5)) [.int .i64 p.1.op, .int .i64 p.1.n, .slice p.2.b.1 p.1.binds.length p.2.b.2, .slice p.2.k.1 p.1.kids.length p.2.k.2, .slice p.2.a.1 p.1.alts.length p.2.a.2] ∧ ExOk w (low w) p.1 p.2 := fun {i} hi => by
    obtain ⟨a, p, h1, h2, h3, h4, h5⟩ := he.get hi
    exact ⟨a, p, h1, h2, h3, by rw [← hee, List.getElem?_map, h3]; rfl, h4, h5⟩
  refine enter Tryd.func45 rfl Tryd.ntmps45 rfl (Cls.start w) ?_
  (simp only [argEnv, Nat.zero_add, Nat.reduceAdd])
  apply W.sr
  apply oas; rfl; rfl
  apply oas; rfl; rfl
  apply OL.nsr
  apply omv; rfl; rfl
  apply oop; rfl; apply Pev.len_slice; rfl; exact yes; rfl
  apply OL.makeSlice; rfl; rfl; rfl; rfl; rfl; rfl; rfl; omega; (intro bk hbk; simp only [AllLe, and_true] at hbk)
  apply oas; rfl; rfl
  apply OL.nx
  apply W.seq
  apply W.sr
  apply omv; rfl; rfl
  apply oop; rfl; apply Pev.len_slice; rfl; exact yes; rfl
  apply omv; rfl; rfl
  apply OL.nx
  apply W.block
  revert bk
  intro bp hbp
  refine W.loop (G := Nat) (fun i => i ≤ es.length) (fun i => es.length - i)
    (fun i => [(0, true, .slice q es.length cap), (4, true, .slice (some ⟨bp, 0, none⟩) es.length es.length), (15, true, .int .i64 (es.length : Int)), (16, true, .int .i64 (i : Int))])
    (fun i => Cls [blk bp 3 (ints (neg1 es.length i))] [w]) 0 (by omega) (by exact Sub.au) (fun w' hw' => by rw [← neg1_zero]; exact hw') ?_
  rintro i hi
  apply W.sr
  apply obn; rfl; rfl; rfl; apply Bin.lss
  apply OL.nx
  apply W.seq
  (refine W.cnd (fun hlt => ?_) (fun hlt => ?_)) <;> (try (exfalso; first | omega | exact hlt trivial | contradiction))
  · have hil : i < es.length := by omega
    apply W.sk
    apply W.sb
    apply W.sr
    apply omv; rfl; rfl
    apply oas; rfl; rfl
    apply OL.nx
    apply W.reg
    apply omv; rfl; rfl
    apply omv; rfl; rfl
    apply oop; rfl; apply Pev.idxB; rfl; exact yes; rfl; exact yes; rfl; intro hcond; omega; rfl
    (apply OL.storeI); rfl; rfl; rfl; rfl; rfl; (exact Swap.au); (rw [ints_length, neg1_length hi]; omega)
    have hset : (ints (neg1 es.length i)).set (0 + (i : Int).toNat * 1) (.int .i64 (-1)) = ints (neg1 es.length (i + 1)) := by
      rw [show 0 + (i : Int).toNat * 1 = i by simp, ints_set, neg1_set hil]
    rw [hset]
    apply OL.nil
    with_reducible apply At.in_normal
    with_reducible apply At.next
    apply W.reg
    apply obn; rfl; rfl; rfl; apply Bin.add_in; omega
    apply omv; rfl; rfl
    apply OL.nil
    exact At.again (i + 1) (by omega) (by omega) (by exact Sub.au) (fun w' hw' => hw')
  obtain rfl : i = es.length := by omega
  rw [neg1_end]
  refine W.xt ?_
  with_reducible apply At.next
  apply W.seq
  apply W.sr
  apply omv; rfl; rfl
  apply oop; rfl; apply Pev.len_slice; rfl; exact yes; rfl
  apply omv; rfl; rfl
  apply OL.nx
  apply W.block
  refine W.loop (G := Nat × List Int) (fun g => g.1 ≤ es.length ∧ PI e g.2 g.1 0) (fun g => es.length - g.1)
    (fun g => [(0, true, .slice q es.length cap), (4, true, .slice (some ⟨bp, 0, none⟩) es.length es.length), (23, true, .slice q es.length cap), (24, true, .int .i64 (es.length : Int)), (25, true, .int .i64 (g.1 : Int))])
    (fun g => Cls [blk bp 3 (ints g.2)] [w]) (0, List.replicate es.length (-1)) ⟨by simp, by rw [← hel]; exact PI.start e⟩ (by exact Sub.au) (fun w' hw' => hw') ?_
  rintro ⟨i, P⟩ ⟨hi, hP⟩
  simp only at hi hP ⊢
  apply W.sr
  apply obn; rfl; rfl; rfl; apply Bin.lss
  apply OL.nx
  apply W.seq
  (refine W.cnd (fun hlt2 => ?_) (fun hlt2 => ?_)) <;> (try (exfalso; first | omega | exact hlt2 trivial | contradiction))
  · have hil : i < es.length := by omega
    obtain ⟨a, p, rfl, hab, hp, hpe, hcell, hok⟩ := hget hil
    have hkl := hok.kl
    apply W.sk
    apply W.sb
    apply W.sr
    apply omv; rfl; rfl
    apply oop; rfl; apply Pev.idx; rfl; exact yes; rfl; exact yes; rfl; rfl; intro hcond; omega
    apply oop; rfl; apply Pev.load_keptA; rfl; exact yes; exact .head _; rfl; intro hcond; assumption; rfl; intro hcond; (rw [add_block]; assumption); intro hcond; exact NotOwned.au
    apply OL.alloc; rfl; rfl; exact CellsL.agg; (intro bk hbk; simp only [AllLe, and_true] at hbk)
    apply oas; rfl; rfl
    apply OL.storeB; rfl; rfl; exact CellsL.agg; rfl; rfl; rfl; exact Swap.au; exact Put.au
    apply OL.nsr
    apply ofa; rfl; rfl; rfl
    apply old; rfl; rfl; exact .head _; rfl; rfl
    apply oop; rfl; apply Pev.len_slice; rfl; exact yes; rfl
    apply omv; rfl; rfl
    apply OL.nx
    apply W.block
    revert bk
    intro bx hbx
    skip
    refine W.loop (G := Nat × List Int) (fun g => g.1 ≤ p.1.kids.length ∧ PI e g.2 i g.1 ∧ ∀ (m : Nat) (k : Int), m < g.1 → p.1.kids[m]? = some k → 0 ≤ k ∧ k < (i : Int)) (fun g => p.1.kids.length - g.1)
      (fun g => [(0, true, .slice (some a) es.length cap), (4, true, .slice (some ⟨bp, 0, none⟩) es.length es.length), (6, true, .int .i64 (i : Int)), (23, true, .slice (some a) es.length cap), (24, true, .int .i64 (es.length : Int)), (25, true, .int .i64 (i : Int)), (31, true, .slice p.2.k.1 p.1.kids.length p.2.k.2), (32, true, .int .i64 (p.1.kids.length : Int)), (33, true, .int .i64 (g.1 : Int))])
      (fun g => Cls [blk bp 3 (ints g.2)] [w]) (0, P) ⟨by simp, hP, fun m k hm => by simp at hm⟩ (by exact Sub.au) (fun w' hw' => hw'.thin (by exact Thin.au)) ?_
    rintro ⟨j, P2⟩ ⟨hj, hP2, hks⟩
    simp only at hj hP2 hks ⊢
    have hPl : P2.length = es.length := by rw [hP2.len, hel]
    apply W.sr
    apply obn; rfl; rfl; rfl; apply Bin.lss
    apply OL.nx
    apply W.seq
    (refine W.cnd (fun hlt3 => ?_) (fun hlt3 => ?_)) <;> (try (exfalso; first | omega | exact hlt3 trivial | contradiction))
    · have hjl : j < p.1.kids.length := by omega
      obtain ⟨ak, k, hqk, habk, hk, hck⟩ := hok.k.get hjl
      have habk : ak.block < w.heap.size := habk
      rw [hqk]
      apply W.sk
      apply W.sb
      apply W.sr
      apply oop; rfl; apply Pev.idx; rfl; exact yes; rfl; exact yes; rfl; rfl; intro hcond; omega
      apply oop; rfl; apply Pev.load_kept; rfl; exact yes; exact .head _; rfl; intro hcond; assumption; intro hcond; (rw [add_block]; assumption); intro hcond; exact NotOwned.au
      apply oas; rfl; rfl
      apply OL.nx
      apply W.seq
      apply W.sr
      apply omv; rfl; rfl
      apply obn; rfl; rfl; rfl; apply Bin.lss
      apply omv; rfl; rfl
      apply ono; rfl; rfl; rfl; apply Pev.move; rfl; exact yes
      apply ono; rfl; rfl; rfl; apply Pev.move; rfl; exact yes
      apply ono; rfl; rfl; rfl; apply Pev.bin; rfl; exact fun h => h; rfl; exact fun h => h; intro hcond; apply Bin.geq
      apply oop; rfl; apply Pev.pick_or; rfl; exact yes; rfl; exact fun h => h
      apply omv; rfl; rfl
      apply ono; rfl; rfl; rfl; apply Pev.move; rfl; exact yes
      apply ono; rfl; rfl; rfl; apply Pev.move; rfl; exact yes
      by_cases hkr : k < 0 ∨ (i : Int) ≤ k
      · apply OL.gateOff; exact Guard.no rfl rfl; (simp; omega); rfl
        apply OL.gateOff; exact Guard.no rfl rfl; (simp; omega); rfl
        apply OL.gateOff; exact Guard.no rfl rfl; (simp; omega); rfl
        apply oop; rfl; apply Pev.pick_on; rfl; exact yes; (intro hcond; simp; omega); rfl; exact yes
        apply OL.nx
        refine W.cond rfl (fun hb => ?_) (fun hb => by grind)
        apply W.sr
        apply oas; rfl; rfl
        apply oas; rfl; rfl
        apply OL.nx
        refine W.rt ?_
        ((with_reducible apply At.fin2); rfl; rfl; rfl; intro w' hw')
        refine ⟨none, 0, 0, false, rfl, by (exact hw'.fr), ⟨fun h => (by cases h), fun hg => ?_⟩, fun h => (by cases h)⟩
        have := hg.2.1 i _ hpe k (List.mem_of_getElem? hk)
        omega
      · obtain ⟨kn, rfl⟩ : ∃ kn : Nat, k = (kn : Int) := ⟨k.toNat, by omega⟩
        have hki : kn < i := by omega
        obtain ⟨v, hv⟩ : ∃ v, P2[kn]? = some v := ⟨_, List.getElem?_eq_getElem (by omega)⟩
        have hpk : (ints P2)[0 + (kn : Int).toNat * 1]? = some (.int .i64 v) := by
          have h1 := ints_get hv
          simpa using h1
        apply ono; rfl; rfl; rfl; apply Pev.idxB; rfl; exact fun h => h; rfl; exact fun h => h; rfl; intro hcond; omega; rfl
        apply ono; rfl; rfl; rfl; apply Pev.load_blk; rfl; exact fun h => h; exact .head _; rfl; assumption
        apply ono; rfl; rfl; rfl; apply Pev.bin; rfl; exact fun h => h; rfl; exact yes; intro hcond; apply Bin.geq
        apply oop; rfl; apply Pev.pick_or; rfl; exact yes; rfl; exact fun h => h
        apply OL.nx
        refine W.cond rfl (fun hb => ?_) (fun hb => ?_)
        · have hv0 : 0 ≤ v := by grind
          apply W.sr
          apply oas; rfl; rfl
          apply oas; rfl; rfl
          apply OL.nx
          refine W.rt ?_
          ((with_reducible apply At.fin2); rfl; rfl; rfl; intro w' hw')
          refine ⟨none, 0, 0, false, rfl, by (exact hw'.fr), ⟨fun h => (by cases h), fun hg => ?_⟩, fun h => (by cases h)⟩
          exact absurd hg (hP2.twice hpe hk (by omega) (by omega) (by simpa using hv) hv0)
        have hv0 : v < 0 := by grind
        apply W.sk
        apply W.reg
        apply omv; rfl; rfl
        apply omv; rfl; rfl
        apply omv; rfl; rfl
        apply oop; rfl; apply Pev.idxB; rfl; exact yes; rfl; exact yes; rfl; intro hcond; omega; rfl
        (apply OL.storeI); rfl; rfl; rfl; rfl; rfl; (exact Swap.au); (rw [ints_length]; omega)
        have hset : (ints P2).set (0 + (kn : Int).toNat * 1) (.int .i64 (i : Int)) = ints (P2.set kn (i : Int)) := by
          rw [show 0 + (kn : Int).toNat * 1 = kn by simp, ints_set]
        rw [hset]
        apply OL.nil
        with_reducible apply At.in_normal
        with_reducible apply At.next
        apply W.reg
        apply obn; rfl; rfl; rfl; apply Bin.add_in; omega
        apply omv; rfl; rfl
        apply OL.nil
        refine At.again (j + 1, P2.set kn (i : Int)) ⟨by simp only; omega, hP2.step hpe hk (by omega) (by omega) (by simpa using hv) hv0, fun m k2 hm hk2 => ?_⟩ (by simp only; omega) (by exact Sub.au) (fun w' hw' => by first | exact hw' | exact hw'.thin (by exact Thin.au))
        by_cases em : m = j
        · subst em
          rw [hk] at hk2
          obtain rfl := Option.some.inj hk2
          omega
        · exact hks m k2 (by simp only at hm; omega) hk2
    · obtain rfl : j = p.1.kids.length := by omega
      have hkall2 : ∀ k ∈ p.1.kids, 0 ≤ k ∧ k < (i : Int) := fun k hk => by
        obtain ⟨m, hm⟩ := List.getElem?_of_mem hk
        exact hks m k (List.getElem?_eq_some_iff.1 hm).1 hm
      refine W.xt ?_
      with_reducible apply At.in_normal
      with_reducible apply At.next
      apply W.reg
      apply obn; rfl; rfl; rfl; apply Bin.add_in; omega
      apply omv; rfl; rfl
      apply OL.nil
      exact At.again (i + 1, P2) ⟨by simp only; omega, hP2.next hpe hkall2⟩ (by simp only; omega) (by exact Sub.au) (fun w' hw' => hw')
  · obtain rfl : i = es.length := by omega
    have hP' : PI e P e.length 0 := by rw [hel]; exact hP
    have hPl : P.length = es.length := by rw [hP.len, hel]
    refine W.xt ?_
    with_reducible apply At.next
    apply W.seq
    apply W.sr
    apply omv; rfl; rfl
    apply oop; rfl; apply Pev.len_slice; rfl; exact yes; rfl
    apply obn; rfl; rfl; rfl; apply Bin.sub_in; omega
    apply omv; rfl; rfl
    apply OL.nx
    apply W.block
    refine W.loop (G := Nat) (fun i => (i : Int) ≤ max ((es.length : Int) - 1) 0 ∧ ∀ (k : Nat) (v : Int), k < i → P[k]? = some v → 0 ≤ v) (fun i => es.length - i)
      (fun i => [(0, true, .slice q es.length cap), (4, true, .slice (some ⟨bp, 0, none⟩) es.length es.length), (59, true, .int .i64 ((es.length : Int) - 1)), (60, true, .int .i64 (i : Int))])
      (fun _ => Cls [blk bp 3 (ints P)] [w]) 0 ⟨by omega, fun k v hk => by omega⟩ (by exact Sub.au) (fun w' hw' => hw') ?_
    rintro i ⟨hi, hall⟩
    apply W.sr
    apply obn; rfl; rfl; rfl; apply Bin.lss
    apply OL.nx
    apply W.seq
    (refine W.cnd (fun hlt3 => ?_) (fun hlt3 => ?_)) <;> (try (exfalso; first | omega | exact hlt3 trivial | contradiction))
    · have hil : i + 1 < es.length := by omega
      obtain ⟨v, hv⟩ : ∃ v, P[i]? = some v := ⟨_, List.getElem?_eq_getElem (by omega)⟩
      have hpi : (ints P)[0 + (i : Int).toNat * 1]? = some (.int .i64 v) := by
        have h1 := ints_get hv
        simpa using h1
      apply W.sk
      apply W.sb
      apply W.sr
      apply omv; rfl; rfl
      apply oas; rfl; rfl
      apply OL.nsr
      apply omv; rfl; rfl
      apply omv; rfl; rfl
      apply oop; rfl; apply Pev.idxB; rfl; exact yes; rfl; exact yes; rfl; intro hcond; omega; rfl
      apply oop; rfl; apply Pev.load_blk; rfl; exact yes; exact .head _; rfl; assumption
      apply obn; rfl; rfl; rfl; apply Bin.lss
      apply OL.nx
      (refine W.cnd (fun hneg => ?_) (fun hneg => ?_)) <;> (try (exfalso; first | omega | exact hneg trivial | contradiction))
      · apply W.sr
        apply oas; rfl; rfl
        apply oas; rfl; rfl
        apply OL.nx
        refine W.rt ?_
        ((with_reducible apply At.fin2); rfl; rfl; rfl; intro w' hw')
        refine ⟨none, 0, 0, false, rfl, by (exact hw'.fr), ⟨fun h => (by cases h), fun hg => ?_⟩, fun h => (by cases h)⟩
        exact absurd hg (hP'.bad (by omega) hv hneg)
      apply W.skip
      with_reducible apply At.in_normal
      with_reducible apply At.next
      apply W.reg
      apply obn; rfl; rfl; rfl; apply Bin.add_in; omega
      apply omv; rfl; rfl
      apply OL.nil
      refine At.again (i + 1) ⟨by omega, fun k u hk hu => ?_⟩ (by omega) (by exact Sub.au) (fun w' hw' => hw')
      by_cases em : k = i
      · subst em
        rw [hv] at hu
        obtain rfl := Option.some.inj hu
        omega
      · exact hall k u (by omega) hu
    · refine W.xt ?_
      with_reducible apply At.next
      apply W.sr
      apply omv; rfl; rfl
      apply omv; rfl; rfl
      apply oop; rfl; apply Pev.len_slice; rfl; exact yes; rfl
      apply obn; rfl; rfl; rfl; apply Bin.gtr
      apply oas; rfl; rfl
      apply oas; rfl; rfl
      apply OL.nx
      apply W.ret
      ((with_reducible apply At.fin2); rfl; rfl; rfl; intro w' hw')
      have hgood : 0 < es.length → TreeP e := fun h0 => hP'.good (by omega) fun k v hk hv => hall k v (by omega) hv
      refine ⟨some ⟨bp, 0, none⟩, es.length, es.length, _, rfl, by (exact hw'.fr), ⟨fun h => hgood (by have := of_decide_eq_true h; omega), fun hg => decide_eq_true (by have := hg.1; omega)⟩, fun h => ⟨rfl, P, hP'.parents (hgood (by have := of_decide_eq_true h; omega)), fun hl => ?_⟩⟩
      have hb : (blk bp 3 (ints P)).holds w' := hw'.item (.head _)
      refine ⟨⟨bp, 0, none⟩, rfl, blk_lt hb, fun j v hj => ?_⟩
      rw [add_mid, blk_cell hb, Nat.zero_add]
      exact hj
end Go.Proofs.YtlboppiogeaicaaDoor.co

/- The walks of the reference's goodForm and goodKids. Conditions: none. (Printed by crc.py.) The walks of the reference's Depth and binder. Conditions: none. The walks of the reference's BodyFault and Fault. Conditions: none. -/
namespace Go.Proofs.YtlboppiogeaicaaDoor.co
open Go.RowKit Go.Eng Go.Co
set_option linter.unusedVariables false
set_option linter.unusedSimpArgs false
set_option maxRecDepth 100000
theorem goodForm_calls (es : List (Ex × ExY)) (q : Option Addr) (cap : Nat) (x : Ex) (y : ExY) (flat : Bool) (w : World) (h : ExOk w (low w) x y) :
    Calls Tryd.prog 72 [.slice q es.length cap, .agg (exC x y).toArray, .bool flat].toArray w fun e w' => e = .returned (.bool (!flatBad flat x.op && formR x)) ∧ Ext w w' := by
  have hal := h.al
  have hkl := h.kl
  have hbl := h.bl
  refine enter Tryd.func72 rfl Tryd.ntmps72 rfl (Cls.start w) ?_
  (simp only [argEnv, Nat.zero_add, Nat.reduceAdd])
  simp only [exC]
  apply W.sr
  apply OL.box; rfl; rfl; exact CellsL.agg; (intro bk hbk; simp only [AllLe, and_true] at hbk)
  apply oas; rfl; rfl
  apply OL.nsr
  apply ofa; rfl; rfl; rfl
  apply old; rfl; rfl; exact .head _; rfl; rfl
  apply obn; rfl; rfl; rfl; apply Bin.eql
  apply omv; rfl; rfl
  apply ono; rfl; rfl; rfl; apply Pev.fld; rfl; exact yes; rfl
  apply ono; rfl; rfl; rfl; apply Pev.load_blk; rfl; exact fun h => h; exact .head _; rfl; rfl
  apply ono; rfl; rfl; rfl; apply Pev.bin; rfl; exact fun h => h; rfl; exact yes; intro hcond; apply Bin.eql
  apply oop; rfl; apply Pev.pick_or; rfl; exact yes; rfl; exact fun h => h
  apply omv; rfl; rfl
  apply ono; rfl; rfl; rfl; apply Pev.fld; rfl; exact yes; rfl
  apply ono; rfl; rfl; rfl; apply Pev.load_blk; rfl; exact fun h => h; exact .head _; rfl; rfl
  apply ono; rfl; rfl; rfl; apply Pev.bin; rfl; exact fun h => h; rfl; exact yes; intro hcond; apply Bin.eql
  apply oop; rfl; apply Pev.pick_or; rfl; exact yes; rfl; exact fun h => h
  apply oas; rfl; rfl
  apply OL.nsr
  apply ofa; rfl; rfl; rfl
  apply old; rfl; rfl; exact .head _; rfl; rfl
  apply obn; rfl; rfl; rfl; apply Bin.eql
  apply omv; rfl; rfl
  apply ono; rfl; rfl; rfl; apply Pev.fld; rfl; exact yes; rfl
  apply ono; rfl; rfl; rfl; apply Pev.load_blk; rfl; exact fun h => h; exact .head _; rfl; rfl
  apply ono; rfl; rfl; rfl; apply Pev.bin; rfl; exact fun h => h; rfl; exact yes; intro hcond; apply Bin.eql
  apply oop; rfl; apply Pev.pick_or; rfl; exact yes; rfl; exact fun h => h
  apply omv; rfl; rfl
  apply ono; rfl; rfl; rfl; apply Pev.fld; rfl; exact yes; rfl
  apply ono; rfl; rfl; rfl; apply Pev.load_blk; rfl; exact fun h => h; exact .head _; rfl; rfl
  apply ono; rfl; rfl; rfl; apply Pev.bin; rfl; exact fun h => h; rfl; exact yes; intro hcond; apply Bin.eql
  apply oop; rfl; apply Pev.pick_or; rfl; exact yes; rfl; exact fun h => h
  apply omv; rfl; rfl
  apply ono; rfl; rfl; rfl; apply Pev.fld; rfl; exact yes; rfl
  apply ono; rfl; rfl; rfl; apply Pev.load_blk; rfl; exact fun h => h; exact .head _; rfl; rfl
  apply ono; rfl; rfl; rfl; apply Pev.bin; rfl; exact fun h => h; rfl; exact yes; intro hcond; apply Bin.eql
  apply oop; rfl; apply Pev.pick_or; rfl; exact yes; rfl; exact fun h => h
  apply oas; rfl; rfl
  apply OL.nsr
  apply oop; rfl; apply Pev.load_blkA; rfl; exact yes; exact .head _; rfl; exact Take.au
  (((first | (with_reducible apply OL.op) | (with_reducible apply QL.op)); (exact Guard.au); rfl; rfl); (exact Pev.call rfl (by exact Args.au) (fun _ w2 hw2 => (kidsOf_calls x y w2 (h.at hw2 (by exact mau) (fun k hk => by exact NotOwned.au))).mono (fun e w3 h => ⟨h.1, hw2.ext h.2⟩))))
  apply omv; rfl; rfl
  apply oex; rfl; rfl; rfl
  apply oex; rfl; rfl; rfl
  apply oas; rfl; rfl
  apply oas; rfl; rfl
  apply OL.nx
  apply W.seq
  apply W.sr
  apply omv; rfl; rfl
  apply omv; rfl; rfl
  apply oy; rfl; rfl; rfl; apply Pev.move; rfl; exact yes
  apply oy; rfl; rfl; rfl; apply Pev.not; rfl; exact fun h => h
  apply oop; rfl; apply Pev.pick_and; rfl; exact yes; rfl; exact fun h => h
  apply omv; rfl; rfl
  apply ono; rfl; rfl; rfl; apply Pev.move; rfl; exact yes
  apply ono; rfl; rfl; rfl; apply Pev.move; rfl; exact fun h => h
  apply OL.op; exact Guard.cyes rfl rfl; rfl; rfl; apply Pev.move; rfl; exact yes
  apply ono; rfl; rfl; rfl; apply Pev.pick_and; rfl; exact fun h => h; rfl; exact fun h => h
  apply oop; rfl; apply Pev.pick_or; rfl; exact yes; rfl; exact fun h => h
  apply omv; rfl; rfl
  apply ono; rfl; rfl; rfl; apply Pev.move; rfl; exact yes
  apply ono; rfl; rfl; rfl; apply Pev.fld; rfl; exact yes; rfl
  apply ono; rfl; rfl; rfl; apply Pev.load_blk; rfl; exact fun h => h; exact .head _; rfl; rfl
  apply ono; rfl; rfl; rfl; apply Pev.len_slice; rfl; exact fun h => h; rfl
  apply ono; rfl; rfl; rfl; apply Pev.bin; rfl; exact fun h => h; rfl; exact fun h => h; intro hcond; apply Bin.neq
  apply oop; rfl; apply Pev.pick_or; rfl; exact yes; rfl; exact fun h => h
  apply omv; rfl; rfl
  apply ono; rfl; rfl; rfl; apply Pev.move; rfl; exact yes
  apply ono; rfl; rfl; rfl; apply Pev.not; rfl; exact fun h => h
  apply ono; rfl; rfl; rfl; apply Pev.move; rfl; exact fun h => h
  apply OL.op; exact Guard.cyes rfl rfl; rfl; rfl; apply Pev.fld; rfl; exact yes; rfl
  apply OL.op; exact Guard.cyes rfl rfl; rfl; rfl; apply Pev.load_blk; rfl; exact fun h => h; exact .head _; rfl; rfl
  apply OL.op; exact Guard.cyes rfl rfl; rfl; rfl; apply Pev.bin; rfl; exact fun h => h; rfl; exact yes; intro hcond; apply Bin.neq
  apply ono; rfl; rfl; rfl; apply Pev.pick_and; rfl; exact fun h => h; rfl; exact fun h => h
  apply oop; rfl; apply Pev.pick_or; rfl; exact yes; rfl; exact fun h => h
  apply omv; rfl; rfl
  apply ono; rfl; rfl; rfl; apply Pev.load_blkA; rfl; exact yes; exact .head _; rfl; exact Take.au
  (((first | (with_reducible apply OL.op) | (with_reducible apply QL.op)); (exact Guard.au); rfl; rfl); (exact Pev.call rfl (by exact Args.au) (fun _ w2 hw2 => (goodAlts_calls x y w2 (h.at hw2 (by exact mau) (fun k hk => by exact NotOwned.au))).mono (fun e w3 h => ⟨h.1, hw2.ext h.2⟩))))
  have hflat : flatBad flat x.op = (flat && (decide (x.op = 2) || decide (x.op = 5) || decide (x.op = 12) || decide (x.op = 13)) || !flat && (decide (x.op = 14) || decide (x.op = 15) || decide (x.op = 16))) := rfl
  have hform : formR x = (decide ((kidsR x).1 = (x.kids.length : Int)) && ((kidsR x).2 || decide (x.n = 0)) && altsR x && bindsR x) := rfl
  generalize kidsR x = kr at *
  obtain ⟨kn, ku⟩ := kr
  generalize altsR x = ar at *
  apply ono; rfl; rfl; rfl; apply Pev.not; rfl; exact fun h => h
  apply oop; rfl; apply Pev.pick_or; rfl; exact yes; rfl; exact fun h => h
  apply OL.nx
  refine W.cond rfl (fun hb => ?_) (fun hb => ?_)
  · apply W.sr
    apply oas; rfl; rfl
    apply OL.nx
    refine W.rt ?_
    ((with_reducible apply At.fin1); rfl; rfl; intro w' hw')
    refine ⟨congrArg (fun b => Ending.returned (Value.bool b)) ?_, by (exact hw'.fr)⟩
    rw [hflat, hform]
    cases flat <;> cases ku <;> cases ar <;> simp only [Bool.and_eq_true, Bool.and_eq_false_iff, Bool.or_eq_false_iff, Bool.not_eq_true', Bool.not_eq_false', decide_eq_true_eq, decide_eq_false_iff_not, Bool.or_eq_true, Bool.not_eq_true] at hb ⊢ <;> simp at hb ⊢ <;> grind
  have hrest : (!flatBad flat x.op && formR x) = bindsR x := by
    rw [hflat, hform]
    cases flat <;> cases ku <;> cases ar <;> simp only [Bool.and_eq_true, Bool.and_eq_false_iff, Bool.or_eq_false_iff, Bool.not_eq_true', Bool.not_eq_false', decide_eq_true_eq, decide_eq_false_iff_not, Bool.or_eq_true, Bool.not_eq_true] at hb <;> simp at hb ⊢ <;> grind
  rw [hrest]
  clear hrest hform hflat hb
  apply W.sk
  apply W.seq
  apply W.sr
  apply ofa; rfl; rfl; rfl
  apply old; rfl; rfl; exact .head _; rfl; rfl
  apply OL.nx
  apply W.block
  apply W.seq
  apply W.sr
  apply obn; rfl; rfl; rfl; apply Bin.eql
  apply oas; rfl; rfl
  apply OL.nx
  (refine W.cnd (fun c1 => ?_) (fun c1 => ?_)) <;> (try (exfalso; first | omega | exact c1 trivial | contradiction))
  · apply W.sk
    (refine W.cnd (fun c1b => ?_) (fun c1b => ?_)) <;> (try (exfalso; first | omega | exact c1b trivial | contradiction))
    apply W.sr
    apply oas; rfl; rfl
    apply OL.nx
    refine W.rt ?_
    ((with_reducible apply At.fin1); rfl; rfl; intro w' hw')
    exact ⟨by unfold bindsR; rw [if_pos (by omega)], by (exact hw'.fr)⟩
  apply W.reg
  apply obn; rfl; rfl; rfl; apply Bin.eql
  apply oas; rfl; rfl
  apply OL.nx
  (refine W.cnd (fun c2 => ?_) (fun c2 => ?_)) <;> (try (exfalso; first | omega | exact c2 trivial | contradiction))
  · apply W.sr
    apply oas; rfl; rfl
    apply OL.nx
    refine W.rt ?_
    ((with_reducible apply At.fin1); rfl; rfl; intro w' hw')
    exact ⟨by unfold bindsR; rw [if_pos (by omega)], by (exact hw'.fr)⟩
  apply W.sr
  apply obn; rfl; rfl; rfl; apply Bin.eql
  apply oas; rfl; rfl
  apply OL.nx
  (refine W.cnd (fun c3 => ?_) (fun c3 => ?_)) <;> (try (exfalso; first | omega | exact c3 trivial | contradiction))
  · apply W.sr
    apply ofa; rfl; rfl; rfl
    apply old; rfl; rfl; exact .head _; rfl; rfl
    apply oop; rfl; apply Pev.len_slice; rfl; exact yes; rfl
    apply obn; rfl; rfl; rfl; apply Bin.eql
    apply oas; rfl; rfl
    apply OL.nx
    refine W.rt ?_
    ((with_reducible apply At.fin1); rfl; rfl; intro w' hw')
    refine ⟨congrArg (fun b => Ending.returned (Value.bool b)) ?_, by (exact hw'.fr)⟩
    unfold bindsR
    rw [if_neg (by omega), if_pos (by omega)]
    grind
  apply W.sr
  apply obn; rfl; rfl; rfl; apply Bin.eql
  apply oas; rfl; rfl
  apply OL.nx
  (refine W.cnd (fun c4 => ?_) (fun c4 => ?_)) <;> (try (exfalso; first | omega | exact c4 trivial | contradiction))
  · apply W.sr
    apply ofa; rfl; rfl; rfl
    apply old; rfl; rfl; exact .head _; rfl; rfl
    apply oop; rfl; apply Pev.len_slice; rfl; exact yes; rfl
    apply obn; rfl; rfl; rfl; apply Bin.gtr
    apply oas; rfl; rfl
    apply OL.nx
    refine W.rt ?_
    ((with_reducible apply At.fin1); rfl; rfl; intro w' hw')
    refine ⟨congrArg (fun b => Ending.returned (Value.bool b)) ?_, by (exact hw'.fr)⟩
    unfold bindsR
    rw [if_neg (by omega), if_neg (by omega), if_pos (by omega)]
    grind
  apply W.skip
  with_reducible apply At.in_normal
  with_reducible apply At.next
  apply W.sr
  apply ofa; rfl; rfl; rfl
  apply old; rfl; rfl; exact .head _; rfl; rfl
  apply oop; rfl; apply Pev.len_slice; rfl; exact yes; rfl
  apply obn; rfl; rfl; rfl; apply Bin.eql
  apply oas; rfl; rfl
  apply OL.nx
  apply W.ret
  ((with_reducible apply At.fin1); rfl; rfl; intro w' hw')
  refine ⟨congrArg (fun b => Ending.returned (Value.bool b)) ?_, by (exact hw'.fr)⟩
  unfold bindsR
  rw [if_neg (by omega), if_neg (by omega), if_neg (by omega)]
  grind
theorem goodKids_calls (es : List (Ex × ExY)) (q : Option Addr) (cap : Nat) (x : Ex) (y : ExY) (w : World) (h : ExOk w (low w) x y) (he : Arr exR w (low w) es q) (hlen : es.length ≤ 4096) (hkd : ∀ k ∈ x.kids, 0 ≤ k ∧ k < (es.length : Int)) (hk5 : x.op = 5 → x.kids.length = x.binds.length + 1) :
    Calls Tryd.prog 74 [.slice q es.length cap, .agg (exC x y).toArray].toArray w fun e w' => e = .returned (.bool (kidsB (es.map Prod.fst) x)) ∧ Ext w w' := by
  have hal := h.al
  have hkl := h.kl
  have hbl := h.bl
  refine enter Tryd.func74 rfl Tryd.ntmps74 rfl (Cls.start w) ?_
  (simp only [argEnv, Nat.zero_add, Nat.reduceAdd])
  simp only [exC]
  apply W.sr
  apply OL.box; rfl; rfl; exact CellsL.agg; (intro bk hbk; simp only [AllLe, and_true] at hbk)
  apply oas; rfl; rfl
  apply OL.nx
  apply W.seq
  apply W.sr
  apply ofa; rfl; rfl; rfl
  apply old; rfl; rfl; exact .head _; rfl; rfl
  apply oop; rfl; apply Pev.len_slice; rfl; exact yes; rfl
  apply omv; rfl; rfl
  apply OL.nx
  apply W.block
  refine W.loop (G := Nat) (fun i => i ≤ x.binds.length ∧ ∀ j, j < i → bindOk (es.map Prod.fst) x j = true) (fun i => x.binds.length - i)
    (fun i => [(0, true, .slice q es.length cap), (3, true, .pointer (some ⟨bk, 0, none⟩)), (8, true, .int .i64 (x.binds.length : Int)), (9, true, .int .i64 (i : Int))])
    (fun _ => Cls [blk bk 28 [.int .i64 x.op, .int .i64 x.n, .slice y.b.1 x.binds.length y.b.2, .slice y.k.1 x.kids.length y.k.2, .slice y.a.1 x.alts.length y.a.2]] [w]) 0 ⟨by omega, fun j hj => by omega⟩ (by exact Sub.au) (fun w' hw' => hw') ?_
  rintro i ⟨hi, hall⟩
  apply W.sr
  apply obn; rfl; rfl; rfl; apply Bin.lss
  apply OL.nx
  apply W.seq
  (refine W.cnd (fun hlt => ?_) (fun hlt => ?_)) <;> (try (exfalso; first | omega | exact hlt trivial | contradiction))
  · have hil : i < x.binds.length := by omega
    have hbad : bindOk (es.map Prod.fst) x i = false → kidsB (es.map Prod.fst) x = false := fun hf => not_all_range hil hf
    have hagain : bindOk (es.map Prod.fst) x i = true → ∀ j, j < i + 1 → bindOk (es.map Prod.fst) x j = true := fun hf j hj => by
      by_cases e : j = i
      · rw [e]; exact hf
      · exact hall j (by omega)
    by_cases h5 : x.op = 5
    · have hkl5 := hk5 h5
      obtain ⟨ak, kv, hqk, habk, hkv, hck⟩ := h.k.get (i := i) (by omega)
      have habk : ak.block < w.heap.size := habk
      have hkr := hkd kv (List.mem_of_getElem? hkv)
      obtain ⟨ae, p, hqe, habe, hp, hcell, hok⟩ := he.get (i := kv.toNat) (by omega)
      have habe : ae.block < w.heap.size := habe
      have hcell : CellsAt w (ae.add (kv.toNat * 5)) [.int .i64 p.1.op, .int .i64 p.1.n, .slice p.2.b.1 p.1.binds.length p.2.b.2, .slice p.2.k.1 p.1.kids.length p.2.k.2, .slice p.2.a.1 p.1.alts.length p.2.a.2] := hcell
      have hbk : bindOk (es.map Prod.fst) x i = decide (p.1.op = 2) := by
        have e1 : x.kids.getD i 0 = kv := by simp [List.getD, hkv]
        have e2 : (es.map Prod.fst).getD kv.toNat ⟨0, 0, [], [], []⟩ = p.1 := by simp [List.getD, hp]
        unfold bindOk
        rw [e1, e2]
        grind
      rw [hqk, hqe]
      apply W.sk
      apply W.sb
      apply W.sr
      apply omv; rfl; rfl
      apply oas; rfl; rfl
      apply OL.nx
      apply W.seq
      apply W.regd0; decide +kernel; kernel_rfl; decide +kernel; exact fun w hw => hw.drew
      apply qfa; rfl; rfl; rfl
      apply qld; rfl; rfl; exact .head _; rfl; rfl
      apply qbn; rfl; rfl; rfl; apply Bin.eql
      apply qmv; rfl; rfl
      apply qy; rfl; rfl; rfl; apply Pev.move; rfl; exact yes
      apply qy; rfl; rfl; rfl; apply Pev.fld; rfl; exact yes; rfl
      apply qy; rfl; rfl; rfl; apply Pev.load_blk; rfl; exact fun h => h; exact .head _; rfl; rfl
      apply qy; rfl; rfl; rfl; apply Pev.move; rfl; exact yes
      apply qy; rfl; rfl; rfl; apply Pev.idx; rfl; exact fun h => h; rfl; exact fun h => h; rfl; rfl; intro hcond; omega
      apply qy; rfl; rfl; rfl; apply Pev.load_kept; rfl; exact fun h => h; exact .head _; rfl; intro hcond; assumption; intro hcond; (rw [add_block]; assumption); intro hcond; exact NotOwned.au
      apply qy; rfl; rfl; rfl; apply Pev.idxI; rfl; exact fun h => h; rfl; exact fun h => h; rfl; intro hcond; omega
      apply qy; rfl; rfl; rfl; apply Pev.fldA; rfl; exact fun h => h; rfl
      apply qy; rfl; rfl; rfl; apply Pev.load_kept; rfl; exact fun h => h; exact .head _; rfl; intro hcond; apply CellsAt.at_ (by assumption) rfl; intro hcond; (simp only [add_block]; assumption); intro hcond; exact NotOwned.au
      apply qy; rfl; rfl; rfl; apply Pev.bin; rfl; exact fun h => h; rfl; exact yes; intro hcond; apply Bin.neq
      apply qop; rfl; apply Pev.pick_and; rfl; exact yes; rfl; exact fun h => h
      apply qmv; rfl; rfl
      apply qno; rfl; rfl; rfl; apply Pev.fld; rfl; exact yes; rfl
      apply qno; rfl; rfl; rfl; apply Pev.load_blk; rfl; exact fun h => h; exact .head _; rfl; rfl
      apply qno; rfl; rfl; rfl; apply Pev.bin; rfl; exact fun h => h; rfl; exact yes; intro hcond; apply Bin.eql
      apply qno; rfl; rfl; rfl; apply Pev.move; rfl; exact fun h => h
      apply QL.op; exact Guard.cyes rfl rfl; rfl; rfl; apply Pev.move; rfl; exact yes
      apply QL.op; exact Guard.cyes rfl rfl; rfl; rfl; apply Pev.bin; rfl; exact fun h => h; rfl; exact yes; intro hcond; apply Bin.gtr
      apply qno; rfl; rfl; rfl; apply Pev.pick_and; rfl; exact fun h => h; rfl; exact fun h => h
      apply qno; rfl; rfl; rfl; apply Pev.move; rfl; exact fun h => h
      apply QL.op; exact Guard.cyes rfl rfl; rfl; rfl; apply Pev.fld; rfl; exact yes; rfl
      apply QL.op; exact Guard.cyes rfl rfl; rfl; rfl; apply Pev.load_blk; rfl; exact fun h => h; exact .head _; rfl; rfl
      apply QL.op; exact Guard.cyes rfl rfl; rfl; rfl; apply Pev.move; rfl; exact yes
      apply QL.gateOff; exact Guard.cyes rfl rfl; (simp; omega); rfl
      apply QL.gateOff; exact Guard.cyes rfl rfl; (simp; omega); rfl
      apply QL.op; exact Guard.cyes rfl rfl; rfl; rfl; apply Pev.fld; rfl; exact yes; rfl
      apply QL.op; exact Guard.cyes rfl rfl; rfl; rfl; apply Pev.load_blk; rfl; exact fun h => h; exact .head _; rfl; rfl
      apply QL.op; exact Guard.cyes rfl rfl; rfl; rfl; apply Pev.move; rfl; exact yes
      apply QL.op; exact Guard.cyes rfl rfl; rfl; rfl; apply Pev.bin; rfl; exact fun h => h; rfl; exact yes; intro hcond; apply Bin.sub_in; omega
      apply QL.gateOff; exact Guard.cyes rfl rfl; (simp; omega); rfl
      apply QL.gateOff; exact Guard.cyes rfl rfl; (simp; omega); rfl
      apply QL.gateOff; exact Guard.cyes rfl rfl; (simp; omega); rfl
      apply qno; rfl; rfl; rfl; apply Pev.pick_off; rfl; exact fun h => h; (intro hcond; simp; omega); rfl; exact yes
      apply qop; rfl; apply Pev.pick_or; rfl; exact yes; rfl; exact fun h => h
      apply QL.nil
      with_reducible apply At.next
      refine W.cond rfl (fun hb => ?_) (fun hb => ?_)
      · apply W.sr
        apply oas; rfl; rfl
        apply OL.nx
        refine W.rt ?_
        ((with_reducible apply At.fin1); rfl; rfl; intro w' hw')
        exact ⟨by rw [hbad (by rw [hbk]; grind)], by (exact hw'.fr)⟩
      · apply W.skip
        with_reducible apply At.in_normal
        with_reducible apply At.next
        apply W.reg
        apply obn; rfl; rfl; rfl; apply Bin.add_in; omega
        apply omv; rfl; rfl
        apply OL.nil
        exact At.again (i + 1) ⟨by omega, hagain (by first | exact hbk | (rw [hbk]; grind))⟩ (by omega) (by exact Sub.au) (fun w' hw' => hw')
    · by_cases h9 : x.op = 9
      · obtain ⟨ab, vi, hqb, habb, hvi, hci⟩ := h.b.get hil
        have habb : ab.block < w.heap.size := habb
        have e1 : x.binds.getD i 0 = vi := by simp [List.getD, hvi]
        by_cases hi0 : i = 0
        · subst hi0
          have hbk : bindOk (es.map Prod.fst) x 0 = true := by unfold bindOk; grind
          apply W.sk
          apply W.sb
          apply W.sr
          apply omv; rfl; rfl
          apply oas; rfl; rfl
          apply OL.nx
          apply W.seq
          apply W.regd0; decide +kernel; kernel_rfl; decide +kernel; exact fun w hw => hw.drew
          apply qfa; rfl; rfl; rfl
          apply qld; rfl; rfl; exact .head _; rfl; rfl
          apply qbn; rfl; rfl; rfl; apply Bin.eql
          apply qmv; rfl; rfl
          apply qy; rfl; rfl; rfl; apply Pev.move; rfl; exact yes
          apply qy; rfl; rfl; rfl; apply Pev.fld; rfl; exact yes; rfl
          apply qy; rfl; rfl; rfl; apply Pev.load_blk; rfl; exact fun h => h; exact .head _; rfl; rfl
          apply qy; rfl; rfl; rfl; apply Pev.move; rfl; exact yes
          apply QL.gateOff; exact Guard.yes rfl rfl; (simp; omega); rfl
          apply QL.gateOff; exact Guard.yes rfl rfl; (simp; omega); rfl
          apply QL.gateOff; exact Guard.yes rfl rfl; (simp; omega); rfl
          apply QL.gateOff; exact Guard.yes rfl rfl; (simp; omega); rfl
          apply QL.gateOff; exact Guard.yes rfl rfl; (simp; omega); rfl
          apply QL.gateOff; exact Guard.yes rfl rfl; (simp; omega); rfl
          apply qop; rfl; apply Pev.pick_off; rfl; exact yes; (intro hcond; simp; omega); rfl; exact yes
          apply qmv; rfl; rfl
          apply qno; rfl; rfl; rfl; apply Pev.fld; rfl; exact yes; rfl
          apply qno; rfl; rfl; rfl; apply Pev.load_blk; rfl; exact yes; exact .head _; rfl; rfl
          apply qno; rfl; rfl; rfl; apply Pev.bin; rfl; exact yes; rfl; exact yes; intro hcond; apply Bin.eql
          apply qno; rfl; rfl; rfl; apply Pev.move; rfl; exact yes
          apply qy; rfl; rfl; rfl; apply Pev.move; rfl; exact yes
          apply qy; rfl; rfl; rfl; apply Pev.bin; rfl; exact fun h => h; rfl; exact yes; intro hcond; apply Bin.gtr
          apply qno; rfl; rfl; rfl; apply Pev.pick_and; rfl; exact yes; rfl; exact fun h => h
          apply qno; rfl; rfl; rfl; apply Pev.move; rfl; exact yes
          apply qy; rfl; rfl; rfl; apply Pev.fld; rfl; exact yes; rfl
          apply qy; rfl; rfl; rfl; apply Pev.load_blk; rfl; exact fun h => h; exact .head _; rfl; rfl
          apply qy; rfl; rfl; rfl; apply Pev.move; rfl; exact yes
          apply QL.gateOff; exact Guard.yes rfl rfl; (focus (simp; done)); rfl
          apply QL.gateOff; exact Guard.yes rfl rfl; (focus (simp; done)); rfl
          apply qy; rfl; rfl; rfl; apply Pev.fld; rfl; exact yes; rfl
          apply qy; rfl; rfl; rfl; apply Pev.load_blk; rfl; exact fun h => h; exact .head _; rfl; rfl
          apply qy; rfl; rfl; rfl; apply Pev.move; rfl; exact yes
          apply qy; rfl; rfl; rfl; apply Pev.bin; rfl; exact fun h => h; rfl; exact yes; intro hcond; apply Bin.sub_in; omega
          apply QL.gateOff; exact Guard.yes rfl rfl; (focus (simp; done)); rfl
          apply QL.gateOff; exact Guard.yes rfl rfl; (focus (simp; done)); rfl
          apply QL.gateOff; exact Guard.yes rfl rfl; (focus (simp; done)); rfl
          apply qno; rfl; rfl; rfl; apply Pev.pick_off; rfl; exact yes; (focus (intro hcond; simp; done)); rfl; exact yes
          apply qop; rfl; apply Pev.pick_or; rfl; exact yes; rfl; exact yes
          apply QL.nil
          with_reducible apply At.next
          refine W.cond rfl (fun hb => ?_) (fun hb => ?_)
          · apply W.sr
            apply oas; rfl; rfl
            apply OL.nx
            refine W.rt ?_
            ((with_reducible apply At.fin1); rfl; rfl; intro w' hw')
            exact ⟨by rw [hbad (by rw [hbk]; grind)], by (exact hw'.fr)⟩
          · apply W.skip
            with_reducible apply At.in_normal
            with_reducible apply At.next
            apply W.reg
            apply obn; rfl; rfl; rfl; apply Bin.add_in; omega
            apply omv; rfl; rfl
            apply OL.nil
            exact At.again (0 + 1) ⟨by omega, hagain (by first | exact hbk | (rw [hbk]; grind))⟩ (by omega) (by exact Sub.au) (fun w' hw' => hw')
        · obtain ⟨ab2, vm, hqb2, _, hvm, hcm⟩ := h.b.get (i := i - 1) (by omega)
          rw [hqb] at hqb2
          obtain rfl := Option.some.inj hqb2
          have e2 : x.binds.getD (i - 1) 0 = vm := by simp [List.getD, hvm]
          have hbk : bindOk (es.map Prod.fst) x i = decide (vm < vi) := by
            unfold bindOk
            rw [e1, e2]
            grind
          have hcm : w.cell? (ab.add (((i : Int) - 1).toNat * 1)) = some (.int .i64 vm) := by rw [show ((i : Int) - 1).toNat = i - 1 by omega]; exact hcm
          rw [hqb]
          apply W.sk
          apply W.sb
          apply W.sr
          apply omv; rfl; rfl
          apply oas; rfl; rfl
          apply OL.nx
          apply W.seq
          apply W.regd0; decide +kernel; kernel_rfl; decide +kernel; exact fun w hw => hw.drew
          apply qfa; rfl; rfl; rfl
          apply qld; rfl; rfl; exact .head _; rfl; rfl
          apply qbn; rfl; rfl; rfl; apply Bin.eql
          apply qmv; rfl; rfl
          apply qy; rfl; rfl; rfl; apply Pev.move; rfl; exact yes
          apply qy; rfl; rfl; rfl; apply Pev.fld; rfl; exact yes; rfl
          apply qy; rfl; rfl; rfl; apply Pev.load_blk; rfl; exact fun h => h; exact .head _; rfl; rfl
          apply qy; rfl; rfl; rfl; apply Pev.move; rfl; exact yes
          apply QL.gateOff; exact Guard.yes rfl rfl; (simp; omega); rfl
          apply QL.gateOff; exact Guard.yes rfl rfl; (simp; omega); rfl
          apply QL.gateOff; exact Guard.yes rfl rfl; (simp; omega); rfl
          apply QL.gateOff; exact Guard.yes rfl rfl; (simp; omega); rfl
          apply QL.gateOff; exact Guard.yes rfl rfl; (simp; omega); rfl
          apply QL.gateOff; exact Guard.yes rfl rfl; (simp; omega); rfl
          apply qop; rfl; apply Pev.pick_off; rfl; exact yes; (intro hcond; simp; omega); rfl; exact yes
          apply qmv; rfl; rfl
          apply qno; rfl; rfl; rfl; apply Pev.fld; rfl; exact yes; rfl
          apply qno; rfl; rfl; rfl; apply Pev.load_blk; rfl; exact yes; exact .head _; rfl; rfl
          apply qno; rfl; rfl; rfl; apply Pev.bin; rfl; exact yes; rfl; exact yes; intro hcond; apply Bin.eql
          apply qno; rfl; rfl; rfl; apply Pev.move; rfl; exact yes
          apply qy; rfl; rfl; rfl; apply Pev.move; rfl; exact yes
          apply qy; rfl; rfl; rfl; apply Pev.bin; rfl; exact fun h => h; rfl; exact yes; intro hcond; apply Bin.gtr
          apply qno; rfl; rfl; rfl; apply Pev.pick_and; rfl; exact yes; rfl; exact fun h => h
          apply qno; rfl; rfl; rfl; apply Pev.move; rfl; exact yes
          apply qy; rfl; rfl; rfl; apply Pev.fld; rfl; exact yes; rfl
          apply qy; rfl; rfl; rfl; apply Pev.load_blk; rfl; exact fun h => h; exact .head _; rfl; rfl
          apply qy; rfl; rfl; rfl; apply Pev.move; rfl; exact yes
          apply qy; rfl; rfl; rfl; apply Pev.idx; rfl; exact fun h => h; rfl; exact fun h => h; rfl; rfl; intro hcond; omega
          apply qy; rfl; rfl; rfl; apply Pev.load_kept; rfl; exact fun h => h; exact .head _; rfl; intro hcond; assumption; intro hcond; (rw [add_block]; assumption); intro hcond; exact NotOwned.au
          apply qy; rfl; rfl; rfl; apply Pev.fld; rfl; exact yes; rfl
          apply qy; rfl; rfl; rfl; apply Pev.load_blk; rfl; exact fun h => h; exact .head _; rfl; rfl
          apply qy; rfl; rfl; rfl; apply Pev.move; rfl; exact yes
          apply qy; rfl; rfl; rfl; apply Pev.bin; rfl; exact fun h => h; rfl; exact yes; intro hcond; apply Bin.sub_in; omega
          apply qy; rfl; rfl; rfl; apply Pev.idxI; rfl; exact fun h => h; rfl; exact fun h => h; rfl; intro hcond; omega
          apply qy; rfl; rfl; rfl; apply Pev.load_kept; rfl; exact fun h => h; exact .head _; rfl; intro hcond; assumption; intro hcond; (rw [add_block]; assumption); intro hcond; exact NotOwned.au
          apply qy; rfl; rfl; rfl; apply Pev.bin; rfl; exact fun h => h; rfl; exact fun h => h; intro hcond; apply Bin.leq
          apply qno; rfl; rfl; rfl; apply Pev.pick_and; rfl; exact yes; rfl; exact fun h => h
          apply qop; rfl; apply Pev.pick_or; rfl; exact yes; rfl; exact yes
          apply QL.nil
          with_reducible apply At.next
          refine W.cond rfl (fun hb => ?_) (fun hb => ?_)
          · apply W.sr
            apply oas; rfl; rfl
            apply OL.nx
            refine W.rt ?_
            ((with_reducible apply At.fin1); rfl; rfl; intro w' hw')
            exact ⟨by rw [hbad (by rw [hbk]; grind)], by (exact hw'.fr)⟩
          · apply W.skip
            with_reducible apply At.in_normal
            with_reducible apply At.next
            apply W.reg
            apply obn; rfl; rfl; rfl; apply Bin.add_in; omega
            apply omv; rfl; rfl
            apply OL.nil
            exact At.again (i + 1) ⟨by omega, hagain (by first | exact hbk | (rw [hbk]; grind))⟩ (by omega) (by exact Sub.au) (fun w' hw' => hw')
      · have hbk : bindOk (es.map Prod.fst) x i = true := by unfold bindOk; grind
        apply W.sk
        apply W.sb
        apply W.sr
        apply omv; rfl; rfl
        apply oas; rfl; rfl
        apply OL.nx
        apply W.seq
        apply W.regd0; decide +kernel; kernel_rfl; decide +kernel; exact fun w hw => hw.drew
        apply qfa; rfl; rfl; rfl
        apply qld; rfl; rfl; exact .head _; rfl; rfl
        apply qbn; rfl; rfl; rfl; apply Bin.eql
        apply qmv; rfl; rfl
        apply qy; rfl; rfl; rfl; apply Pev.move; rfl; exact yes
        apply qy; rfl; rfl; rfl; apply Pev.fld; rfl; exact yes; rfl
        apply qy; rfl; rfl; rfl; apply Pev.load_blk; rfl; exact fun h => h; exact .head _; rfl; rfl
        apply qy; rfl; rfl; rfl; apply Pev.move; rfl; exact yes
        apply QL.gateOff; exact Guard.yes rfl rfl; (simp; omega); rfl
        apply QL.gateOff; exact Guard.yes rfl rfl; (simp; omega); rfl
        apply QL.gateOff; exact Guard.yes rfl rfl; (simp; omega); rfl
        apply QL.gateOff; exact Guard.yes rfl rfl; (simp; omega); rfl
        apply QL.gateOff; exact Guard.yes rfl rfl; (simp; omega); rfl
        apply QL.gateOff; exact Guard.yes rfl rfl; (simp; omega); rfl
        apply qop; rfl; apply Pev.pick_off; rfl; exact yes; (intro hcond; simp; omega); rfl; exact yes
        apply qmv; rfl; rfl
        apply qno; rfl; rfl; rfl; apply Pev.fld; rfl; exact yes; rfl
        apply qno; rfl; rfl; rfl; apply Pev.load_blk; rfl; exact yes; exact .head _; rfl; rfl
        apply qno; rfl; rfl; rfl; apply Pev.bin; rfl; exact yes; rfl; exact yes; intro hcond; apply Bin.eql
        apply qno; rfl; rfl; rfl; apply Pev.move; rfl; exact yes
        apply qy; rfl; rfl; rfl; apply Pev.move; rfl; exact yes
        apply qy; rfl; rfl; rfl; apply Pev.bin; rfl; exact fun h => h; rfl; exact yes; intro hcond; apply Bin.gtr
        apply qno; rfl; rfl; rfl; apply Pev.pick_and; rfl; exact yes; rfl; exact fun h => h
        apply qno; rfl; rfl; rfl; apply Pev.move; rfl; exact yes
        apply qy; rfl; rfl; rfl; apply Pev.fld; rfl; exact yes; rfl
        apply qy; rfl; rfl; rfl; apply Pev.load_blk; rfl; exact fun h => h; exact .head _; rfl; rfl
        apply qy; rfl; rfl; rfl; apply Pev.move; rfl; exact yes
        apply QL.gateOff; exact Guard.yes rfl rfl; (simp; omega); rfl
        apply QL.gateOff; exact Guard.yes rfl rfl; (simp; omega); rfl
        apply qy; rfl; rfl; rfl; apply Pev.fld; rfl; exact yes; rfl
        apply qy; rfl; rfl; rfl; apply Pev.load_blk; rfl; exact fun h => h; exact .head _; rfl; rfl
        apply qy; rfl; rfl; rfl; apply Pev.move; rfl; exact yes
        apply qy; rfl; rfl; rfl; apply Pev.bin; rfl; exact fun h => h; rfl; exact yes; intro hcond; apply Bin.sub_in; omega
        apply QL.gateOff; exact Guard.yes rfl rfl; (simp; omega); rfl
        apply QL.gateOff; exact Guard.yes rfl rfl; (simp; omega); rfl
        apply QL.gateOff; exact Guard.yes rfl rfl; (simp; omega); rfl
        apply qno; rfl; rfl; rfl; apply Pev.pick_off; rfl; exact yes; (intro hcond; simp; omega); rfl; exact yes
        apply qop; rfl; apply Pev.pick_or; rfl; exact yes; rfl; exact yes
        apply QL.nil
        with_reducible apply At.next
        refine W.cond rfl (fun hb => ?_) (fun hb => ?_)
        · apply W.sr
          apply oas; rfl; rfl
          apply OL.nx
          refine W.rt ?_
          ((with_reducible apply At.fin1); rfl; rfl; intro w' hw')
          exact ⟨by rw [hbad (by rw [hbk]; grind)], by (exact hw'.fr)⟩
        · apply W.skip
          with_reducible apply At.in_normal
          with_reducible apply At.next
          apply W.reg
          apply obn; rfl; rfl; rfl; apply Bin.add_in; omega
          apply omv; rfl; rfl
          apply OL.nil
          exact At.again (i + 1) ⟨by omega, hagain (by first | exact hbk | (rw [hbk]; grind))⟩ (by omega) (by exact Sub.au) (fun w' hw' => hw')
  · obtain rfl : i = x.binds.length := by omega
    have hkb : kidsB (es.map Prod.fst) x = true := all_range hall
    refine W.xt ?_
    with_reducible apply At.next
    apply W.sr
    apply oas; rfl; rfl
    apply OL.nx
    apply W.ret
    ((with_reducible apply At.fin1); rfl; rfl; intro w' hw')
    exact ⟨by rw [hkb], by (exact hw'.fr)⟩
end Go.Proofs.YtlboppiogeaicaaDoor.co
namespace Go.Co
open Go.Eng Go.RowKit
set_option linter.unusedVariables false
set_option linter.unusedSimpArgs false
theorem dep_small {e : List Ex} {P : List Int} (ht : IsTree e) (hP : Parents e P) {i : Nat} (hi : i < e.length) : dep e P i ≤ e.length := by
  obtain ⟨d, hu, hd⟩ := dep_under ht hP hi
  have := hu.le ht.down
  omega
theorem depths_small {e : List Ex} {P : List Int} (ht : IsTree e) (hP : Parents e P) : ∀ {n : Nat}, n ≤ e.length → depths e P n ≤ e.length
  | 0, _ => Nat.zero_le _
  | n + 1, h => by
    rw [depths_succ]
    have := depths_small ht hP (n := n) (by omega)
    have := dep_small ht hP (i := n) (by omega)
    omega
/-- a node's parent, or none -/
theorem Parents.cases {e : List Ex} {P : List Int} (hP : Parents e P) (ht : IsTree e) {c : Nat} (hc : c < e.length) : P[c]? = some (-1) ∨ ∃ p m : Nat, P[c]? = some (p : Int) ∧ c < p ∧ p < e.length ∧ Par e c p m := by
  by_cases h : c + 1 < e.length
  · obtain ⟨p, m, hp⟩ := ht.one c h
    have hl := hp.lt ht.down
    exact .inr ⟨p, m, hP.par c p m hp, hl.1, hl.2, hp⟩
  · rw [show c = e.length - 1 by omega]
    exact .inl hP.root
end Go.Co
namespace Go.Proofs.YtlboppiogeaicaaDoor.co
open Go.RowKit Go.Eng Go.Co
set_option linter.unusedVariables false
set_option linter.unusedSimpArgs false
set_option maxRecDepth 100000
theorem Depth_calls (e : List Ex) (q qp : Option Addr) (cap cp : Nat) (P : List Int) (w : World) (ht : IsTree e) (hP : Parents e P) (hlen : e.length ≤ 4096) (hI : IntsO w (low w) P qp) :
    Calls Tryd.prog 71 [.slice q e.length cap, .slice qp e.length cp].toArray w fun e1 w' => e1 = .returned (.int .i64 (depths e P e.length : Int)) ∧ Ext w w' := by
  refine enter Tryd.func71 rfl Tryd.ntmps71 rfl (Cls.start w) ?_
  (simp only [argEnv, Nat.zero_add, Nat.reduceAdd])
  apply W.sr
  apply oas; rfl; rfl
  apply OL.nsr
  apply oas; rfl; rfl
  apply OL.nx
  apply W.seq
  apply W.sr
  apply omv; rfl; rfl
  apply oop; rfl; apply Pev.len_slice; rfl; exact yes; rfl
  apply omv; rfl; rfl
  apply OL.nx
  apply W.block
  refine W.loop (G := Nat) (fun i => i ≤ e.length) (fun i => e.length - i)
    (fun i => [(1, true, .slice qp e.length cp), (5, true, .int .i64 (depths e P i : Int)), (10, true, .int .i64 (e.length : Int)), (11, true, .int .i64 (i : Int))])
    (fun i => Cls [] [w]) 0 (by omega) (by exact Sub.au) (fun w' hw' => hw') ?_
  rintro i hi
  apply W.sr
  apply obn; rfl; rfl; rfl; apply Bin.lss
  apply OL.nx
  apply W.seq
  (refine W.cnd (fun hlt => ?_) (fun hlt => ?_)) <;> (try (exfalso; first | omega | exact hlt trivial | contradiction))
  · have hil : i < e.length := by omega
    have hdi := dep_small ht hP hil
    have hds := depths_small ht hP hi
    apply W.sk
    apply W.sb
    apply W.sr
    apply omv; rfl; rfl
    apply oas; rfl; rfl
    apply OL.nsr
    apply oas; rfl; rfl
    apply OL.nx
    apply W.seq
    apply W.sr
    apply omv; rfl; rfl
    apply oas; rfl; rfl
    apply OL.nx
    apply W.block
    refine W.loop (G := Int × Nat) (fun g => (g.1 = -1 ∧ g.2 = dep e P i) ∨ (0 ≤ g.1 ∧ g.1.toNat < e.length ∧ g.2 + dep e P g.1.toNat = dep e P i)) (fun g => if g.1 < 0 then 0 else e.length - g.1.toNat)
      (fun g => [(1, true, .slice qp e.length cp), (5, true, .int .i64 (depths e P i : Int)), (7, true, .int .i64 (g.2 : Int)), (8, true, .int .i64 g.1), (10, true, .int .i64 (e.length : Int)), (11, true, .int .i64 (i : Int))])
      (fun i => Cls [] [w]) ((i : Int), 0) (.inr ⟨by simp, by simpa using hil, by simp⟩) (by exact Sub.au) (fun w' hw' => hw') ?_
    rintro ⟨k, n⟩ hk
    simp only at hk ⊢
    apply W.seq
    apply W.sr
    apply omv; rfl; rfl
    apply obn; rfl; rfl; rfl; apply Bin.geq
    apply OL.nx
    (refine W.cnd (fun hk0 => ?_) (fun hk0 => ?_)) <;> (try (exfalso; first | omega | exact hk0 trivial | contradiction))
    · obtain ⟨c, rfl⟩ : ∃ c : Nat, k = (c : Int) := ⟨k.toNat, by omega⟩
      obtain ⟨hc, hn⟩ : c < e.length ∧ n + dep e P c = dep e P i := by
        rcases hk with ⟨h1, _⟩ | ⟨_, h2, h3⟩
        · omega
        · exact ⟨by simpa using h2, by simpa using h3⟩
      obtain ⟨a, u, hq, hab, hu, hcell⟩ := hI.get (i := c) (by rw [hP.len]; exact hc)
      have hab : a.block < w.heap.size := hab
      rw [hq]
      apply W.sk
      apply W.sb
      apply W.reg
      apply omv; rfl; rfl
      apply obn; rfl; rfl; rfl; apply Bin.add_in; omega
      apply oas; rfl; rfl
      apply OL.nil
      with_reducible apply At.in_normal
      with_reducible apply At.next
      apply W.reg
      apply omv; rfl; rfl
      apply omv; rfl; rfl
      apply oop; rfl; apply Pev.idx; rfl; exact yes; rfl; exact yes; rfl; rfl; intro hcond; omega
      apply oop; rfl; apply Pev.load_kept; rfl; exact yes; exact .head _; rfl; intro hcond; assumption; intro hcond; (rw [add_block]; assumption); intro hcond; exact NotOwned.au
      apply oas; rfl; rfl
      apply OL.nil
      rcases hP.cases ht hc with h1 | ⟨p, m, h1, h2, h3, _⟩
      · rw [h1] at hu
        obtain rfl := Option.some.inj hu
        have := dep_root (e := e) h1
        exact At.again (-1, n + 1) (.inl ⟨rfl, by simp only; omega⟩) (by simp only; rw [if_pos (by omega), if_neg (by omega)]; simp; omega) (by exact Sub.au) (fun w' hw' => hw')
      · rw [h1] at hu
        obtain rfl := Option.some.inj hu
        have := dep_up h1 ⟨by omega, by simpa using h2, by simpa using h3⟩
        simp only [Int.toNat_natCast] at this
        exact At.again ((p : Int), n + 1) (.inr ⟨by simp, by simpa using h3, by simp only [Int.toNat_natCast]; omega⟩) (by simp only; rw [if_neg (by omega), if_neg (by omega)]; simp; omega) (by exact Sub.au) (fun w' hw' => hw')
    · have hn : n = dep e P i := by
        rcases hk with ⟨_, h1⟩ | ⟨h1, _⟩
        · exact h1
        · omega
      subst hn
      refine W.xt ?_
      with_reducible apply At.next
      apply W.reg
      apply omv; rfl; rfl
      apply omv; rfl; rfl
      apply oop; rfl; apply Pev.max2; rfl; exact yes; rfl; exact yes
      apply oas; rfl; rfl
      apply OL.nil
      with_reducible apply At.in_normal
      with_reducible apply At.next
      apply W.reg
      apply obn; rfl; rfl; rfl; apply Bin.add_in; omega
      apply omv; rfl; rfl
      apply OL.nil
      rw [maxIf, ← depths_succ]
      skip
      exact At.again (i + 1) (by omega) (by omega) (by exact Sub.au) (fun w' hw' => hw')
  · obtain rfl : i = e.length := by omega
    refine W.xt ?_
    with_reducible apply At.next
    apply W.sr
    apply omv; rfl; rfl
    apply oas; rfl; rfl
    apply OL.nx
    apply W.ret
    ((with_reducible apply At.fin1); rfl; rfl; intro w' hw')
    exact ⟨rfl, by (exact hw'.fr)⟩
theorem binder_calls (es : List (Ex × ExY)) (q qp : Option Addr) (cap cp : Nat) (P : List Int) (at_ : Nat) (x0 : Ex) (w : World) (he : Arr exR w (low w) es q) (hlen : es.length ≤ 4096) (ht : IsTree (es.map Prod.fst)) (hP : Parents (es.map Prod.fst) P) (hI : IntsO w (low w) P qp)
    (hx0 : (es.map Prod.fst)[at_]? = some x0) (hk7 : ∀ p ∈ es, p.1.op = 7 ∨ p.1.op = 13 → p.1.kids.length = 1 + p.1.alts.length) (ha : ∀ p ∈ es, ¬ (p.1.op = 7 ∨ p.1.op = 13) → p.1.alts.length = 0) :
    Calls Tryd.prog 46 [.slice q es.length cap, .slice qp es.length cp, .int .i64 (at_ : Int)].toArray w fun e1 w' => e1 = .returned (.int .i64 (bnd (es.map Prod.fst) P x0.n at_)) ∧ Ext w w' := by
  obtain ⟨e, hee⟩ : ∃ e, es.map Prod.fst = e := ⟨_, rfl⟩
  have hel : e.length = es.length := by rw [← hee, List.length_map]
  rw [hee] at hx0 ht hP ⊢
  have hget : ∀ {i : Nat}, i < es.length → ∃ a p, q = some a ∧ a.block < w.heap.size ∧ es[i]? = some p ∧ e[i]? = some p.1 ∧ CellsAt w (a.add (i * 5)) [.int .i64 p.1.op, .int .i64 p.1.n, .slice p.2.b.1 p.1.binds.length p.2.b.2, .slice p.2.k.1 p.1.kids.length p.2.k.2, .slice p.2.a.1 p.1.alts.length p.2.a.2] ∧ ExOk w (low w) p.1 p.2 := fun {i} hi => by
    obtain ⟨a, p, h1, h2, h3, h4, h5⟩ := he.get hi
    exact ⟨a, p, h1, h2, h3, by rw [← hee, List.getElem?_map, h3]; rfl, h4, h5⟩
  have hat : at_ < es.length := by have := (List.getElem?_eq_some_iff.1 hx0).1; omega
  obtain ⟨a0, p0, hq0, hab0, hp0, hpe0, hcell0, hok0⟩ := hget hat
  rw [hx0] at hpe0
  obtain rfl := Option.some.inj hpe0
  refine enter Tryd.func46 rfl Tryd.ntmps46 rfl (Cls.start w) ?_
  (simp only [argEnv, Nat.zero_add, Nat.reduceAdd])
  apply W.sr
  apply oas; rfl; rfl
  apply OL.nx
  apply W.seq
  apply W.sr
  apply omv; rfl; rfl
  apply oas; rfl; rfl
  apply OL.nx
  apply W.block
  refine W.loop (G := Nat) (fun c => c < es.length ∧ bnd e P p0.1.n c = bnd e P p0.1.n at_) (fun c => es.length - c)
    (fun c => [(0, true, .slice q es.length cap), (1, true, .slice qp es.length cp), (2, true, .int .i64 (at_ : Int)), (7, true, .int .i64 (c : Int))])
    (fun c => Cls [] [w]) at_ ⟨hat, rfl⟩ (by exact Sub.au) (fun w' hw' => hw') ?_
  rintro c ⟨hc, hb⟩
  obtain ⟨a, u, hq, hab, hu, hcell⟩ := hI.get (i := c) (by rw [hP.len]; omega)
  have hab : a.block < w.heap.size := hab
  rw [hq]
  apply W.seq
  apply W.sr
  apply omv; rfl; rfl
  apply omv; rfl; rfl
  apply oop; rfl; apply Pev.idx; rfl; exact yes; rfl; exact yes; rfl; rfl; intro hcond; omega
  apply oop; rfl; apply Pev.load_kept; rfl; exact yes; exact .head _; rfl; intro hcond; assumption; intro hcond; (rw [add_block]; assumption); intro hcond; exact NotOwned.au
  apply obn; rfl; rfl; rfl; apply Bin.geq
  apply OL.nx
  rcases hP.cases ht (c := c) (by omega) with h1 | ⟨p, m0, h1, h2, h3, _⟩
  · rw [h1] at hu
    obtain rfl := Option.some.inj hu
    refine W.cond rfl (fun hb => by cases hb) (fun _ => ?_)
    refine W.xt ?_
    with_reducible apply At.next
    apply W.sr
    apply oas; rfl; rfl
    apply OL.nx
    apply W.ret
    ((with_reducible apply At.fin1); rfl; rfl; intro w' hw')
    exact ⟨by rw [← hb, bnd_root h1], by (exact hw'.fr)⟩
  · rw [h1] at hu
    obtain rfl := Option.some.inj hu
    obtain ⟨a1, x, hq1, hab1, hp1, hpe1, hcell1, hok1⟩ := hget (i := p) (by omega)
    rw [hq0] at hq1
    obtain rfl := Option.some.inj hq1
    have hkl := hok1.kl
    have hup := bnd_up (n := p0.1.n) h1 h2 hpe1
    rw [hq0]
    refine W.cond rfl (fun _ => ?_) (fun hb => by simp at hb)
    apply W.sk
    apply W.sb
    apply W.sr
    apply omv; rfl; rfl
    apply omv; rfl; rfl
    apply oop; rfl; apply Pev.idx; rfl; exact yes; rfl; exact yes; rfl; rfl; intro hcond; omega
    apply oop; rfl; apply Pev.load_kept; rfl; exact yes; exact .head _; rfl; intro hcond; assumption; intro hcond; (rw [add_block]; assumption); intro hcond; exact NotOwned.au
    apply oas; rfl; rfl
    apply OL.nsr
    apply omv; rfl; rfl
    apply omv; rfl; rfl
    apply oop; rfl; apply Pev.idx; rfl; exact yes; rfl; exact yes; rfl; rfl; intro hcond; omega
    apply oop; rfl; apply Pev.fldA; rfl; exact yes; rfl
    apply oop; rfl; apply Pev.load_kept; rfl; exact yes; exact .head _; rfl; intro hcond; apply CellsAt.at_ (by assumption) rfl; intro hcond; (simp only [add_block]; assumption); intro hcond; exact NotOwned.au
    apply oop; rfl; apply Pev.len_slice; rfl; exact yes; rfl
    apply omv; rfl; rfl
    apply OL.nx
    apply W.block
    refine W.loop (G := Nat) (fun m => m ≤ x.1.kids.length ∧ ∀ m', m' < m → hitK x.1 c p0.1.n m' = false) (fun m => x.1.kids.length - m)
      (fun m => [(0, true, .slice (some a0) es.length cap), (1, true, .slice (some a) es.length cp), (2, true, .int .i64 (at_ : Int)), (7, true, .int .i64 (c : Int)), (8, true, .int .i64 (p : Int)), (29, true, .slice x.2.k.1 x.1.kids.length x.2.k.2), (30, true, .int .i64 (x.1.kids.length : Int)), (31, true, .int .i64 (m : Int))])
      (fun m => Cls [] [w]) 0 ⟨by omega, fun m' h => by omega⟩ (by exact Sub.au) (fun w' hw' => hw') ?_
    rintro m ⟨hm, hno⟩
    apply W.sr
    apply obn; rfl; rfl; rfl; apply Bin.lss
    apply OL.nx
    apply W.seq
    (refine W.cnd (fun hlt => ?_) (fun hlt => ?_)) <;> (try (exfalso; first | omega | exact hlt trivial | contradiction))
    · have hml : m < x.1.kids.length := by omega
      obtain ⟨ak, k, hqk, habk, hk, hck⟩ := hok1.k.get hml
      have habk : ak.block < w.heap.size := habk
      have hxm := List.mem_of_getElem? hp1
      rw [hqk]
      by_cases hkc : k = (c : Int)
      · subst hkc
        obtain ⟨qs, cs, hIs, hsl, hcall⟩ := Scope_calls x.1 x.2 m w hok1 (fun h7 => by have := hk7 x hxm h7; omega) (ha x hxm) (by omega)
        simp only [exC] at hcall
        have hhk : hitK x.1 c p0.1.n m = decide (p0.1.n ∈ scopeX x.1 m) := by unfold hitK; rw [hk]; simp
        apply W.sk
        apply W.sb
        apply W.sr
        apply omv; rfl; rfl
        apply oop; rfl; apply Pev.idx; rfl; exact yes; rfl; exact yes; rfl; rfl; intro hcond; omega
        apply oop; rfl; apply Pev.load_kept; rfl; exact yes; exact .head _; rfl; intro hcond; assumption; intro hcond; (rw [add_block]; assumption); intro hcond; exact NotOwned.au
        apply oas; rfl; rfl
        apply oas; rfl; rfl
        apply OL.nx
        apply W.seq
        apply W.regd0; decide +kernel; kernel_rfl; decide +kernel; exact fun w hw => hw.drew
        apply qmv; rfl; rfl
        apply qmv; rfl; rfl
        apply qbn; rfl; rfl; rfl; apply Bin.eql
        apply qmv; rfl; rfl
        apply qy; rfl; rfl; rfl; apply Pev.move; rfl; exact yes
        apply qy; rfl; rfl; rfl; apply Pev.move; rfl; exact yes
        apply qy; rfl; rfl; rfl; apply Pev.idx; rfl; exact fun h => h; rfl; exact fun h => h; rfl; rfl; intro hcond; omega
        apply qy; rfl; rfl; rfl; apply Pev.load_keptA; rfl; exact fun h => h; exact .head _; rfl; intro hcond; assumption; rfl; intro hcond; (rw [add_block]; assumption); intro hcond; exact NotOwned.au
        apply qy; rfl; rfl; rfl; apply Pev.move; rfl; exact yes
        (((first | (with_reducible apply OL.op) | (with_reducible apply QL.op)); (exact Guard.au); rfl; rfl); (exact Pev.call rfl (by exact Args.au) (fun _ w2 hw2 => (hcall w2 (hw2.same (.head _) (fun k hk => by exact NotOwned.au)) (hw2.kp w (by exact mau)).size).mono (fun e w3 h => ⟨h.1, hw2.ext h.2⟩))))
        apply qy; rfl; rfl; rfl; apply Pev.move; rfl; exact yes
        apply qy; rfl; rfl; rfl; apply Pev.move; rfl; exact yes
        apply qy; rfl; rfl; rfl; apply Pev.idx; rfl; exact fun h => h; rfl; exact fun h => h; rfl; rfl; intro hcond; omega
        apply qy; rfl; rfl; rfl; apply Pev.fldA; rfl; exact fun h => h; rfl
        apply qy; rfl; rfl; rfl; apply Pev.load_kept; rfl; exact fun h => h; exact .head _; rfl; intro hcond; apply CellsAt.at_ (by assumption) rfl; intro hcond; (simp only [add_block]; assumption); intro hcond; exact NotOwned.au
        (((first | (with_reducible apply OL.op) | (with_reducible apply QL.op)); (exact Guard.au); rfl; rfl); (exact Pev.call rfl (by exact Args.au) (fun _ w2 hw2 => (In_calls qs cs (scopeX x.1 m) p0.1.n w2 (by omega) (hIs.at hw2 (by exact mau) (fun k hk => by exact NotOwned.au))).mono (fun e w3 h => ⟨h.1, hw2.ext h.2⟩))))
        apply qop; rfl; apply Pev.pick_and; rfl; exact yes; rfl; exact fun h => h
        apply QL.nil
        with_reducible apply At.next
        refine W.cond rfl (fun hb2 => ?_) (fun hb2 => ?_)
        · have hin : p0.1.n ∈ scopeX x.1 m := by simpa using hb2
          apply W.sr
          apply omv; rfl; rfl
          apply oas; rfl; rfl
          apply OL.nx
          refine W.rt ?_
          ((with_reducible apply At.fin1); rfl; rfl; intro w' hw')
          refine ⟨?_, by (exact hw'.fr)⟩
          have hh : hit x.1 c p0.1.n = true := by
            unfold hit
            rw [List.any_eq_true]
            exact ⟨m, List.mem_range.2 hml, by rw [hhk]; simpa using hin⟩
          rw [← hb, hup, if_pos hh]
        · have hnin : ¬ p0.1.n ∈ scopeX x.1 m := by simpa using hb2
          apply W.skip
          with_reducible apply At.in_normal
          with_reducible apply At.next
          apply W.reg
          apply obn; rfl; rfl; rfl; apply Bin.add_in; omega
          apply omv; rfl; rfl
          apply OL.nil
          refine At.again (m + 1) ⟨by omega, fun m' hm' => ?_⟩ (by omega) (by exact Sub.au) (fun w' hw' => hw')
          by_cases em : m' = m
          · subst em
            rw [hhk]
            simpa using hnin
          · exact hno m' (by omega)
      · apply W.sk
        apply W.sb
        apply W.sr
        apply omv; rfl; rfl
        apply oop; rfl; apply Pev.idx; rfl; exact yes; rfl; exact yes; rfl; rfl; intro hcond; omega
        apply oop; rfl; apply Pev.load_kept; rfl; exact yes; exact .head _; rfl; intro hcond; assumption; intro hcond; (rw [add_block]; assumption); intro hcond; exact NotOwned.au
        apply oas; rfl; rfl
        apply oas; rfl; rfl
        apply OL.nx
        apply W.seq
        apply W.regd0; decide +kernel; kernel_rfl; decide +kernel; exact fun w hw => hw.drew
        apply qmv; rfl; rfl
        apply qmv; rfl; rfl
        apply qbn; rfl; rfl; rfl; apply Bin.eql
        apply qmv; rfl; rfl
        apply qy; rfl; rfl; rfl; apply Pev.move; rfl; exact yes
        apply qy; rfl; rfl; rfl; apply Pev.move; rfl; exact yes
        apply qy; rfl; rfl; rfl; apply Pev.idx; rfl; exact fun h => h; rfl; exact fun h => h; rfl; rfl; intro hcond; omega
        apply qy; rfl; rfl; rfl; apply Pev.load_keptA; rfl; exact fun h => h; exact .head _; rfl; intro hcond; assumption; rfl; intro hcond; (rw [add_block]; assumption); intro hcond; exact NotOwned.au
        apply qy; rfl; rfl; rfl; apply Pev.move; rfl; exact yes
        apply QL.gateOff; exact Guard.yes rfl rfl; (simp; omega); rfl
        apply qy; rfl; rfl; rfl; apply Pev.move; rfl; exact yes
        apply qy; rfl; rfl; rfl; apply Pev.move; rfl; exact yes
        apply qy; rfl; rfl; rfl; apply Pev.idx; rfl; exact fun h => h; rfl; exact fun h => h; rfl; rfl; intro hcond; omega
        apply qy; rfl; rfl; rfl; apply Pev.fldA; rfl; exact fun h => h; rfl
        apply qy; rfl; rfl; rfl; apply Pev.load_kept; rfl; exact fun h => h; exact .head _; rfl; intro hcond; apply CellsAt.at_ (by assumption) rfl; intro hcond; (simp only [add_block]; assumption); intro hcond; exact NotOwned.au
        apply QL.gateOff; exact Guard.yes rfl rfl; (simp; omega); rfl
        apply qop; rfl; apply Pev.pick_off; rfl; exact yes; (intro hcond; simp; omega); rfl; exact yes
        apply QL.nil
        with_reducible apply At.next
        refine W.cond rfl (fun hb2 => by simp [hkc] at hb2) (fun hb2 => ?_)
        apply W.skip
        with_reducible apply At.in_normal
        with_reducible apply At.next
        apply W.reg
        apply obn; rfl; rfl; rfl; apply Bin.add_in; omega
        apply omv; rfl; rfl
        apply OL.nil
        refine At.again (m + 1) ⟨by omega, fun m' hm' => ?_⟩ (by omega) (by exact Sub.au) (fun w' hw' => hw')
        by_cases em : m' = m
        · subst em
          unfold hitK
          rw [hk]
          simp [hkc]
        · exact hno m' (by omega)
    · obtain rfl : m = x.1.kids.length := by omega
      have hh : ¬ hit x.1 c p0.1.n = true := by
        unfold hit
        rw [List.any_eq_true]
        rintro ⟨m', h4, h5⟩
        rw [hno m' (List.mem_range.1 h4)] at h5
        cases h5
      rw [if_neg hh] at hup
      refine W.xt ?_
      with_reducible apply At.in_normal
      with_reducible apply At.next
      apply W.reg
      apply omv; rfl; rfl
      apply omv; rfl; rfl
      apply oop; rfl; apply Pev.idx; rfl; exact yes; rfl; exact yes; rfl; rfl; intro hcond; omega
      apply oop; rfl; apply Pev.load_kept; rfl; exact yes; exact .head _; rfl; intro hcond; assumption; intro hcond; (rw [add_block]; assumption); intro hcond; exact NotOwned.au
      apply oas; rfl; rfl
      apply OL.nil
      refine At.again p ⟨by omega, by rw [← hb, hup]⟩ (by omega) (by exact Sub.au) (fun w' hw' => hw')
end Go.Proofs.YtlboppiogeaicaaDoor.co
namespace Go.Co
open Go.Eng Go.RowKit
set_option linter.unusedVariables false
set_option linter.unusedSimpArgs false
theorem IntsO.part {w w' : World} {lo : Nat} {l : List Int} {q : Option Addr} {H : List Eng.Item} {S : List World} (h : IntsO w (fun k => lo ≤ k ∧ k < w.heap.size) l q) (hw : Cls H S w') (hs : w ∈ S) (hno : ∀ k, lo ≤ k → NotOwned H k) : IntsO w' (low w') l q :=
  IntsO.mono (fun k hk => Nat.lt_of_lt_of_le hk.2 (hw.kp w hs).size) (IntsO.stab (fun k hk => (hw.kp w hs).block k hk.2 (hno k hk.1).not) h)
theorem IntsO.take {w : World} {O : Nat → Prop} {l : List Int} {q : Option Addr} (h : IntsO w O l q) (i : Nat) : IntsO w O (l.take i) q := fun hl => by
  rw [List.length_take] at hl
  obtain ⟨a, h1, h2, h3⟩ := h (by omega)
  refine ⟨a, h1, h2, fun j v hj => ?_⟩
  unfold ints at hj
  rw [List.map_take] at hj
  by_cases hji : j < i
  · rw [List.getElem?_take_of_lt hji] at hj
    exact h3 j v hj
  · rw [List.getElem?_eq_none (by rw [List.length_take]; omega)] at hj
    cases hj
theorem oneR_zero {e : List Ex} {flat : Bool} {x : Ex} (h : oneE e flat x = 0) : nodeE e x = 0 := by
  unfold oneE at h
  split at h
  · omega
  · exact h
theorem shape_kids {x : Ex} (h : shapeB x = true) : (x.op = 7 ∨ x.op = 13 → x.kids.length = 1 + x.alts.length) ∧ (¬ (x.op = 7 ∨ x.op = 13) → x.alts.length = 0) ∧ (x.op = 5 → x.kids.length = x.binds.length + 1) := by
  unfold shapeB at h
  by_cases h7 : x.op = 7 ∨ x.op = 13
  · rw [if_pos h7] at h
    simp only [Bool.and_eq_true, altsB, decide_eq_true_eq] at h
    exact ⟨fun _ => h.1.1.1.2, fun h8 => absurd h7 h8, fun h5 => by omega⟩
  · rw [if_neg h7] at h
    split at h
    · cases h
    · rename_i k b u hs
      simp only [Bool.and_eq_true, decide_eq_true_eq] at h
      refine ⟨fun h8 => absurd h8 h7, fun _ => h.1.2, fun h5 => ?_⟩
      unfold sh at hs
      simp [h5] at hs
      omega
theorem free_ok {e : List Ex} {P : List Int} {ps : List Int} (ht : IsTree e) (hP : Parents e P) (h0 : 0 < e.length) (h : ∀ (j : Nat) (x : Ex), e[j]? = some x → x.op = 0 → bnd e P x.n j < 0 → x.n ∈ ps) : ∀ n ∈ fv (grow e (e.length - 1)) [], n ∈ ps := fun n hn => by
  obtain ⟨j, x, sc, h1, h2, h3, h4, h5⟩ := (mem_fv ht.down (e.length - 1) (by omega) []).1 hn
  subst h3
  refine h j x h1 h2 ((bnd_neg ht hP x.n (List.getElem?_eq_some_iff.1 h1).1).2 fun sc2 hu => ?_)
  rw [Under.uniq ht hu h4]
  simpa using h5
theorem free_bad {e : List Ex} {P : List Int} (ht : IsTree e) (hP : Parents e P) (h0 : 0 < e.length) {j : Nat} {x : Ex} (hx : e[j]? = some x) (hop : x.op = 0) (hb : bnd e P x.n j < 0) : x.n ∈ fv (grow e (e.length - 1)) [] := by
  have hj := (List.getElem?_eq_some_iff.1 hx).1
  obtain ⟨sc, hu⟩ := ht.root hj
  exact (mem_fv ht.down (e.length - 1) (by omega) []).2 ⟨j, x, sc, hx, hop, rfl, hu, by simpa using (bnd_neg ht hP x.n hj).1 hb sc hu⟩
theorem treeE_tree {e : List Ex} (h : e.length ≤ 4096) (hg : TreeP e) : treeE e = if 400 < high (grow e (e.length - 1)) then 2 else 0 := treeE_ok h hg.1 hg.2.1 hg.2.2
theorem binders_small {l : List Ex} (h : ∀ x ∈ l, Lim x) : (l.flatMap bindersX).length ≤ l.length * 65552 := by
  induction l with
  | nil => simp
  | cons x r ih =>
    have h1 := h x (.head _)
    have h2 := ih fun y hy => h y (.tail _ hy)
    have h3 := flat_len h1.ab
    have h4 := h1.a
    have h5 := h1.b
    have h6 : (bindersX x).length ≤ 65552 := by
      unfold bindersX
      have h8 : (if x.op = 2 ∨ x.op = 4 ∨ x.op = 5 then x.binds else []).length ≤ x.binds.length := by split <;> simp
      rw [List.length_append]
      omega
    rw [List.flatMap_cons, List.length_append, List.length_cons]
    omega
end Go.Co
namespace Go.Proofs.YtlboppiogeaicaaDoor.co
open Go.RowKit Go.Eng Go.Co
set_option linter.unusedVariables false
set_option linter.unusedSimpArgs false
set_option maxRecDepth 100000
theorem BodyFault_calls (es : List (Ex × ExY)) (q qp : Option Addr) (cap cp : Nat) (ps : List Int) (flat : Bool) (w : World) (he : Arr exR w (low w) es q) (hlen : es.length ≤ 9223372036854775807) (hp : IntsO w (low w) ps qp) (hpl : ps.length ≤ 4096) :
    Calls Tryd.prog 38 [.slice q es.length cap, .slice qp ps.length cp, .bool flat].toArray w fun e w' => e = .returned (.int .i64 (bodyE (es.map Prod.fst) ps flat)) ∧ Ext w w' := by
  obtain ⟨e, hee⟩ : ∃ e, es.map Prod.fst = e := ⟨_, rfl⟩
  have hel : e.length = es.length := by rw [← hee, List.length_map]
  rw [hee]
  refine enter Tryd.func38 rfl Tryd.ntmps38 rfl (Cls.start w) ?_
  (simp only [argEnv, Nat.zero_add, Nat.reduceAdd])
  apply W.sr
  apply oas; rfl; rfl
  apply OL.nx
  apply W.seq
  apply W.sr
  apply omv; rfl; rfl
  apply oop; rfl; apply Pev.len_slice; rfl; exact yes; rfl
  apply obn; rfl; rfl; rfl; apply Bin.gtr
  apply OL.nx
  (refine W.cnd (fun hbig => ?_) (fun hbig => ?_)) <;> (try (exfalso; first | omega | exact hbig trivial | contradiction))
  · apply W.sr
    apply oas; rfl; rfl
    apply OL.nx
    refine W.rt ?_
    ((with_reducible apply At.fin1); rfl; rfl; intro w' hw')
    have h2 := treeE_big (e := e) (by omega)
    exact ⟨by rw [bodyE_tree (by rw [h2]; simp), h2], by (exact hw'.fr)⟩
  have hl4 : es.length ≤ 4096 := by omega
  apply W.sk
  apply W.sr
  apply omv; rfl; rfl
  refine OL.callE (α := Option Addr × Nat × Nat × Bool × World) (fun z => .tuple #[.slice z.1 z.2.1 z.2.2.1, .bool z.2.2.2.1]) (fun z => (z.2.2.2.1 = true ↔ TreeP e) ∧ (z.2.2.2.1 = true → z.2.1 = es.length ∧ ∃ P, Parents e P ∧ IntsO z.2.2.2.2 (low z.2.2.2.2) P z.1) ∧ w.heap.size ≤ z.2.2.2.2.heap.size) (fun z => Cls [] [z.2.2.2.2, w]) rfl rfl (by exact Args.au) (fun w2 hw2 => (parentsOf_calls es q cap w2 (he.at hw2 (by exact mau) (fun k hk => by exact NotOwned.au)) hl4).mono (fun e1 w3 ⟨q', n, c, b, h1, h2, h3, h4⟩ => ⟨(q', n, c, b, w3), h1, ⟨by rw [hee] at h3; exact h3, by rw [hee] at h4; exact h4, Nat.le_trans (hw2.kp w (by exact mau)).size h2.size⟩, (hw2.ext h2).note⟩)) ?_
  rintro ⟨qr, n, cr, b, w1⟩ ⟨hbt, hbP, hsz1⟩
  simp only at hbt hbP hsz1 ⊢
  apply omv; rfl; rfl
  apply oex; rfl; rfl; rfl
  apply oex; rfl; rfl; rfl
  apply oas; rfl; rfl
  apply oas; rfl; rfl
  apply OL.nx
  apply W.seq
  apply W.sr
  apply omv; rfl; rfl
  apply oop; rfl; apply Pev.not; rfl; exact yes
  apply OL.nx
  (refine W.cnd (fun hnt => ?_) (fun hnt => ?_)) <;> (try (exfalso; first | omega | exact hnt trivial | contradiction))
  · have hnot : ¬ TreeP e := fun h => by have := hbt.2 h; simp_all
    have h3 : treeE e = 3 := treeE_bad (by omega) hnot
    apply W.sr
    apply oas; rfl; rfl
    apply OL.nx
    refine W.rt ?_
    ((with_reducible apply At.fin1); rfl; rfl; intro w' hw')
    exact ⟨by rw [bodyE_tree (by rw [h3]; simp), h3], by (exact hw'.fr)⟩
  have hb1 : b = true := by simpa using hnt
  have hT : TreeP e := hbt.1 hb1
  obtain ⟨rfl, P, hP, hPI⟩ := hbP hb1
  have ht := hT.tree
  have hpos := hT.1
  have hte := treeE_tree (by omega) hT
  rw [← depths_high ht hP hpos] at hte
  apply W.sk
  apply W.seq
  apply W.sr
  apply omv; rfl; rfl
  apply omv; rfl; rfl
  (((first | (with_reducible apply OL.op) | (with_reducible apply QL.op)); (exact Guard.au); rfl; rfl); (refine Pev.call (v := .int .i64 (depths e P e.length : Int)) rfl (by exact Args.au) (fun _ w2 hw2 => ?_)))
  · have h5 := Depth_calls e q qr cap cr P w2 ht hP (by omega) (hPI.at hw2 (by exact mau) (fun k hk => by exact NotOwned.au))
    rw [hel] at h5 ⊢
    exact h5.mono (fun e w3 h => ⟨h.1, hw2.ext h.2⟩)
  apply obn; rfl; rfl; rfl; apply Bin.gtr
  apply OL.nx
  (refine W.cnd (fun hdeep => ?_) (fun hdeep => ?_)) <;> (try (exfalso; first | omega | exact hdeep trivial | contradiction))
  · rw [if_pos (by omega)] at hte
    apply W.sr
    apply oas; rfl; rfl
    apply OL.nx
    refine W.rt ?_
    ((with_reducible apply At.fin1); rfl; rfl; intro w' hw')
    exact ⟨by rw [bodyE_tree (by rw [hte]; simp), hte], by (exact hw'.fr)⟩
  rw [if_neg (by omega)] at hte
  have hkd : ∀ p ∈ es, ∀ k ∈ p.1.kids, 0 ≤ k ∧ k < (es.length : Int) := fun p hp k hk => by
    obtain ⟨i, hi⟩ := List.getElem?_of_mem hp
    have hx : e[i]? = some p.1 := by rw [← hee, List.getElem?_map, hi]; rfl
    have := ht.down i p.1 hx k hk
    have := (List.getElem?_eq_some_iff.1 hx).1
    omega
  apply W.sk
  apply W.seq
  apply W.sr
  apply omv; rfl; rfl
  apply oop; rfl; apply Pev.len_slice; rfl; exact yes; rfl
  apply omv; rfl; rfl
  apply OL.nx
  apply W.block
  refine W.loop (G := Nat) (fun i => i ≤ es.length ∧ firstE (oneE e flat) (e.drop i) = firstE (oneE e flat) e) (fun i => es.length - i)
    (fun i => [(0, true, .slice q es.length cap), (1, true, .slice qp ps.length cp), (2, true, .bool flat), (7, true, .slice qr es.length cr), (33, true, .slice q es.length cap), (34, true, .int .i64 (es.length : Int)), (35, true, .int .i64 (i : Int))])
    (fun i => Cls [] [w1, w]) 0 ⟨by omega, rfl⟩ (by exact Sub.au) (fun w' hw' => hw') ?_
  rintro i ⟨hi, hrest⟩
  apply W.sr
  apply obn; rfl; rfl; rfl; apply Bin.lss
  apply OL.nx
  apply W.seq
  (refine W.cnd (fun hlt => ?_) (fun hlt => ?_)) <;> (try (exfalso; first | omega | exact hlt trivial | contradiction))
  · have hil : i < es.length := by omega
    obtain ⟨a, p, rfl, hab, hpi, hcell, hok⟩ := he.get hil
    have hab : a.block < w.heap.size := hab
    have hcell : CellsAt w (a.add (i * 5)) [.int .i64 p.1.op, .int .i64 p.1.n, .slice p.2.b.1 p.1.binds.length p.2.b.2, .slice p.2.k.1 p.1.kids.length p.2.k.2, .slice p.2.a.1 p.1.alts.length p.2.a.2] := hcell
    have hx : e[i]? = some p.1 := by rw [← hee, List.getElem?_map, hpi]; rfl
    rw [firstE_drop hx] at hrest
    have hone : oneE e flat p.1 = oneR e flat p.1 := (oneR_eq e flat p.1).symm
    apply W.sk
    apply W.sb
    apply W.sr
    apply oop; rfl; apply Pev.idx; rfl; exact yes; rfl; exact yes; rfl; rfl; intro hcond; omega
    apply oop; rfl; apply Pev.load_keptA; rfl; exact yes; exact .tail _ (.head _); rfl; intro hcond; assumption; rfl; intro hcond; (rw [add_block]; assumption); intro hcond; exact NotOwned.au
    apply OL.alloc; rfl; rfl; exact CellsL.agg; (intro bk hbk; simp only [AllLe, and_true] at hbk)
    apply OL.storeB; rfl; rfl; exact CellsL.agg; rfl; rfl; rfl; exact Swap.au; exact Put.au
    apply OL.nx
    apply W.seq
    apply W.sr
    apply omv; rfl; rfl
    apply oop; rfl; apply Pev.load_blkA; rfl; exact yes; exact .head _; rfl; exact Take.au
    apply omv; rfl; rfl
    (((first | (with_reducible apply OL.op) | (with_reducible apply QL.op)); (exact Guard.au); rfl; rfl); (exact Pev.call rfl (by exact Args.au) (fun _ w2 hw2 => (goodForm_calls es (some a) cap p.1 p.2 flat w2 (hok.at hw2 (by exact mau) (fun k hk => by exact NotOwned.au))).mono (fun e w3 h => ⟨h.1, hw2.ext h.2⟩))))
    apply oop; rfl; apply Pev.not; rfl; exact yes
    apply OL.nx
    (refine W.cnd (fun hgf => ?_) (fun hgf => ?_)) <;> (try (exfalso; first | omega | exact hgf trivial | contradiction))
    · have h3 : oneE e flat p.1 = 3 := by rw [hone]; unfold oneR; rw [if_pos (by cases h1 : flatBad flat p.1.op <;> cases h2 : formR p.1 <;> simp_all)]
      rw [h3] at hrest
      apply W.sr
      apply oas; rfl; rfl
      apply OL.nx
      refine W.rt ?_
      ((with_reducible apply At.fin1); rfl; rfl; intro w' hw')
      exact ⟨by rw [bodyE_one hte (by rw [← hrest]; simp), ← hrest]; simp, by (exact hw'.fr)⟩
    have hgf' : (!flatBad flat p.1.op && formR p.1) = true := by cases h1 : flatBad flat p.1.op <;> cases h2 : formR p.1 <;> simp_all
    have hsh : shapeB p.1 = true := by rw [← formR_eq]; exact (Bool.and_eq_true _ _ ▸ hgf' : _ ∧ _).2
    have hskk := shape_kids hsh
    apply W.sk
    apply W.seq
    apply W.sr
    apply oop; rfl; apply Pev.load_blkA; rfl; exact yes; exact .head _; rfl; exact Take.au
    (((first | (with_reducible apply OL.op) | (with_reducible apply QL.op)); (exact Guard.au); rfl; rfl); (exact Pev.call rfl (by exact Args.au) (fun _ w2 hw2 => (numbersError_calls p.1 p.2 w2 (hok.at hw2 (by exact mau) (fun k hk => by exact NotOwned.au))).mono (fun e w3 h => ⟨h.1, hw2.ext h.2⟩))))
    apply oas; rfl; rfl
    apply OL.nsr
    apply omv; rfl; rfl
    apply obn; rfl; rfl; rfl; apply Bin.neq
    apply OL.nx
    (refine W.cnd (fun hne => ?_) (fun hne => ?_)) <;> (try (exfalso; first | omega | exact hne trivial | contradiction))
    · have h3 : oneE e flat p.1 = numE p.1 := by rw [hone]; unfold oneR; rw [if_neg (by rw [hgf']; simp), if_pos (by simpa using hne)]
      rw [h3, if_neg (by simpa using hne)] at hrest
      apply W.sr
      apply omv; rfl; rfl
      apply oas; rfl; rfl
      apply OL.nx
      refine W.rt ?_
      ((with_reducible apply At.fin1); rfl; rfl; intro w' hw')
      exact ⟨by rw [bodyE_one hte (by rw [← hrest]; simpa using hne), ← hrest], by (exact hw'.fr)⟩
    apply W.sk
    apply W.sr
    apply omv; rfl; rfl
    apply oop; rfl; apply Pev.load_blkA; rfl; exact yes; exact .head _; rfl; exact Take.au
    (((first | (with_reducible apply OL.op) | (with_reducible apply QL.op)); (exact Guard.au); rfl; rfl); (exact Pev.call rfl (by exact Args.au) (fun _ w2 hw2 => (goodKids_calls es (some a) cap p.1 p.2 w2 (hok.at hw2 (by exact mau) (fun k hk => by exact NotOwned.au)) (he.at hw2 (by exact mau) (fun k hk => by exact NotOwned.au)) hl4 (hkd p (List.mem_of_getElem? hpi)) hskk.2.2).mono (fun e w3 h => ⟨h.1, hw2.ext h.2⟩))))
    rw [hee]
    apply oop; rfl; apply Pev.not; rfl; exact yes
    apply OL.nx
    (refine W.cnd (fun hgk => ?_) (fun hgk => ?_)) <;> (try (exfalso; first | omega | exact hgk trivial | contradiction))
    · have h3 : oneE e flat p.1 = 3 := by rw [hone]; unfold oneR; rw [if_neg (by rw [hgf']; simp), if_neg (by simpa using hne), if_pos (by simpa using hgk)]
      rw [h3] at hrest
      apply W.sr
      apply oas; rfl; rfl
      apply OL.nx
      refine W.rt ?_
      ((with_reducible apply At.fin1); rfl; rfl; intro w' hw')
      exact ⟨by rw [bodyE_one hte (by rw [← hrest]; simp), ← hrest]; simp, by (exact hw'.fr)⟩
    have h3 : oneE e flat p.1 = 0 := by rw [hone]; unfold oneR; rw [if_neg (by rw [hgf']; simp), if_neg (by simpa using hne), if_neg (by simpa using hgk)]
    rw [h3, if_pos rfl] at hrest
    apply W.skip
    with_reducible apply At.in_normal
    with_reducible apply At.next
    apply W.reg
    apply obn; rfl; rfl; rfl; apply Bin.add_in; omega
    apply omv; rfl; rfl
    apply OL.nil
    exact At.again (i + 1) ⟨by omega, hrest⟩ (by omega) (by exact Sub.au) (fun w' hw' => hw'.thin (by exact Thin.au))
  obtain rfl : i = es.length := by omega
  rw [← hel, List.drop_length] at hrest
  have hall : firstE (oneE e flat) e = 0 := hrest.symm
  have hzero : ∀ x ∈ e, nodeE e x = 0 ∧ x.kids.length ≤ 4096 := fun x hx => by
    obtain ⟨i, hi⟩ := List.getElem?_of_mem hx
    have h2 := kids_len ht hi
    exact ⟨oneR_zero (firstE_zero.1 hall x hx), by omega⟩
  have hlim : ∀ x ∈ e, Lim x := fun x hx => by
    obtain ⟨h1, h2⟩ := hzero x hx
    obtain ⟨h3, h4⟩ := nodeE_zero h1
    exact lim_of h3 h4 h2
  have hmem : ∀ p ∈ es, p.1 ∈ e := fun p hp => by rw [← hee]; exact List.mem_map_of_mem hp
  have hskk : ∀ p ∈ es, shapeB p.1 = true := fun p hp => (nodeE_zero (hzero p.1 (hmem p hp)).1).1
  clear hrest
  refine W.xt ?_
  with_reducible apply At.next
  apply W.sr
  apply omv; rfl; rfl
  refine OL.cls (C' := Cls [row w1.heap.size (fun _ => False) none 0 0 3 1 []] [w1, w]) (fun w' hw' => hw'.row_nil w1.heap.size 3 1) ?_
  skip
  (apply OL.appendK (news := ints ps)); rfl; rfl; rfl; rfl; (exact Hole.au); (exact fun w2 hw2 => (hp.at hw2 (.tail _ (.head _)) (fun k hk => by exact NotOwned.au)).slAt); (rw [ints_length, Nat.mul_one]); (exact ints_oneL _); (exact ⟨w1, .head _, Nat.le_refl _⟩); (omega); (intro O1 q1 c1)
  simp only [Nat.zero_add, List.nil_append]
  obtain ⟨all, hal⟩ : ∃ f : Nat → List Int, f = fun i => ps ++ (e.take i).flatMap bindersX := ⟨_, rfl⟩
  have hbnd : ∀ i, (all i).length ≤ 4096 + 4096 * 65552 := fun i => by
    have h1 := binders_small (l := e.take i) fun x hx => hlim x (List.mem_of_mem_take hx)
    rw [hal]
    simp only [List.length_append]
    have h2 : (e.take i).length ≤ 4096 := by rw [List.length_take]; omega
    have h3 : (e.take i).length * 65552 ≤ 4096 * 65552 := Nat.mul_le_mul_right _ h2
    omega
  have hall0 : all 0 = ps := by rw [hal]; simp
  have hallE : all es.length = ps ++ e.flatMap bindersX := by rw [hal]; simp only; rw [← hel, List.take_length]
  have hsnoc : ∀ {i : Nat} {x : Ex}, e[i]? = some x → all (i + 1) = all i ++ bindersX x := fun {i x} hx => by
    rw [hal]
    simp only
    rw [List.take_add_one, hx]
    simp
  clear hal
  apply oas; rfl; rfl
  apply OL.nx
  apply W.seq
  apply W.sr
  apply omv; rfl; rfl
  apply oop; rfl; apply Pev.len_slice; rfl; exact yes; rfl
  apply omv; rfl; rfl
  apply OL.nx
  apply W.block
  refine W.loop (G := Nat × GR) (fun g => g.1 ≤ es.length) (fun g => es.length - g.1)
    (fun g => [(0, true, .slice q es.length cap), (1, true, .slice qp ps.length cp), (7, true, .slice qr es.length cr), (12, true, .slice g.2.q (all g.1).length g.2.c), (56, true, .slice q es.length cap), (57, true, .int .i64 (es.length : Int)), (58, true, .int .i64 (g.1 : Int))])
    (fun g => Cls [row w1.heap.size g.2.O g.2.q (all g.1).length g.2.c 3 1 (ints (all g.1))] [w1, w]) (0, ⟨O1, q1, c1⟩) (by simp) (by rw [hall0]; exact Sub.au) (fun w' hw' => by rw [hall0]; exact hw') ?_
  rintro ⟨i, ⟨O2, q2, c2⟩⟩ hi2
  simp only at hi2 ⊢
  apply W.sr
  apply obn; rfl; rfl; rfl; apply Bin.lss
  apply OL.nx
  apply W.seq
  (refine W.cnd (fun hlt2 => ?_) (fun hlt2 => ?_)) <;> (try (exfalso; first | omega | exact hlt2 trivial | contradiction))
  · have hil : i < es.length := by omega
    obtain ⟨a, p, hqa, hab, hpi, hcell, hok⟩ := he.get hil
    have hab : a.block < w.heap.size := hab
    have hcell : CellsAt w (a.add (i * 5)) [.int .i64 p.1.op, .int .i64 p.1.n, .slice p.2.b.1 p.1.binds.length p.2.b.2, .slice p.2.k.1 p.1.kids.length p.2.k.2, .slice p.2.a.1 p.1.alts.length p.2.a.2] := hcell
    have hx : e[i]? = some p.1 := by rw [← hee, List.getElem?_map, hpi]; rfl
    have hL := hlim p.1 (List.mem_of_getElem? hx)
    have hb1 := hbnd i
    have hb2 := hbnd (i + 1)
    rw [hsnoc hx, List.length_append] at hb2
    rw [hqa]
    apply W.sk
    apply W.sb
    apply W.sr
    apply oop; rfl; apply Pev.idx; rfl; exact yes; rfl; exact yes; rfl; rfl; intro hcond; omega
    apply oop; rfl; apply Pev.load_keptA; rfl; exact yes; exact .tail _ (.head _); rfl; intro hcond; assumption; rfl; intro hcond; (rw [add_block]; assumption); intro hcond; exact NotOwned.au
    apply OL.alloc; rfl; rfl; exact CellsL.agg; (intro bk hbk; simp only [AllLe, and_true] at hbk)
    apply OL.storeB; rfl; rfl; exact CellsL.agg; rfl; rfl; rfl; exact Swap.au; exact Put.au
    apply OL.nx
    apply W.reg
    apply omv; rfl; rfl
    apply oop; rfl; apply Pev.load_blkA; rfl; exact yes; exact .head _; rfl; exact Take.au
    refine OL.callE (α := World × Nat × Option Addr × Nat) (fun x => .slice x.2.2.1 (bindersX p.1).length x.2.2.2) (fun x => w1.heap.size ≤ x.1.heap.size ∧ (∀ k, w1.heap.size ≤ k → O2 k → k < x.2.1) ∧ bk < x.2.1 ∧ w1.heap.size ≤ x.2.1 ∧ IntsO x.1 (fun k => x.2.1 ≤ k ∧ k < x.1.heap.size) (bindersX p.1) x.2.2.1) (fun x => Cls [blk bk 28 [.int .i64 p.1.op, .int .i64 p.1.n, .slice p.2.b.1 p.1.binds.length p.2.b.2, .slice p.2.k.1 p.1.kids.length p.2.k.2, .slice p.2.a.1 p.1.alts.length p.2.a.2], row w1.heap.size O2 q2 (all i).length c2 3 1 (ints (all i))] [x.1, w1, w]) rfl rfl (by exact Args.au) (fun w2 hw2 => ?_) ?_
    · have hlt3 := hw2.lt _ (.head _) bk rfl
      have hrow : ∀ k, w1.heap.size ≤ k → O2 k → k < w2.heap.size := fun k h1 h2 => hw2.lt _ (.tail _ (.head _)) k ⟨h1, h2⟩
      have hkw := (hw2.kp w1 (by exact mau)).size
      refine (Binds_calls p.1 p.2 w2 (hok.at hw2 (by exact mau) (fun k hk => by exact NotOwned.au)) hL.b hL.a hL.ab).mono fun e1 w3 ⟨q3, c3, h1, h2, h3, h4⟩ => ?_
      exact ⟨(w3, w2.heap.size, q3, c3), h1, ⟨Nat.le_trans hkw h2.size, hrow, hlt3, hkw, h3⟩, (hw2.ext h2).note⟩
    rintro ⟨w3, lo, q3, c3⟩ ⟨hsz3, hrow, hblo, hwlo, hI3⟩
    simp only at hsz3 hrow hblo hwlo hI3 ⊢
    have hb3 := hsnoc hx
    generalize hbi : bindersX p.1 = bs at *
    (apply OL.appendK (news := ints bs)); rfl; rfl; rfl; rfl; (exact Hole.au); (exact fun w4 hw4 => (hI3.part hw4 (.head _) (fun k hk => NotOwned.blk (by omega) (NotOwned.any (fun hm => by have := hrow k hm.1 hm.2; omega) NotOwned.nil))).slAt); (rw [ints_length, Nat.mul_one]); (exact ints_oneL _); (exact ⟨w1, .tail _ (.head _), Nat.le_refl _⟩); (omega); (intro O4 q4 c4)
    rw [← ints_append, ← List.length_append, ← hb3]
    apply oas; rfl; rfl
    apply OL.nil
    with_reducible apply At.in_normal
    with_reducible apply At.next
    apply W.reg
    apply obn; rfl; rfl; rfl; apply Bin.add_in; omega
    apply omv; rfl; rfl
    apply OL.nil
    refine At.again (i + 1, ⟨O4, q4, c4⟩) (by simp only; omega) (by simp only; omega) (by exact Sub.au) (fun w' hw' => (hw'.forget (by simp)).thin (by exact Thin.au))
  obtain rfl : i = es.length := by omega
  have hb1 := hbnd es.length
  rw [hallE] at hb1 ⊢
  clear hbnd hsnoc hall0
  refine W.exx (X := { x : World // IntsO x (low x) (ps ++ e.flatMap bindersX) q2 ∧ w1.heap.size ≤ x.heap.size ∧ (ps ++ e.flatMap bindersX).length ≤ c2 }) (C' := fun x => Cls [] [x.1, w1, w]) (fun w2 hw2 => ⟨⟨w2, IntsO.mono (fun k hk => hk.2) (rowInts hw2 (.head _) (Nat.le_refl _)), (hw2.kp w1 (by exact mau)).size, row_cap (hw2.item (.head _))⟩, (hw2.thin (Thin.any (fun k hk => ⟨hk.1, Nat.le_trans hsz1 hk.1, trivial⟩) Thin.nil)).note⟩) ?_
  rintro ⟨w5, hI5, hsz5, hcap5⟩
  simp only
  have hbt2 := bodyE_twice (ps := ps) hte hall
  have hbf2 := fun n => bodyE_free (ps := ps) (n := n) hte hall
  have hbo2 := bodyE_ok (ps := ps) hte hall
  generalize ps ++ e.flatMap bindersX = L at *
  refine W.xt ?_
  with_reducible apply At.next
  apply W.seq
  apply W.sr
  apply omv; rfl; rfl
  apply oop; rfl; apply Pev.len_slice; rfl; exact yes; rfl
  apply omv; rfl; rfl
  apply OL.nx
  apply W.block
  refine W.loop (G := Nat) (fun i => i ≤ L.length ∧ (L.take i).Nodup) (fun i => L.length - i)
    (fun i => [(0, true, .slice q es.length cap), (1, true, .slice qp ps.length cp), (7, true, .slice qr es.length cr), (12, true, .slice q2 L.length c2), (67, true, .slice q2 L.length c2), (68, true, .int .i64 (L.length : Int)), (69, true, .int .i64 (i : Int))])
    (fun _ => Cls [] [w5, w1, w]) 0 ⟨by omega, by simp⟩ (by exact Sub.au) (fun w' hw' => hw') ?_
  rintro i ⟨hi, hnd⟩
  apply W.sr
  apply obn; rfl; rfl; rfl; apply Bin.lss
  apply OL.nx
  apply W.seq
  (refine W.cnd (fun hlt3 => ?_) (fun hlt3 => ?_)) <;> (try (exfalso; first | omega | exact hlt3 trivial | contradiction))
  · have hil : i < L.length := by omega
    obtain ⟨a, v, rfl, hab, hv, hcell⟩ := hI5.get hil
    have hab : a.block < w5.heap.size := hab
    have hlT : (L.take i).length = i := by rw [List.length_take]; omega
    have hsplit : L = L.take i ++ v :: L.drop (i + 1) := by
      obtain ⟨h1, rfl⟩ := List.getElem?_eq_some_iff.1 hv
      rw [← List.drop_eq_getElem_cons h1, List.take_append_drop]
    have htake : L.take (i + 1) = L.take i ++ [v] := by rw [List.take_add_one, hv]; rfl
    apply W.sk
    apply W.sb
    apply W.sr
    apply omv; rfl; rfl
    apply oop; rfl; apply Pev.idx; rfl; exact yes; rfl; exact yes; rfl; rfl; intro hcond; omega
    apply oop; rfl; apply Pev.load_kept; rfl; exact yes; exact .head _; rfl; intro hcond; assumption; intro hcond; (rw [add_block]; assumption); intro hcond; exact NotOwned.au
    apply oas; rfl; rfl
    apply oas; rfl; rfl
    apply OL.nsr
    apply omv; rfl; rfl
    apply omv; rfl; rfl
    apply oop; rfl; apply Pev.slice_hi; rfl; exact yes; rfl; exact yes; rfl; rfl; intro hcond; omega
    apply omv; rfl; rfl
    (((first | (with_reducible apply OL.op) | (with_reducible apply QL.op)); (exact Guard.au); rfl; rfl); (refine Pev.call (v := .bool (decide (v ∈ L.take i))) rfl (by exact Args.au) (fun _ w2 hw2 => ?_)))
    · have h5 := In_calls (some a) c2 (L.take i) v w2 (by omega) ((hI5.take i).at hw2 (by exact mau) (fun k hk => by exact NotOwned.au))
      rw [hlT] at h5
      exact h5.mono (fun e w3 h => ⟨h.1, hw2.ext h.2⟩)
    apply OL.nx
    (refine W.cnd (fun hin => ?_) (fun hin => ?_)) <;> (try (exfalso; first | omega | exact hin trivial | contradiction))
    · apply W.sr
      apply oas; rfl; rfl
      apply OL.nx
      refine W.rt ?_
      ((with_reducible apply At.fin1); rfl; rfl; intro w' hw')
      have hnn : ¬ L.Nodup := by
        rw [hsplit]
        exact not_nodup hin
      exact ⟨by rw [hbt2 hnn], by (exact hw'.fr)⟩
    apply W.skip
    with_reducible apply At.in_normal
    with_reducible apply At.next
    apply W.reg
    apply obn; rfl; rfl; rfl; apply Bin.add_in; omega
    apply omv; rfl; rfl
    apply OL.nil
    exact At.again (i + 1) ⟨by omega, by rw [htake]; exact nodup_snoc hnd hin⟩ (by omega) (by exact Sub.au) (fun w' hw' => hw')
  obtain rfl : i = L.length := by omega
  rw [List.take_length] at hnd
  refine W.xt ?_
  with_reducible apply At.next
  apply W.seq
  apply W.sr
  apply omv; rfl; rfl
  apply oop; rfl; apply Pev.len_slice; rfl; exact yes; rfl
  apply omv; rfl; rfl
  apply OL.nx
  apply W.block
  refine W.loop (G := Nat) (fun i => i ≤ es.length ∧ ∀ (j : Nat) (x : Ex), j < i → e[j]? = some x → x.op = 0 → bnd e P x.n j < 0 → x.n ∈ ps) (fun i => es.length - i)
    (fun i => [(0, true, .slice q es.length cap), (1, true, .slice qp ps.length cp), (7, true, .slice qr es.length cr), (80, true, .slice q es.length cap), (81, true, .int .i64 (es.length : Int)), (82, true, .int .i64 (i : Int))])
    (fun _ => Cls [] [w1, w]) 0 ⟨by omega, fun j x hj => by omega⟩ (by exact Sub.au) (fun w' hw' => hw'.forget (by simp)) ?_
  rintro i ⟨hi, hfr⟩
  apply W.sr
  apply obn; rfl; rfl; rfl; apply Bin.lss
  apply OL.nx
  apply W.seq
  (refine W.cnd (fun hlt4 => ?_) (fun hlt4 => ?_)) <;> (try (exfalso; first | omega | exact hlt4 trivial | contradiction))
  · have hil : i < es.length := by omega
    obtain ⟨a, p, hqa, hab, hpi, hcell, hok⟩ := he.get hil
    have hab : a.block < w.heap.size := hab
    have hcell : CellsAt w (a.add (i * 5)) [.int .i64 p.1.op, .int .i64 p.1.n, .slice p.2.b.1 p.1.binds.length p.2.b.2, .slice p.2.k.1 p.1.kids.length p.2.k.2, .slice p.2.a.1 p.1.alts.length p.2.a.2] := hcell
    have hx : e[i]? = some p.1 := by rw [← hee, List.getElem?_map, hpi]; rfl
    rw [hqa]
    apply W.sk
    apply W.sb
    apply W.sr
    apply omv; rfl; rfl
    apply oop; rfl; apply Pev.idx; rfl; exact yes; rfl; exact yes; rfl; rfl; intro hcond; omega
    apply oop; rfl; apply Pev.load_keptA; rfl; exact yes; exact .tail _ (.head _); rfl; intro hcond; assumption; rfl; intro hcond; (rw [add_block]; assumption); intro hcond; exact NotOwned.au
    apply OL.alloc; rfl; rfl; exact CellsL.agg; (intro bk hbk; simp only [AllLe, and_true] at hbk)
    apply oas; rfl; rfl
    apply OL.storeB; rfl; rfl; exact CellsL.agg; rfl; rfl; rfl; exact Swap.au; exact Put.au
    apply OL.nsr
    apply ofa; rfl; rfl; rfl
    apply old; rfl; rfl; exact .head _; rfl; rfl
    apply obn; rfl; rfl; rfl; apply Bin.eql
    apply omv; rfl; rfl
    apply oy; rfl; rfl; rfl; apply Pev.move; rfl; exact yes
    apply oy; rfl; rfl; rfl; apply Pev.move; rfl; exact yes
    apply oy; rfl; rfl; rfl; apply Pev.move; rfl; exact yes
    (((first | (with_reducible apply OL.op) | (with_reducible apply QL.op)); (exact Guard.au); rfl; rfl); (exact Pev.call (v := .int .i64 (bnd e P p.1.n i)) rfl (by exact Args.au) (fun _ w2 hw2 => by
      have h5 := binder_calls es (some a) qr cap cr P i p.1 w2 (hqa ▸ he.at hw2 (by exact mau) (fun k hk => by exact NotOwned.au)) hl4 (by rw [hee]; exact ht) (by rw [hee]; exact hP) (hPI.at hw2 (by exact mau) (fun k hk => by exact NotOwned.au)) (by rw [hee]; exact hx) (fun p hp => (shape_kids (hskk p hp)).1) (fun p hp => (shape_kids (hskk p hp)).2.1)
      rw [hee] at h5
      exact h5.mono (fun e w3 h => ⟨h.1, hw2.ext h.2⟩))))
    apply oy; rfl; rfl; rfl; apply Pev.bin; rfl; exact fun h => h; rfl; exact yes; intro hcond; apply Bin.lss
    apply oop; rfl; apply Pev.pick_and; rfl; exact yes; rfl; exact fun h => h
    apply omv; rfl; rfl
    apply oy; rfl; rfl; rfl; apply Pev.move; rfl; exact yes
    apply oy; rfl; rfl; rfl; apply Pev.fld; rfl; exact yes; rfl
    apply oy; rfl; rfl; rfl; apply Pev.load_blk; rfl; exact fun h => h; exact .head _; rfl; rfl
    (((first | (with_reducible apply OL.op) | (with_reducible apply QL.op)); (exact Guard.au); rfl; rfl); (exact Pev.call rfl (by exact Args.au) (fun _ w2 hw2 => (In_calls qp cp ps p.1.n w2 (by omega) (hp.at hw2 (by exact mau) (fun k hk => by exact NotOwned.au))).mono (fun e w3 h => ⟨h.1, hw2.ext h.2⟩))))
    apply oy; rfl; rfl; rfl; apply Pev.not; rfl; exact fun h => h
    apply oop; rfl; apply Pev.pick_and; rfl; exact yes; rfl; exact fun h => h
    apply OL.nx
    refine W.cond rfl (fun hb => ?_) (fun hb => ?_)
    · simp only [Bool.and_eq_true, decide_eq_true_eq, Bool.not_eq_true', decide_eq_false_iff_not] at hb
      apply W.sr
      apply oas; rfl; rfl
      apply OL.nx
      refine W.rt ?_
      ((with_reducible apply At.fin1); rfl; rfl; intro w' hw')
      exact ⟨by rw [hbf2 p.1.n hnd (free_bad ht hP hpos hx hb.1.1 hb.1.2) hb.2], by (exact hw'.fr)⟩
    · simp only [Bool.and_eq_false_iff, decide_eq_false_iff_not, Bool.not_eq_false', decide_eq_true_eq] at hb
      apply W.skip
      with_reducible apply At.in_normal
      with_reducible apply At.next
      apply W.reg
      apply obn; rfl; rfl; rfl; apply Bin.add_in; omega
      apply omv; rfl; rfl
      apply OL.nil
      refine At.again (i + 1) ⟨by omega, fun j x hj hxj hop hbn => ?_⟩ (by omega) (by exact Sub.au) (fun w' hw' => hw'.thin (by exact Thin.au))
      by_cases ej : j = i
      · subst ej
        rw [hx] at hxj
        obtain rfl := Option.some.inj hxj
        rcases hb with (hb | hb) | hb
        · exact absurd hop hb
        · omega
        · exact hb
      · exact hfr j x (by omega) hxj hop hbn
  · obtain rfl : i = es.length := by omega
    refine W.xt ?_
    with_reducible apply At.next
    apply W.sr
    apply oas; rfl; rfl
    apply OL.nx
    apply W.ret
    ((with_reducible apply At.fin1); rfl; rfl; intro w' hw')
    exact ⟨by rw [hbo2 hnd (free_ok ht hP hpos fun j x hx => hfr j x (by have := (List.getElem?_eq_some_iff.1 hx).1; omega) hx)], by (exact hw'.fr)⟩
theorem Fault_calls (es : List (Ex × ExY)) (q : Option Addr) (cap : Nat) (w : World) (he : Arr exR w (low w) es q) (hlen : es.length ≤ 9223372036854775807) :
    Calls Tryd.prog 12 [.slice q es.length cap].toArray w fun e w' => e = .returned (.int .i64 (bodyE (es.map Prod.fst) [] false)) ∧ Ext w w' := by
  refine enter Tryd.func12 rfl Tryd.ntmps12 rfl (Cls.start w) ?_
  (simp only [argEnv, Nat.zero_add, Nat.reduceAdd])
  apply W.sr
  apply oas; rfl; rfl
  apply OL.nsr
  apply omv; rfl; rfl
  (((first | (with_reducible apply OL.op) | (with_reducible apply QL.op)); (exact Guard.au); rfl; rfl); (exact Pev.call rfl (by exact Args.au) (fun _ w2 hw2 => (BodyFault_calls es q none cap 0 [] false w2 (he.at hw2 (by exact mau) (fun k hk => by exact NotOwned.au)) hlen IntsO.nil (by simp)).mono (fun e w3 h => ⟨h.1, hw2.ext h.2⟩))))
  apply oas; rfl; rfl
  apply OL.nx
  apply W.ret
  ((with_reducible apply At.fin1); rfl; rfl; intro w' hw')
  exact ⟨rfl, by (exact hw'.fr)⟩
end Go.Proofs.YtlboppiogeaicaaDoor.co
