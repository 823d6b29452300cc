/- The sort and the compaction of a grown row of strings, by the library's contracts; a sort of nothing. Conditions: none. -/
import Derived.Test.YtgllgllbgojhfaaSrt
import Derived.Test.YtgllgllbgojhfaaStrs
import Derived.Test.YtgllgllbgojhfaaMaP
import Derived.Test.YtgllgllbgojhfaaExt
import Derived.Test.YtgllgllbgojhfaaZip
import Derived.Test.YtgllgllbgojhfaaSh
import Derived.Test.YtgllgllbgojhfaaRows
import Derived.Shelf.Sort.Plain
import Derived.Shelf.Slices.CompactS
import Derived.Shelf.Slices.In.SortNone
namespace Go.Proofs.Ytgllgllbgojhfaa.mo
open Go.RowKit Go.Eng Go.Mo Go.Shelf Go.Sort
set_option linter.unusedVariables false
set_option linter.unusedSimpArgs false
set_option maxRecDepth 100000

def bss (l : List ByteArray) : List (List UInt8) := l.map fun s => s.data.toList
def ssb (l : List (List UInt8)) : List ByteArray := l.map fun s => ⟨s.toArray⟩
theorem enc_ssb (l : List (List UInt8)) : l.map encStr = strs (ssb l) := by simp [strs, ssb]
theorem ssb_bss : ∀ l : List ByteArray, ssb (bss l) = l
  | [] => rfl
  | s :: l => by
    show (⟨s.data.toList.toArray⟩ : ByteArray) :: ssb (bss l) = _
    rw [ssb_bss l, Array.toArray_toList]
theorem bss_ssb : ∀ l : List (List UInt8), bss (ssb l) = l
  | [] => rfl
  | s :: l => by
    show s :: bss (ssb l) = _
    rw [bss_ssb l]
theorem ssb_len (l : List (List UInt8)) : (ssb l).length = l.length := by simp [ssb]
theorem bss_len (l : List ByteArray) : (bss l).length = l.length := by simp [bss]
theorem strs_enc (l : List ByteArray) : strs l = (bss l).map encStr := by rw [enc_ssb, ssb_bss]
theorem bss_mem {l : List ByteArray} {s : ByteArray} : s.data.toList ∈ bss l ↔ s ∈ l := by
  unfold bss
  rw [List.mem_map]
  exact ⟨fun ⟨u, hu, e⟩ => by
    have : u = s := by
      apply ByteArray.ext
      exact Array.toList_inj.1 e
    exact this ▸ hu, fun h => ⟨s, h, rfl⟩⟩
/-- the row sorted -/
def srtS (xs : List ByteArray) : List ByteArray := ssb (srt (bss xs))
theorem srtS_len (xs : List ByteArray) : (srtS xs).length = xs.length := by unfold srtS; rw [ssb_len, srt_len, bss_len]
def cmpS (xs : List ByteArray) : List ByteArray := ssb (Lib.compact (bss xs))
theorem Sort_calls {p : Nat} {H : List Eng.Item} {S : List World} {w : World} {base cap : Nat} {O : Nat → Prop} {q : Option Addr} {xs : List ByteArray} {F : Eng.Item → List Eng.Item}
    (hh : Hole p H (Eng.row base O q xs.length cap 9 1 (strs xs)) F) (h : Cls H S w) (hlen : xs.length < 4611686018427387904) :
    Calls Try.prog 9 #[.slice q xs.length cap] w fun e w' => e = .returned (.tuple #[]) ∧ Cls (F (Eng.row base O q xs.length cap 9 1 (strs (srtS xs)))) S w' := by
  by_cases h0 : xs.length = 0
  · obtain rfl : xs = [] := List.eq_nil_of_length_eq_zero h0
    refine (Any.slices_Sort_string_none Try.lays190 q cap w).mono fun e w' he => ⟨he.1, ?_⟩
    rw [he.2]
    have e2 : srtS [] = [] := by simp [srtS, bss, srt, ssb]
    rw [e2, hh.eq.2, set_same hh.eq.1]
    exact h
  · have hi := h.holds _ (List.mem_of_getElem? hh.eq.1)
    obtain ⟨g, rfl⟩ := row_some hi (by omega)
    rw [strs_enc] at hi
    obtain ⟨h1, h2⟩ := row_holds (d := (bss xs).toArray) hi
    have hc := Any.slices_Sort_string Try.lays190 g 0 cap (bss xs) w h1 h2 (by rw [bss_len]; exact hlen)
    rw [bss_len] at hc
    refine hc.mono fun e w' he => ⟨he.1, ?_⟩
    obtain ⟨n, os, hw⟩ := he.2
    have hp := Cls.rowPut hh h (srt (bss xs)).toArray (by simp [srt_len, bss_len]) hw
    rw [List.toList_toArray, enc_ssb] at hp
    exact hp
theorem compact_len (l : List (List UInt8)) : (Lib.compact l).length ≤ l.length := by
  unfold Lib.compact Lib.compactUpTo
  rw [List.length_map]
  exact Nat.le_trans (List.length_filter_le _ _) (by rw [List.length_range]; exact Nat.le_refl _)
theorem Compact_calls {p : Nat} {H : List Eng.Item} {S : List World} {w : World} {base cap : Nat} {O : Nat → Prop} {q : Option Addr} {xs : List ByteArray} {F : Eng.Item → List Eng.Item}
    (hh : Hole p H (Eng.row base O q xs.length cap 9 1 (strs xs)) F) (hF : ∀ i, Hole p (F i) i F) (h : Cls H S w) (hlen : xs.length < 4611686018427387904) :
    Calls Try.prog 16 #[.slice q xs.length cap] w fun e w' => e = .returned (.slice q (cmpS xs).length cap) ∧ Cls (F (Eng.row base O q (cmpS xs).length cap 9 1 (strs (cmpS xs)))) S w' := by
  by_cases h0 : xs.length = 0
  · obtain rfl : xs = [] := List.eq_nil_of_length_eq_zero h0
    refine (Any.slices_Compact_string_empty Try.lays194 q cap w).mono fun e w' he => ?_
    have e2 : cmpS [] = [] := by simp [cmpS, bss, Lib.compact, Lib.compactUpTo, ssb]
    rw [he.2, e2, hh.eq.2, set_same hh.eq.1]
    exact ⟨he.1, h⟩
  · have hi := h.holds _ (List.mem_of_getElem? hh.eq.1)
    have hcap := row_cap hi
    obtain ⟨g, rfl⟩ := row_some hi (by omega)
    rw [strs_enc] at hi
    obtain ⟨h1, h2⟩ := row_holds (d := (bss xs).toArray) hi
    have hcl := compact_len (bss xs)
    rw [bss_len] at hcl
    have hml : (cmpS xs).length = (Lib.compact (bss xs)).length := ssb_len _
    have hc := Any.slices_Compact_string Try.lays194 g 0 cap (bss xs) w h1 (by rw [bss_len]; omega) (by rw [bss_len]; exact hcap)
    rw [bss_len] at hc
    refine hc.mono fun e w' he => ⟨by rw [he.1, hml], ?_⟩
    obtain ⟨n, hw⟩ := he.2
    obtain ⟨D, hD⟩ : ∃ D : Array (List UInt8), D = (Lib.compact (bss xs) ++ List.replicate (xs.length - (Lib.compact (bss xs)).length) []).toArray := ⟨_, rfl⟩
    rw [← hD] at hw
    have hDl : D.size = xs.length := by rw [hD, List.size_toArray, List.length_append, List.length_replicate]; omega
    have hw2 : w' = Sort.grow (putRow encStr (Sort.ahead w n) g 0 D) #[] := by rw [hw, Sort.grow_empty]
    have hp := Cls.rowPut hh h D hDl hw2
    rw [hD] at hp
    rw [List.toList_toArray, List.map_append] at hp
    refine Cls.rowPop (m := xs.length) _ _ (hF _) (by omega) ?_ hp
    rw [Nat.mul_one, hml, List.take_left' (by simp), enc_ssb]
    rfl
end Go.Proofs.Ytgllgllbgojhfaa.mo
