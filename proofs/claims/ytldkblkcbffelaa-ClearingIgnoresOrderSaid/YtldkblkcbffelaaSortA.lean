/- slices.Sort on a slice of ints that the call made itself. -/
import Derived.Test.YtldkblkcbffelaaShelf
import Derived.Test.YtldkblkcbffelaaInsA
import Derived.Lib.SortBridge
namespace Go.Proofs.Ytldkblkcbffelaa
open Go.RowKit
open Go.Sort (Holds grow putRow mapBlock onCells)

def sortI (zs : List Int) : List Int := zs.mergeSort fun x y => decide (x ≤ y)
theorem sortI_length (zs : List Int) : (sortI zs).length = zs.length := List.length_mergeSort zs
theorem mem_sortI (zs : List Int) (x : Int) : x ∈ sortI zs ↔ x ∈ zs := List.mem_mergeSort
theorem sortI_sorted {zs : List Int} (h : zs.Nodup) : (sortI zs).Pairwise (· < ·) := by
  have h1 : (sortI zs).Pairwise (fun x y => decide (x ≤ y) = true) := List.pairwise_mergeSort (fun a b c h1 h2 => by simp at *; omega) (fun a b => by simp; omega) zs
  have h2 : (sortI zs).Nodup := (List.mergeSort_perm zs _).nodup_iff.2 h
  rw [List.Nodup] at h2
  refine List.Pairwise.imp₂ (fun a b h1 h2 => ?_) h1 h2
  have : a ≤ b := by simpa using h1
  omega

theorem sort_own {w : World} {base n c : Nat} {A : Option Addr} {zs : List Int} (h : w.ownsRow base 3 1 (.slice A n c) n (ints zs)) (hsm : n ≤ 1000000) :
    Calls Try.prog 41 #[.slice A n c] w fun e w' => e = .returned (.tuple #[]) ∧ Rd w' w'.heap.size 1 A n (ints (sortI zs)) ∧ Below base w w' := by
  have hlen : zs.length = n := by have := h.1; simpa [ints] using this
  rcases h.2 with ⟨hv, rfl⟩ | ⟨g, cap, cur, hv, hbg, hg, hnc, hcm, hcs, ht⟩
  · refine (Try.slices_Sort_int_none A c w).mono ?_
    rintro e w' ⟨rfl, rfl⟩
    obtain rfl : zs = [] := List.length_eq_zero_iff.1 hlen
    exact ⟨rfl, by simpa [sortI, ints] using Rd.zero w' w'.heap.size 1 A, Below.refl _ _⟩
  · injection hv with hA _ hc
    subst hA; subst hc; subst hlen
    have hlt : g < w.heap.size := (Array.getElem?_eq_some_iff.1 hg).1
    have hcell : ∀ j, j < zs.length → w.cell? ⟨g, 0 + j, none⟩ = some (.int .i64 (zs.getD j 0)) := by
      intro j hj
      have hx : (ints zs)[j]? = some (.int .i64 (zs.getD j 0)) := by
        rw [ints_at, List.getElem?_eq_getElem hj]
        simp [List.getD, hj]
      have hc := h.cells (g := g) rfl j _ hx
      rwa [addAt] at hc
    have hfr : ∀ j, j < zs.length → w.frozen? ⟨g, 0 + j, none⟩ = false := fun j _ => frozen_of_row w g _ _ _ hg
    have hH : Holds (Value.int .i64) w g 0 zs.toArray := by
      have := Lib.holds_of_ints (n := zs.length) (Nat.le_refl _) hcell hfr
      rwa [List.take_length] at this
    refine (Try.slices_Sort_int g 0 c zs w hH hlt (by omega)).mono ?_
    rintro e w' ⟨rfl, q, os, rfl⟩
    have hsl : (sortI zs).length = zs.length := sortI_length zs
    refine ⟨rfl, ?_, ?_⟩
    · refine ⟨by rw [ints_length, hsl]; simp, fun hn => ⟨g, 0, rfl, ?_, ?_⟩⟩
      · simp only [Sort.size_grow]
        have : (putRow (Value.int .i64) (Sort.ahead w q) g 0 (zs.mergeSort fun x y => decide (x ≤ y)).toArray).heap.size = w.heap.size := by simp [putRow, mapBlock, Sort.ahead]
        omega
      · intro j u hu
        have hw := Lib.sorted_world (Value.int .i64) w g 0 q zs.toArray (sortI zs) os hH (by simpa using hsl)
        have hw2 : grow (putRow (Value.int .i64) (Sort.ahead w q) g 0 (zs.mergeSort fun x y => decide (x ≤ y)).toArray) os = grow ((w.drewN q).setCells g 0 ((sortI zs).map (Value.int .i64))) os := hw
        rw [hw2]
        have hj : j < (sortI zs).length := by
          have := (List.getElem?_eq_some_iff.1 hu).1
          simpa [ints] using this
        have hc := Lib.cells_sorted_ints (W := w) (b := g) (off := 0) (q := q) (os := os) (n := zs.length) (zs := zs) (ys := sortI zs) (Nat.le_refl _) hsl hcell j (by simp; omega)
        rw [hc]
        rw [ints_at, List.getElem?_eq_getElem hj] at hu
        rw [← Option.some.inj hu]
        simp [List.getD, hj]
    · refine ⟨rfl, rfl, rfl, ?_, fun k hk => ?_⟩
      · simp only [Sort.size_grow]
        have : (putRow (Value.int .i64) (Sort.ahead w q) g 0 (zs.mergeSort fun x y => decide (x ≤ y)).toArray).heap.size = w.heap.size := by simp [putRow, mapBlock, Sort.ahead]
        omega
      · have hs : (putRow (Value.int .i64) (Sort.ahead w q) g 0 (zs.mergeSort fun x y => decide (x ≤ y)).toArray).heap.size = w.heap.size := by simp [putRow, mapBlock, Sort.ahead]
        rw [Sort.heap_grow_old _ _ (by rw [hs]; omega)]
        have hne : g ≠ k := by omega
        simp [putRow, mapBlock, Sort.ahead, Array.getElem?_modify, hne]
end Go.Proofs.Ytldkblkcbffelaa
