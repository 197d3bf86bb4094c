/- slices.Sort and slices.Compact on a slice of ints that the call made itself (nil included): just its row changes. -/
import Derived.Test.YtghmmcdeejhcjaaGreatShelf
import Derived.Test.YtghmmcdeejhcjaaGreatSpPw
import Derived.Lib.SortBridge
import Derived.Lib.RowBridge
namespace Go.Proofs.YtghmmcdeejhcjaaGreat
open Go.RowKit
open Go.Sort (Holds grow putRow mapBlock onCells)

def sortI (zs : List Int) : List Int := zs.mergeSort fun x y => decide (x ≤ y)
theorem sortI_length (zs : List Int) : (sortI zs).length = zs.length := List.length_mergeSort zs
theorem mem_sortI (zs : List Int) (x : Int) : x ∈ sortI zs ↔ x ∈ zs := List.mem_mergeSort
theorem sortI_le (zs : List Int) : (sortI zs).Pairwise (· ≤ ·) := by
  have h1 : (sortI zs).Pairwise (fun x y => decide (x ≤ y) = true) := List.pairwise_mergeSort (fun a b c h1 h2 => by simp at *; omega) (fun a b => by simp; omega) zs
  exact h1.imp fun h => by simpa using h
theorem get_bang {zs : List Int} {j : Nat} (h : j < zs.length) : zs.toArray[j]! = zs[j] := by simp [h]
theorem compact_upto {zs : List Int} (hs : zs.Pairwise (· ≤ ·)) : ∀ m : Nat, m ≤ zs.length → (∀ x ∈ Lib.compactUpTo zs.toArray m, ∃ j, j < m ∧ zs.toArray[j]! = x) ∧ (∀ j, j < m → zs.toArray[j]! ∈ Lib.compactUpTo zs.toArray m) ∧ (Lib.compactUpTo zs.toArray m).Pairwise (· < ·)
  | 0, _ => by simp [Lib.compactUpTo]
  | m + 1, hm => by
    obtain ⟨h1, h2, h3⟩ := compact_upto hs m (by omega)
    have hle : ∀ i j, i ≤ j → j < zs.length → zs.toArray[i]! ≤ zs.toArray[j]! := fun i j hij hj => by
      rw [get_bang (by omega), get_bang hj]
      by_cases e : i = j
      · subst e; exact Int.le_refl _
      · exact List.pairwise_iff_getElem.1 hs i j (by omega) hj (by omega)
    rw [Lib.compactUpTo_succ]
    cases hk : Lib.keeps zs.toArray m with
    | true =>
      simp only [if_true]
      refine ⟨fun x hx => ?_, fun j hj => ?_, ?_⟩
      · rcases List.mem_append.1 hx with hx | hx
        · obtain ⟨j, hj, e⟩ := h1 x hx
          exact ⟨j, by omega, e⟩
        · exact ⟨m, by omega, (List.mem_singleton.1 hx).symm⟩
      · by_cases e : j = m
        · subst e; simp
        · exact List.mem_append.2 (.inl (h2 j (by omega)))
      · rw [List.pairwise_append]
        refine ⟨h3, List.pairwise_singleton _ _, fun x hx y hy => ?_⟩
        rw [List.mem_singleton.1 hy]
        obtain ⟨j, hj, e⟩ := h1 x hx
        have hne : zs.toArray[m]! ≠ zs.toArray[m - 1]! := fun he => by rw [Lib.keeps_neg (by omega) he] at hk; cases hk
        have a1 := hle j (m - 1) (by omega) (by omega)
        have a2 := hle (m - 1) m (by omega) (by omega)
        omega
    | false =>
      simp only [Bool.false_eq_true, if_false, List.append_nil]
      have hm0 : 0 < m := by
        rcases Nat.eq_zero_or_pos m with e | e
        · subst e
          rw [Lib.keeps_lt_one zs.toArray 0 (by omega)] at hk
          cases hk
        · exact e
      have he : zs.toArray[m]! = zs.toArray[m - 1]! := by
        by_cases he : zs.toArray[m]! = zs.toArray[m - 1]!
        · exact he
        · rw [Lib.keeps_pos he] at hk
          cases hk
      refine ⟨fun x hx => ?_, fun j hj => ?_, h3⟩
      · obtain ⟨j, hj, e⟩ := h1 x hx
        exact ⟨j, by omega, e⟩
      · by_cases e : j = m
        · subst e
          rw [he]
          exact h2 (j - 1) (by omega)
        · exact h2 j (by omega)
theorem compact_ok {zs : List Int} (hs : zs.Pairwise (· ≤ ·)) : (∀ x, x ∈ Lib.compact zs ↔ x ∈ zs) ∧ (Lib.compact zs).Pairwise (· < ·) := by
  obtain ⟨h1, h2, h3⟩ := compact_upto hs zs.length (Nat.le_refl _)
  refine ⟨fun x => ⟨fun hx => ?_, fun hx => ?_⟩, h3⟩
  · obtain ⟨j, hj, e⟩ := h1 x hx
    rw [← e, get_bang hj]
    exact List.getElem_mem _
  · obtain ⟨j, hj⟩ := List.getElem?_of_mem hx
    obtain ⟨hl, he⟩ := List.getElem?_eq_some_iff.1 hj
    have := h2 j hl
    rw [get_bang hl, he] at this
    exact this
theorem compact_length (zs : List Int) : (Lib.compact zs).length ≤ zs.length := by
  unfold Lib.compact Lib.compactUpTo
  rw [List.length_map]
  exact Nat.le_trans (List.length_filter_le _ _) (by simp)

theorem sortI_cut {ls : List Int} : ∀ x, x ∈ Lib.compact (sortI ls) ↔ x ∈ ls := fun x => ((compact_ok (sortI_le ls)).1 x).trans (mem_sortI ls x)
/-- The numbers lie at A, in a block of their own, ready for the library. -/
def Hs (w : World) (A : Option Addr) (zs : List Int) : Prop := zs = [] ∨ ∃ g, A = some ⟨g, 0, none⟩ ∧ Holds (Value.int .i64) w g 0 zs.toArray ∧ g < w.heap.size
theorem sort_cuts {w : World} {base c : Nat} {A : Option Addr} {zs : List Int} (h : w.ownsRow base 3 1 (.slice A zs.length c) zs.length (ints zs)) (hsm : zs.length ≤ 1000000) :
    Calls Tryz.prog 31 #[.slice A zs.length c] w fun e w' => e = .returned (.tuple #[]) ∧ Hs w' A (sortI zs) ∧ w.grownBy w' (Value.slice A zs.length c).ownBlock := by
  by_cases hz : zs = []
  · subst hz
    refine (Tryz.slices_Sort_int_none A c w).mono ?_
    rintro e w' ⟨rfl, rfl⟩
    exact ⟨rfl, .inl (by unfold sortI; simp), World.grownBy.refl _ _⟩
  · rcases h.2 with ⟨_, h0⟩ | ⟨g, cap, cur, hv, hbg, hg, hnc, hcm, hcs, ht⟩
    · exact absurd (List.eq_nil_of_length_eq_zero h0) hz
    · injection hv with hA _ hc
      subst hA; subst hc
      have hlt : g < w.heap.size := (Array.getElem?_eq_some_iff.1 hg).1
      have hcell : ∀ j, j < zs.length → w.cell? ⟨g, 0 + j, none⟩ = some (.int .i64 (zs.getD j 0)) := by
        intro j hj
        have hx : (ints zs)[j]? = some (.int .i64 (zs.getD j 0)) := by
          rw [ints_at, List.getElem?_eq_getElem hj]
          simp [List.getD, hj]
        have hc := h.cells (g := g) rfl j _ hx
        rwa [addAt] at hc
      have hfr : ∀ j, j < zs.length → w.frozen? ⟨g, 0 + j, none⟩ = false := fun j _ => frozen_of_row w g _ _ _ hg
      have hH : Holds (Value.int .i64) w g 0 zs.toArray := by
        have := Lib.holds_of_ints (n := zs.length) (Nat.le_refl _) hcell hfr
        rwa [List.take_length] at this
      refine (Tryz.slices_Sort_int g 0 c zs w hH hlt (by omega)).mono ?_
      rintro e w' ⟨rfl, q, os, rfl⟩
      have hs : (putRow (Value.int .i64) (Sort.ahead w q) g 0 (zs.mergeSort fun x y => decide (x ≤ y)).toArray).heap.size = w.heap.size := by simp [putRow, mapBlock, Sort.ahead]
      have hsl : (sortI zs).length = zs.length := sortI_length zs
      refine ⟨rfl, .inr ⟨g, rfl, ?_, by rw [Sort.size_grow, hs]; omega⟩, ?_⟩
      · exact Sort.holds_grow (Value.int .i64) _ os g 0 (sortI zs).toArray (by rw [hs]; exact hlt) (Sort.holds_putRow (Value.int .i64) (Sort.ahead w q) g 0 zs.toArray (sortI zs).toArray hH (by simpa using hsl))
      · refine ⟨rfl, rfl, rfl, by rw [Sort.size_grow, hs]; omega, fun k hk hne => ?_⟩
        rw [Sort.heap_grow_old _ _ (by rw [hs]; omega)]
        have hne : g ≠ k := fun e => hne (by rw [← e]; rfl)
        simp [putRow, mapBlock, Sort.ahead, Array.getElem?_modify, hne]

/-- The cells of a row of numbers. -/
theorem own_int {w : World} {base n c : Nat} {A : Option Addr} {xs : List Int} (h : w.ownsRow base 3 1 (.slice A n c) n (ints xs)) (h0 : xs ≠ []) :
    n = xs.length ∧ ∃ g, A = some ⟨g, 0, none⟩ ∧ g < w.heap.size ∧ ∀ j, j < xs.length → w.cell? ⟨g, 0 + j, none⟩ = some (.int .i64 (xs.getD j 0)) := by
  have hl : xs.length = n := by have := h.1; rw [ints_length] at this; omega
  rcases h.2 with ⟨_, h1⟩ | ⟨g, cap, cur, hv, hbg, hg, _⟩
  · exact absurd (List.eq_nil_of_length_eq_zero (by omega)) h0
  · injection hv with hA _ _
    subst hA
    refine ⟨hl.symm, g, rfl, (Array.getElem?_eq_some_iff.1 hg).1, fun j hj => ?_⟩
    have hx : (ints xs)[j]? = some (.int .i64 (xs.getD j 0)) := by
      rw [ints_at, List.getElem?_eq_getElem hj]
      simp [List.getD, hj]
    have hc := h.cells (g := g) rfl j _ hx
    rwa [addAt] at hc
end Go.Proofs.YtghmmcdeejhcjaaGreat
