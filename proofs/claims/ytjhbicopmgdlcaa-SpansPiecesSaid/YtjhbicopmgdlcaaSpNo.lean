/- A slice of slices of spans that came in as an argument, opened. -/
import Derived.Test.YtjhbicopmgdlcaaSpNs
import Derived.Test.YtjhbicopmgdlcaaOpenN
import Derived.Test.YtjhbicopmgdlcaaSpLawA
namespace Go.Proofs.Ytjhbicopmgdlcaa
open Go.ChangeShapes Go.WideShapes Go.Deep Go.RowKit

theorem lists_of_trod {H : Type} {enc : TypeId × Value → H} {w : World} {base : Nat} {spare : Nat → Bool} {held : Bool} {fuel : Nat} {cs : List Value} {x : DataW H × List MemPlace}
    (h : DataW.trod enc Try.prog w base spare held fuel 44 cs = some x) :
    ∃ A n c vs ls, cs = [.slice A n c] ∧ Rd w w.heap.size 1 A n vs ∧ Ns w w.heap.size vs ls ∧ n ≤ maxLen ∧ ∀ l ∈ ls, (∀ p ∈ l, p.ok) ∧ l.length ≤ maxLen := by
  rcases open_slice1 Try.underlying44 (by kernel_rfl) h with ⟨rfl, _⟩ | ⟨a, len, cap, m, n, V, D, Pl, rfl, _, hl, hm, hmm, _, hf⟩
  · exact ⟨none, 0, 0, [], [], rfl, Rd.zero _ _ _ _, Ns.nil _ _, by unfold maxLen; omega, by simp⟩
  · have hlm : len ≤ m := by rw [hmm]; split <;> omega
    have hel : ∀ i, i < len → ∃ l : List Sp, w.cell? (a.add i) = some (V i) ∧ Nv w w.heap.size (V i) l ∧ (∀ p ∈ l, p.ok) ∧ l.length ≤ maxLen := by
      intro i hi
      obtain ⟨hc, ht⟩ := hf i (by omega)
      obtain ⟨A, n, c, xs, hcs, hrd, hok, hm⟩ := ints_of_trod 2 Try.underlying22 (e := 36) (by kernel_rfl) (by kernel_rfl) (by kernel_rfl) (by kernel_rfl) (by omega) (by kernel_rfl) ht
      obtain ⟨l, e, hl, ho⟩ := spans_of _ xs (by have := hrd.1; rwa [ints_length] at this) hok
      rw [e] at hrd
      injection hcs with hcs
      subst hl
      exact ⟨l, hc, ⟨A, c, hcs, hrd⟩, ho, hm⟩
    obtain ⟨ls, hls, hq⟩ := list_ofN _ len hel
    refine ⟨some a, len, cap, (List.range len).map V, ls, rfl, ⟨by simp, fun hn => ?_⟩, ⟨by simp [hls], fun i v l h1 h2 => ?_⟩, by omega, fun l hl => ?_⟩
    · obtain ⟨l0, hc0, -⟩ := hel 0 hn
      have hspot : a.spot = none := by simpa [Addr.add] using World.cell?_spot hc0
      obtain ⟨b, o, sp⟩ := a
      subst hspot
      refine ⟨b, o, rfl, World.block_lt_of_cell? _ _ hc0, fun j u hu => ?_⟩
      have hj : j < len := by
        have := (List.getElem?_eq_some_iff.1 hu).1
        simpa using this
      obtain ⟨l1, hc1, -⟩ := hel j hj
      rw [List.getElem?_map, List.getElem?_range hj] at hu
      simp at hu
      subst hu
      rwa [addAt] at hc1
    · have hi : i < len := by
        have := (List.getElem?_eq_some_iff.1 h2).1
        omega
      rw [List.getElem?_map, List.getElem?_range hi] at h1
      simp at h1
      subst h1
      exact (hq i l h2).2.1
    · obtain ⟨i, hi⟩ := List.mem_iff_getElem?.1 hl
      exact (hq i l hi).2.2
end Go.Proofs.Ytjhbicopmgdlcaa
