/- A slice of rows that came in, opened. -/
import Derived.Test.YtnjloghphkjcoaaScA
namespace Go.Proofs.Ytnjloghphkjcoaa
open Go.RowKit Go.ChangeShapes Go.WideShapes

theorem rows_of_trod {H : Type} {enc : TypeId × Value → H} {w : World} {base : Nat} {spare : Nat → Bool} {held : Bool} {fuel : Nat} {cs : List Value} {x : DataW H × List MemPlace}
    (h : DataW.trod enc Try.prog w base spare held fuel 22 cs = some x) : ∃ A n c l, cs = [.slice A n c] ∧ Dr w A n l ∧ n ≤ maxLen := by
  rcases open_slice_fields Try.underlying22 Try.underlying31 (by kernel_rfl) (by kernel_rfl) h with ⟨rfl, _⟩ | ⟨a, len, cap, m, D, Pl, rfl, _, hl, hm, hmm, _, hf⟩
  · exact ⟨none, 0, 0, [], rfl, Dr.nil w, by unfold maxLen; omega⟩
  · have hlm : len ≤ m := by rw [hmm]; split <;> omega
    have hrow : ∀ i, i < len → ∃ r : Rw, ∀ j u, r.cells[j]? = some u → w.cell? (a.add (i * 6 + j)) = some u := by
      intro i hi
      obtain ⟨ys, n, _, _, _, hall⟩ := hf i (by omega)
      obtain ⟨v0, y0, c0, _, t0⟩ := hall 0 _ rfl
      obtain ⟨v1, y1, c1, _, t1⟩ := hall 1 _ rfl
      obtain ⟨v2, y2, c2, _, t2⟩ := hall 2 _ rfl
      obtain ⟨v3, y3, c3, _, t3⟩ := hall 3 _ rfl
      obtain ⟨v4, y4, c4, _, t4⟩ := hall 4 _ rfl
      obtain ⟨v5, y5, c5, _, t5⟩ := hall 5 _ rfl
      obtain ⟨q0, e0, _, _⟩ := DataW.trod_int Try.underlying3 t0
      obtain ⟨q1, e1, _, _⟩ := DataW.trod_int Try.underlying3 t1
      obtain ⟨q2, e2, _, _⟩ := DataW.trod_int Try.underlying3 t2
      obtain ⟨q3, e3, _, _⟩ := DataW.trod_int Try.underlying3 t3
      obtain ⟨q4, e4, _, _⟩ := DataW.trod_int Try.underlying3 t4
      obtain ⟨q5, e5, _⟩ := DataW.trod_bool Try.underlying4 t5
      injection e0 with e0
      injection e1 with e1
      injection e2 with e2
      injection e3 with e3
      injection e4 with e4
      injection e5 with e5
      subst e0 e1 e2 e3 e4 e5
      refine ⟨⟨q0, q1, q2, q3, q4, q5⟩, fun j u hu => ?_⟩
      match j, hu with
      | 0, hu => cases hu; exact c0
      | 1, hu => cases hu; exact c1
      | 2, hu => cases hu; exact c2
      | 3, hu => cases hu; exact c3
      | 4, hu => cases hu; exact c4
      | 5, hu => cases hu; exact c5
      | j + 6, hu => simp [Rw.cells] at hu
    obtain ⟨l, hll, hq⟩ := list_ofN _ _ hrow
    refine ⟨some a, len, cap, l, rfl, ⟨⟨by rw [rw_flen, hll], fun hn => ?_⟩, hll⟩, by omega⟩
    obtain ⟨r0, hr0⟩ : ∃ r, l[0]? = some r := ⟨_, List.getElem?_eq_getElem (by omega)⟩
    have hc0 := hq 0 r0 hr0 0 _ rfl
    have hspot : a.spot = none := by simpa [Addr.add] using World.cell?_spot hc0
    obtain ⟨b, o, sp⟩ := a
    subst hspot
    have hblt : b < w.heap.size := by
      rw [addAt] at hc0
      exact World.block_lt_of_cell? _ _ hc0
    refine ⟨b, o, rfl, hblt, fun j u hu => ?_⟩
    have hjl : j < l.length * 6 := by
      have := (List.getElem?_eq_some_iff.1 hu).1
      rwa [rw_flen] at this
    obtain ⟨x, hx⟩ : ∃ x, l[j / 6]? = some x := ⟨_, List.getElem?_eq_getElem (by omega)⟩
    have hg := flat_get rw_len l (j / 6) (j % 6) x hx (by omega)
    rw [show j / 6 * 6 + j % 6 = j by omega, hu] at hg
    have hc := hq (j / 6) x hx (j % 6) u hg.symm
    rw [addAt, show j / 6 * 6 + j % 6 = j by omega] at hc
    exact hc
end Go.Proofs.Ytnjloghphkjcoaa
