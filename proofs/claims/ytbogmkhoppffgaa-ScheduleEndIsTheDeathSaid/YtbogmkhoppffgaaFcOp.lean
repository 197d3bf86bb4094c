/- A slice of raw facts that came in, opened. -/
import Derived.Test.YtbogmkhoppffgaaFcZ
import Derived.Test.YtbogmkhoppffgaaOpenR
namespace Go.Proofs.Ytbogmkhoppffgaa
open Go.RowKit Go.ChangeShapes Go.WideShapes

theorem rf_flen (l : List Rf) : (flat Rf.cells l).length = l.length * 13 := flat_length rf_len l
theorem hfacts_of_trod {H : Type} {enc : TypeId × Value → H} {w : World} {base : Nat} {spare : Nat → Bool} {held : Bool} {fuel : Nat} {cs : List Value} {x : DataW H × List MemPlace}
    (h : DataW.trod enc Try.prog w base spare held fuel 23 cs = some x) : ∃ A n c l, cs = [.slice A n c] ∧ Rd w w.heap.size 13 A n (flat Rf.cells l) ∧ l.length = n ∧ n ≤ maxLen := by
  rcases open_slice_fields Try.underlying23 Try.underlying43 (by kernel_rfl) (by kernel_rfl) h with ⟨rfl, _⟩ | ⟨a, len, cap, m, D, Pl, rfl, _, hl, hm, hmm, _, hf⟩
  · exact ⟨none, 0, 0, [], rfl, Rd.zero _ _ _ _, rfl, by unfold maxLen; omega⟩
  · have hlm : len ≤ m := by rw [hmm]; split <;> omega
    have hrow : ∀ i, i < len → ∃ r : Rf, ∀ j u, r.cells[j]? = some u → w.cell? (a.add (i * 13 + j)) = some u := by
      intro i hi
      obtain ⟨ys, n, _, _, _, hall⟩ := hf i (by omega)
      obtain ⟨v0, y0, c0, _, t0⟩ := hall 0 _ rfl
      obtain ⟨v1, y1, c1, _, t1⟩ := hall 1 _ rfl
      obtain ⟨v2, y2, c2, _, t2⟩ := hall 2 _ rfl
      obtain ⟨v3, y3, c3, _, t3⟩ := hall 3 _ rfl
      obtain ⟨v4, y4, c4, _, t4⟩ := hall 4 _ rfl
      obtain ⟨v5, y5, c5, _, t5⟩ := hall 5 _ rfl
      obtain ⟨v6, y6, c6, _, t6⟩ := hall 6 _ rfl
      obtain ⟨v7, y7, c7, _, t7⟩ := hall 7 _ rfl
      obtain ⟨v8, y8, c8, _, t8⟩ := hall 8 _ rfl
      obtain ⟨v9, y9, c9, _, t9⟩ := hall 9 _ rfl
      obtain ⟨v10, y10, c10, _, t10⟩ := hall 10 _ rfl
      obtain ⟨v11, y11, c11, _, t11⟩ := hall 11 _ rfl
      obtain ⟨v12, y12, c12, _, t12⟩ := hall 12 _ rfl
      obtain ⟨q0, e0, _, _⟩ := DataW.trod_int Try.underlying3 t0
      obtain ⟨q1, e1, _, _⟩ := DataW.trod_int Try.underlying3 t1
      obtain ⟨q2, e2, _, _⟩ := DataW.trod_int Try.underlying3 t2
      obtain ⟨q3, e3, _⟩ := DataW.trod_bool Try.underlying4 t3
      obtain ⟨q4, e4, _, _⟩ := DataW.trod_int Try.underlying3 t4
      obtain ⟨q5, e5, _, _⟩ := DataW.trod_int Try.underlying3 t5
      obtain ⟨q6, e6, _, _⟩ := DataW.trod_int Try.underlying3 t6
      obtain ⟨q7, e7, _, _⟩ := DataW.trod_int Try.underlying3 t7
      obtain ⟨q8, e8, _, _⟩ := DataW.trod_int Try.underlying3 t8
      obtain ⟨q9, e9, _, _⟩ := DataW.trod_int Try.underlying3 t9
      obtain ⟨q10, e10, _, _⟩ := DataW.trod_int Try.underlying3 t10
      obtain ⟨q11, e11, _, _⟩ := DataW.trod_int Try.underlying3 t11
      obtain ⟨q12, e12, _, _⟩ := DataW.trod_int Try.underlying3 t12
      injection e0 with e0
      injection e1 with e1
      injection e2 with e2
      injection e3 with e3
      injection e4 with e4
      injection e5 with e5
      injection e6 with e6
      injection e7 with e7
      injection e8 with e8
      injection e9 with e9
      injection e10 with e10
      injection e11 with e11
      injection e12 with e12
      subst e0 e1 e2 e3 e4 e5 e6 e7 e8 e9 e10 e11 e12
      refine ⟨⟨q0, q1, q2, q3, q4, q5, q6, q7, q8, q9, q10, q11, q12⟩, fun j u hu => ?_⟩
      match j, hu with
      | 0, hu => cases hu; exact c0
      | 1, hu => cases hu; exact c1
      | 2, hu => cases hu; exact c2
      | 3, hu => cases hu; exact c3
      | 4, hu => cases hu; exact c4
      | 5, hu => cases hu; exact c5
      | 6, hu => cases hu; exact c6
      | 7, hu => cases hu; exact c7
      | 8, hu => cases hu; exact c8
      | 9, hu => cases hu; exact c9
      | 10, hu => cases hu; exact c10
      | 11, hu => cases hu; exact c11
      | 12, hu => cases hu; exact c12
      | j + 13, hu => simp [Rf.cells] at hu
    obtain ⟨l, hll, hq⟩ := list_ofN _ _ hrow
    refine ⟨some a, len, cap, l, rfl, ⟨by rw [rf_flen, hll], fun hn => ?_⟩, hll, by omega⟩
    obtain ⟨r0, hr0⟩ : ∃ r, l[0]? = some r := ⟨_, List.getElem?_eq_getElem (by omega)⟩
    have hc0 := hq 0 r0 hr0 0 _ rfl
    have hspot : a.spot = none := by simpa [Addr.add] using World.cell?_spot hc0
    obtain ⟨b, o, sp⟩ := a
    subst hspot
    have hblt : b < w.heap.size := by
      rw [addAt] at hc0
      exact World.block_lt_of_cell? _ _ hc0
    refine ⟨b, o, rfl, hblt, fun j u hu => ?_⟩
    have hjl : j < l.length * 13 := by
      have := (List.getElem?_eq_some_iff.1 hu).1
      rwa [rf_flen] at this
    obtain ⟨x, hx⟩ : ∃ x, l[j / 13]? = some x := ⟨_, List.getElem?_eq_getElem (by omega)⟩
    have hg := flat_get rf_len l (j / 13) (j % 13) x hx (by omega)
    rw [show j / 13 * 13 + j % 13 = j by omega, hu] at hg
    have hc := hq (j / 13) x hx (j % 13) u hg.symm
    rw [addAt, show j / 13 * 13 + j % 13 = j by omega] at hc
    exact hc
end Go.Proofs.Ytbogmkhoppffgaa
