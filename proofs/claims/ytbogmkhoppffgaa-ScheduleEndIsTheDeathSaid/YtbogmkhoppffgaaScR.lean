/- The statements' Rows: valid rows, small amounts. -/
import Derived.Test.YtbogmkhoppffgaaScB
namespace Go.Proofs.Ytbogmkhoppffgaa
open Go.RowKit

/-- The cells of one raw row. -/
theorem raw_cells {w : World} {B n : Nat} {A : Option Addr} {xs : List Int} (h : Rd w B 3 A n (ints xs)) {k : Nat} (hk : k < n) :
    ∃ b o x g a, A = some ⟨b, o, none⟩ ∧ b < B ∧ w.cell? ⟨b, o + k * 3, none⟩ = some (.int .i64 x) ∧ w.cell? ⟨b, o + k * 3 + 1, none⟩ = some (.int .i64 g) ∧ w.cell? ⟨b, o + k * 3 + 2, none⟩ = some (.int .i64 a) ∧ x ∈ xs ∧ g ∈ xs ∧ a ∈ xs := by
  obtain ⟨b, o, e, hb, hc⟩ := h.2 (by omega)
  have hl : xs.length = n * 3 := by have := h.1; rwa [ints_length] at this
  have hg : ∀ j, j < 3 → ∃ v, xs[k * 3 + j]? = some v := fun j hj => ⟨_, List.getElem?_eq_getElem (by omega)⟩
  obtain ⟨x, hx⟩ := hg 0 (by omega)
  obtain ⟨g, hg1⟩ := hg 1 (by omega)
  obtain ⟨a, ha⟩ := hg 2 (by omega)
  exact ⟨b, o, x, g, a, e, hb, by simpa using hc (k * 3 + 0) _ (by rw [ints_at, hx]; rfl), hc (k * 3 + 1) _ (by rw [ints_at, hg1]; rfl), hc (k * 3 + 2) _ (by rw [ints_at, ha]; rfl), List.mem_of_getElem? hx, List.mem_of_getElem? hg1, List.mem_of_getElem? ha⟩
/-- Valid rows with small amounts, in memory of the call's own. -/
def RetRows (w : World) (f : Int) (e : Ending) (w' : World) : Prop :=
  ∃ A c L, e = .returned (.slice A (List.length L) c) ∧ w'.ownsRow w.heap.size 52 6 (.slice A L.length c) L.length (flat Rw.cells L) ∧ vldB L = true ∧ AmtsIn L 999999999 ∧ L.length ≤ 12 ∧ (∀ r ∈ L, r.p = false) ∧ Below w.heap.size w w' ∧ 0 ≤ f

end Go.Proofs.Ytbogmkhoppffgaa
