/- A slice of rows that came in, opened: general; slices of numbers. -/
import Derived.Test.YtghmmcdeejhcjaaGreatOpenN
namespace Go.Proofs.YtghmmcdeejhcjaaGreat
open Go.RowKit Go.ChangeShapes Go.WideShapes Go.Deep

section
variable {H : Type} {enc : TypeId × Value → H} {w : World} {base : Nat} {spare : Nat → Bool} {held : Bool}
theorem int_cellsG {fuel : Nat} {cs : List Value} {x : DataW H × List MemPlace} (h : DataW.trod enc Tryz.prog w base spare held fuel 3 cs = some x) : ∃ a, cs = [.int .i64 a] ∧ I64 a := by
  obtain ⟨q, hv, _, hw⟩ := DataW.trod_int Tryz.underlying3 h
  exact ⟨q, hv, wf_i64 hw⟩
theorem rd_of_rowsG {α : Type} {cells : α → List Value} {k : Nat} (hk : ∀ x, (cells x).length = k) (hk0 : 0 < k) {a : Addr} {l : List α}
    (hq : ∀ i x, l[i]? = some x → ∀ j u, (cells x)[j]? = some u → w.cell? (a.add (i * k + j)) = some u) : Rd w w.heap.size k (some a) l.length (flat cells l) := by
  have hfl : (flat cells l).length = l.length * k := flat_length hk l
  refine ⟨hfl, fun hn => ?_⟩
  obtain ⟨r0, hr0⟩ : ∃ r, l[0]? = some r := ⟨_, List.getElem?_eq_getElem (by omega)⟩
  obtain ⟨u0, hu0⟩ : ∃ u, (cells r0)[0]? = some u := ⟨_, List.getElem?_eq_getElem (by rw [hk]; exact hk0)⟩
  have hc0 := hq 0 r0 hr0 0 u0 hu0
  have hspot : a.spot = none := by simpa [Addr.add] using World.cell?_spot hc0
  obtain ⟨b, o, sp⟩ := a
  subst hspot
  have hblt : b < w.heap.size := by
    rw [addAt] at hc0
    exact World.block_lt_of_cell? _ _ hc0
  refine ⟨b, o, rfl, hblt, fun j u hu => ?_⟩
  have hjl : j < l.length * k := by
    have := (List.getElem?_eq_some_iff.1 hu).1
    rwa [hfl] at this
  have hjd : j / k < l.length := Nat.div_lt_of_lt_mul (by rwa [Nat.mul_comm])
  obtain ⟨x, hx⟩ : ∃ x, l[j / k]? = some x := ⟨_, List.getElem?_eq_getElem hjd⟩
  have hjk : j / k * k + j % k = j := by rw [Nat.mul_comm]; exact Nat.div_add_mod j k
  have hg := flat_get hk l (j / k) (j % k) x hx (Nat.mod_lt _ hk0)
  rw [hjk, hu] at hg
  have hc := hq (j / k) x hx (j % k) u hg.symm
  rwa [addAt, hjk] at hc
theorem rows_of_trodG {t e : TypeId} {fuel : Nat} {cs : List Value} {x : DataW H × List MemPlace} {α : Type} {cells : α → List Value} {ok : α → Prop} {k : Nat} (hk0 : 0 < k) (ht : Tryz.prog.underlying t = some (.slice e)) (hc4 : Tryz.prog.cellsOf e = k)
    (hk : ∀ x, (cells x).length = k) (hel : ∀ {fuel : Nat} {cs : List Value} {x : DataW H × List MemPlace}, DataW.trod enc Tryz.prog w base spare held fuel e cs = some x → ∃ p : α, cs = cells p ∧ ok p)
    (h : DataW.trod enc Tryz.prog w base spare held fuel t cs = some x) : ∃ A n c l, cs = [.slice A n c] ∧ Rd w w.heap.size k A n (flat cells l) ∧ l.length = n ∧ (∀ p ∈ l, ok p) ∧ n ≤ maxLen := by
  rcases open_slice ht h with ⟨rfl, _⟩ | ⟨a, len, cap, m, n, D, Pl, rfl, _, hl, hm, hmm, _, hi⟩
  · exact ⟨none, 0, 0, [], rfl, Rd.zero _ _ _ _, rfl, by simp, by unfold maxLen; omega⟩
  · have hlm : len ≤ m := by rw [hmm]; split <;> omega
    have hrow : ∀ i, i < len → ∃ p : α, (∀ j u, (cells p)[j]? = some u → w.cell? (a.add (i * k + j)) = some u) ∧ ok p := by
      intro i hil
      obtain ⟨cs', hc, ht'⟩ := hi i (by omega)
      obtain ⟨p, rfl, hp⟩ := hel ht'
      rw [hc4] at hc
      obtain ⟨_, _, hat⟩ := World.cells?_some hc
      refine ⟨p, fun j u hu => ?_, hp⟩
      have hj : j < k := by
        have := (List.getElem?_eq_some_iff.1 hu).1
        rwa [hk] at this
      rw [← Go.Deep.add_add, hat j hj, hu]
    obtain ⟨l, hll, hq⟩ := list_ofN _ _ hrow
    refine ⟨some a, len, cap, l, rfl, ?_, hll, fun p hp => ?_, by omega⟩
    · have := rd_of_rowsG (w := w) (a := a) (l := l) hk hk0 fun i x hx => (hq i x hx).1
      rwa [hll] at this
    · obtain ⟨i, hi⟩ := List.getElem?_of_mem hp
      exact (hq i p hi).2
theorem ints_flatG (l : List Int) : flat (fun a => [Value.int .i64 a]) l = ints l := by
  induction l with
  | nil => rfl
  | cons a l ih => rw [flat_cons, ih]; rfl
theorem intl_of_trodG {fuel : Nat} {cs : List Value} {x : DataW H × List MemPlace} (h : DataW.trod enc Tryz.prog w base spare held fuel 22 cs = some x) : ∃ A n c l, cs = [.slice A n c] ∧ Rd w w.heap.size 1 A n (ints l) ∧ l.length = n ∧ (∀ p ∈ l, I64 p) ∧ n ≤ maxLen := by
  obtain ⟨A, n, c, l, h1, h2, h3⟩ := rows_of_trodG (k := 1) (ok := I64) (cells := fun a => [Value.int .i64 a]) (by omega) Tryz.underlying22 (by kernel_rfl) (fun _ => rfl) (fun h => int_cellsG h) h
  rw [ints_flatG] at h2
  exact ⟨A, n, c, l, h1, h2, h3⟩
end
end Go.Proofs.YtghmmcdeejhcjaaGreat
