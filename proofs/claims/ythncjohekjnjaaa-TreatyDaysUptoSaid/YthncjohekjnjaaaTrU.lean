/- Treaty rules that came in, opened with the bound of their bulk: no row of members is longer than what was read. -/
import Derived.Test.YthncjohekjnjaaaTrO
import Derived.Test.YthncjohekjnjaaaRows
namespace Go.Proofs.Ythncjohekjnjaaa
open Go.RowKit Go.ChangeShapes Go.WideShapes Go.Deep

theorem blk_one {H : Type} (d : DataW H) : 1 ≤ Rows.uptoBulk d := by
  cases d with
  | lit l => cases l <;> simp [Rows.uptoBulk]
  | nil => simp [Rows.uptoBulk]
  | ptr d => simp [Rows.uptoBulk]
  | slice elems spare => simp [Rows.uptoBulk]
  | agg parts => simp [Rows.uptoBulk]
  | iface t d => simp [Rows.uptoBulk]
  | map entries => simp [Rows.uptoBulk]
  | held h => simp [Rows.uptoBulk]
theorem blk_mem {H : Type} : ∀ {l : List (DataW H)} {d : DataW H}, d ∈ l → Rows.uptoBulk d ≤ Rows.uptoBulkAll l
  | [], _, h => by cases h
  | x :: r, d, h => by
    simp only [Rows.uptoBulkAll]
    rcases List.mem_cons.1 h with rfl | h
    · omega
    · have := blk_mem h
      omega
theorem blk_len {H : Type} : ∀ (l : List (DataW H)), l.length ≤ Rows.uptoBulkAll l
  | [] => Nat.zero_le _
  | x :: r => by
    have h1 := blk_one x
    have h2 := blk_len r
    simp only [Rows.uptoBulkAll, List.length_cons]
    omega
section
variable {H : Type} {enc : TypeId × Value → H} {w : World} {base : Nat} {spare : Nat → Bool} {held : Bool}
/-- A slice is no longer than its reading. -/
theorem slice_bulk {t e : TypeId} {fuel : Nat} {A : Option Addr} {n c : Nat} {x : DataW H × List MemPlace} (ht : Try.prog.underlying t = some (.slice e)) (h : DataW.trod enc Try.prog w base spare held fuel t [.slice A n c] = some x) : n ≤ Rows.uptoBulk x.1 := by
  rcases open_slice ht h with ⟨e, rfl⟩ | ⟨a, len, cap, m, n', D, Pl, e, _, _, _, _, rfl, _⟩
  · simp at e
    omega
  · simp at e
    obtain ⟨_, rfl, _⟩ := e
    have := blk_len ((List.range n).map D)
    simp only [Rows.uptoBulk]
    simp at this
    omega
theorem rules_cells_u {fuel : Nat} {cs : List Value} {x : DataW H × List MemPlace} (h : DataW.trod enc Try.prog w base spare held fuel 27 cs = some x) : ∀ p : Rv, cs = p.cells → p.r.m.length ≤ Rows.uptoBulk x.1 := by
  rintro p rfl
  have he : Try.prog.underlying 27 = some (.struct (Try.prog.fieldsOf 27)) := by kernel_rfl
  have hM : (Try.prog.fieldsOf 27).map (fun f => (f.offset, f.type)) = #[(0, 3), (1, 3), (2, 3), (3, 3), (4, 25)] := by kernel_rfl
  have hs : (Try.prog.fieldsOf 27).size = 5 := by kernel_rfl
  have hk : Try.prog.cellsOf 25 = 1 := by kernel_rfl
  obtain ⟨ys, n', _, rfl, hlen, hyl, hf⟩ := DataW.trod_struct he h
  rw [hs] at hyl
  obtain ⟨f4, g4, o4, t4⟩ := fld hM (j := 4) rfl
  obtain ⟨y4, e4⟩ := some_at hyl (j := 4) (by omega)
  have k4 := hf 4 f4 g4
  rw [o4, t4, hk, e4] at k4
  have k5 : DataW.trod enc Try.prog w base spare held n' 25 [.slice p.a p.r.m.length p.c] = some y4 := k4
  have h1 := slice_bulk Try.underlying25 k5
  have h2 : Rows.uptoBulk y4.1 ≤ Rows.uptoBulkAll (ys.map (·.1)) := blk_mem (List.mem_map.2 ⟨y4, List.mem_of_getElem? e4, rfl⟩)
  simp only [Rows.uptoBulk]
  omega
theorem rules_of_trod_u {fuel : Nat} {cs : List Value} {x : DataW H × List MemPlace} (h : DataW.trod enc Try.prog w base spare held fuel 22 cs = some x) : ∃ A n c X, cs = [.slice A n c] ∧ Rus w w.heap.size A n X ∧ (∀ p ∈ X, p.r.m.length ≤ Rows.uptoBulk x.1) ∧ n ≤ maxLen := by
  obtain ⟨A, n, c, X, rfl, h2, h3, h4⟩ := rules_of_trod h
  refine ⟨A, n, c, X, rfl, h2, fun p hp => ?_, h4⟩
  rcases open_slice Try.underlying22 h with ⟨e, rfl⟩ | ⟨a, len, cap, m, n', D, Pl, e, _, hl, _, hmm, rfl, hi⟩
  · simp at e
    obtain ⟨_, rfl, _⟩ := e
    rw [List.eq_nil_of_length_eq_zero h2.2.1] at hp
    cases hp
  · simp at e
    obtain ⟨rfl, rfl, _⟩ := e
    obtain ⟨i, hx⟩ := List.mem_iff_getElem?.1 hp
    obtain ⟨hin, b, o, e, _, q0, q1, q2, q3, q4, _⟩ := rv_cells h2 hx
    injection e with e
    subst e
    have hlm : n ≤ m := by rw [hmm]; split <;> omega
    obtain ⟨cs', hc, ht'⟩ := hi i (by omega)
    rw [show Try.prog.cellsOf 27 = 5 by kernel_rfl] at hc
    obtain ⟨_, hcl, hat⟩ := World.cells?_some hc
    have hcs : cs' = p.cells := by
      apply List.ext_getElem?
      intro j
      by_cases hj : j < 5
      · rw [← hat j hj, addAt, addAt]
        show w.cell? ⟨b, o + i * 5 + j, none⟩ = _
        have hj5 : j = 0 ∨ j = 1 ∨ j = 2 ∨ j = 3 ∨ j = 4 := by omega
        rcases hj5 with rfl | rfl | rfl | rfl | rfl
        · exact q0
        · exact q1
        · exact q2
        · exact q3
        · exact q4
      · rw [List.getElem?_eq_none (by omega), List.getElem?_eq_none (by rw [rv_len]; omega)]
    have h5 := rules_cells_u ht' p hcs
    have h6 : Rows.uptoBulk (D i) ≤ Rows.uptoBulkAll ((List.range n).map D) := blk_mem (List.mem_map.2 ⟨i, List.mem_range.2 hin, rfl⟩)
    simp only [Rows.uptoBulk]
    simp only at h5
    omega
end
end Go.Proofs.Ythncjohekjnjaaa
