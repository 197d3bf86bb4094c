/- Treaty rules that came in, opened with the form's own reach: no row of members takes more bytes than what is read may take. -/
import Derived.Test.YthncjohekjnjaaaTrO
import Derived.SizedLaws
namespace Go.Proofs.Ythncjohekjnjaaa
open Go.RowKit Go.ChangeShapes Go.WideShapes Go.Deep

theorem wts_all {H : Type} {P : Program} {e : TypeId} : ∀ {l : List (DataW H)} {d : DataW H} {k : Nat}, d ∈ l → k ∈ d.weights P e → k ∈ DataW.weightsAll P e l
  | [], _, _, h, _ => by cases h
  | x :: r, d, k, h, hk => by
    simp only [DataW.weightsAll, List.mem_append]
    rcases List.mem_cons.1 h with rfl | h
    · exact .inl hk
    · exact .inr (wts_all h hk)
section
variable {H : Type} {enc : TypeId × Value → H} {w : World} {base : Nat} {spare : Nat → Bool} {held : Bool}
theorem slice_reach {t e : TypeId} {fuel : Nat} {A : Option Addr} {n c B : Nat} {x : DataW H × List MemPlace} (ht : Try.prog.underlying t = some (.slice e)) (h : DataW.trod enc Try.prog w base spare held fuel t [.slice A n c] = some x) (hB : ∀ k ∈ x.1.weights Try.prog t, k ≤ B) : n * Try.prog.bytesOf e ≤ B := by
  rcases open_slice ht h with ⟨hcs, rfl⟩ | ⟨a, len, cap, m, n', D, Pl, hcs, _, _, _, _, rfl, _⟩
  · simp at hcs
    obtain ⟨_, rfl, _⟩ := hcs
    rw [Nat.zero_mul]
    exact Nat.zero_le _
  · simp at hcs
    obtain ⟨_, rfl, _⟩ := hcs
    have h1 := hB ((((List.range n).map D).length + ((List.range (m - n)).map fun j => D (n + j)).length) * Try.prog.bytesOf e) (by
      simp only [DataW.weights, ht]
      exact List.mem_cons_self)
    refine Nat.le_trans (Nat.mul_le_mul_right _ ?_) h1
    simp
theorem rules_cells_w {fuel B : Nat} {cs : List Value} {x : DataW H × List MemPlace} (h : DataW.trod enc Try.prog w base spare held fuel 27 cs = some x) (hB : ∀ k ∈ x.1.weights Try.prog 27, k ≤ B) : ∀ p : Rv, cs = p.cells → p.r.m.length * 8 ≤ B := by
  rintro p rfl
  have he : Try.prog.underlying 27 = some (.struct (Try.prog.fieldsOf 27)) := by kernel_rfl
  have hM : (Try.prog.fieldsOf 27).map (fun f => (f.offset, f.type)) = #[(0, 3), (1, 3), (2, 3), (3, 3), (4, 25)] := by kernel_rfl
  have hT : ((Try.prog.fieldsOf 27).toList.map (·.type))[4]? = some 25 := by kernel_rfl
  have hs : (Try.prog.fieldsOf 27).size = 5 := by kernel_rfl
  have hk : Try.prog.cellsOf 25 = 1 := by kernel_rfl
  have h8 : Try.prog.bytesOf 3 = 8 := by kernel_rfl
  obtain ⟨ys, n', _, rfl, hlen, hyl, hf⟩ := DataW.trod_struct he h
  rw [hs] at hyl
  obtain ⟨f4, g4, o4, t4⟩ := fld hM (j := 4) rfl
  obtain ⟨y4, e4⟩ := some_at hyl (j := 4) (by omega)
  have k4 := hf 4 f4 g4
  rw [o4, t4, hk, e4] at k4
  have k5 : DataW.trod enc Try.prog w base spare held n' 25 [.slice p.a p.r.m.length p.c] = some y4 := k4
  have h1 := slice_reach (B := B) Try.underlying25 k5 fun k hk => hB k (by
    simp only [DataW.weights, he]
    exact DataW.weights_mem_each (j := 4) hT (by rw [List.getElem?_map, e4]; rfl) k hk)
  rwa [h8] at h1
theorem rules_of_trod_w {fuel B : Nat} {cs : List Value} {x : DataW H × List MemPlace} (h : DataW.trod enc Try.prog w base spare held fuel 22 cs = some x) (hB : ∀ k ∈ x.1.weights Try.prog 22, k ≤ B) : ∃ A n c X, cs = [.slice A n c] ∧ Rus w w.heap.size A n X ∧ (∀ p ∈ X, p.r.m.length * 8 ≤ B) ∧ n ≤ maxLen := by
  obtain ⟨A, n, c, X, rfl, h2, h3, h4⟩ := rules_of_trod h
  refine ⟨A, n, c, X, rfl, h2, fun p hp => ?_, h4⟩
  rcases open_slice Try.underlying22 h with ⟨e, rfl⟩ | ⟨a, len, cap, m, n', D, Pl, e, _, hl, _, hmm, rfl, hi⟩
  · simp at e
    obtain ⟨_, rfl, _⟩ := e
    rw [List.eq_nil_of_length_eq_zero h2.2.1] at hp
    cases hp
  · simp at e
    obtain ⟨rfl, rfl, _⟩ := e
    obtain ⟨i, hx⟩ := List.mem_iff_getElem?.1 hp
    obtain ⟨hin, b, o, e, _, q0, q1, q2, q3, q4, _⟩ := rv_cells h2 hx
    injection e with e
    subst e
    have hlm : n ≤ m := by rw [hmm]; split <;> omega
    obtain ⟨cs', hc, ht'⟩ := hi i (by omega)
    rw [show Try.prog.cellsOf 27 = 5 by kernel_rfl] at hc
    obtain ⟨_, hcl, hat⟩ := World.cells?_some hc
    have hcs : cs' = p.cells := by
      apply List.ext_getElem?
      intro j
      by_cases hj : j < 5
      · rw [← hat j hj, addAt, addAt]
        show w.cell? ⟨b, o + i * 5 + j, none⟩ = _
        have hj5 : j = 0 ∨ j = 1 ∨ j = 2 ∨ j = 3 ∨ j = 4 := by omega
        rcases hj5 with rfl | rfl | rfl | rfl | rfl
        · exact q0
        · exact q1
        · exact q2
        · exact q3
        · exact q4
      · rw [List.getElem?_eq_none (by omega), List.getElem?_eq_none (by rw [rv_len]; omega)]
    refine rules_cells_w ht' (fun k hk => hB k ?_) p hcs
    simp only [DataW.weights, Try.underlying22, List.mem_cons, List.mem_append]
    exact .inr (.inl (wts_all (List.mem_map.2 ⟨i, List.mem_range.2 hin, rfl⟩) hk))
theorem reach_len {m B : Nat} (h : m * 8 ≤ reachBytes) (hB : 17592186044416 = B) : m ≤ B := by
  have := reachBytes_lt
  omega
end
end Go.Proofs.Ythncjohekjnjaaa
