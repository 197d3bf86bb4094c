/- A slice of structs whose fields are all ints, that came in as an argument, read as a list of numbers. -/
import Derived.Test.YtghmmcdeejhcjaaGreatInsA
import Derived.Deep.Slices
import Derived.Deep.Fields
import Derived.ChangeSame
namespace Go.Proofs.YtghmmcdeejhcjaaGreat
open Go.ChangeShapes Go.WideShapes Go.Deep Go.RowKit

def I64 (n : Int) : Prop := -9223372036854775808 ≤ n ∧ n ≤ 9223372036854775807
section
variable {H : Type} {enc : TypeId × Value → H} {P : Program} {w : World} {base : Nat} {spare : Nat → Bool} {held : Bool}
theorem open_slice_fields {t e : TypeId} {fs : Array Field} {fuel : Nat} {cs : List Value} {x : DataW H × List MemPlace} (ht : P.underlying t = some (.slice e)) (he : P.underlying e = some (.struct fs))
    (hone : oneCellFields P fs = true) (hC : P.cellsOf e = fs.size) (h : DataW.trod enc P w base spare held fuel t cs = some x) :
    (cs = [.slice none 0 0] ∧ x = (.nil, [])) ∨
    ∃ (a : Addr) (len cap m : Nat) (D : Nat → DataW H) (Pl : Nat → List MemPlace), cs = [.slice (some a) len cap] ∧ base ≤ a.block ∧ len ≤ cap ∧ cap ≤ maxLen ∧ m = (if spare a.block then cap else len) ∧
      x = (.slice ((List.range len).map D) ((List.range (m - len)).map fun j => D (len + j)), MemPlace.row a (m * fs.size) ++ (List.range m).flatMap Pl) ∧
      ∀ i, i < m → ∃ (ys : List (DataW H × List MemPlace)) (n : Nat), D i = .agg (ys.map (·.1)) ∧ Pl i = ys.flatMap (·.2) ∧ ys.length = fs.size ∧
        ∀ (j : Nat) (f : Field), fs[j]? = some f → ∃ (v : Value) (y : DataW H × List MemPlace), w.cell? (a.add (i * fs.size + j)) = some v ∧ ys[j]? = some y ∧ DataW.trod enc P w base spare held n f.type [v] = some y := by
  rcases open_slice ht h with h0 | ⟨a, len, cap, m, n, D, Pl, hcs, hb, hl, hm, hmm, hx, hi⟩
  · exact .inl h0
  · refine .inr ⟨a, len, cap, m, D, Pl, hcs, hb, hl, hm, hmm, by rw [hC] at hx; exact hx, fun i him => ?_⟩
    obtain ⟨cs', hc, ht'⟩ := hi i him
    rw [hC] at hc
    obtain ⟨ys, n', hn', hy, hlen, hyl, hf⟩ := DataW.trod_struct he ht'
    obtain ⟨_, hcl, hat⟩ := World.cells?_some hc
    simp only [Prod.mk.injEq] at hy
    refine ⟨ys, n', hy.1, hy.2, hyl, fun j f hj => ?_⟩
    obtain ⟨ho, hk⟩ := hone_of hone j f hj
    have hjl : j < fs.size := (Array.getElem?_eq_some_iff.1 hj).1
    have hcell := hat j hjl
    have hv : cs'[j]? = some (cs'[j]'(by omega)) := List.getElem?_eq_getElem (by omega)
    have h1 := hf j f hj
    rw [ho, hk] at h1
    have hone' : (cs'.drop j).take 1 = [cs'[j]'(by omega)] := by
      rw [List.drop_eq_getElem_cons (by omega)]
      rfl
    rw [hone'] at h1
    have hys : ys[j]? = some (ys[j]'(by omega)) := List.getElem?_eq_getElem (by omega)
    refine ⟨_, _, ?_, hys, h1.trans hys⟩
    rw [← Go.Deep.add_add, hcell, hv]
end

theorem wf_i64 {n : Int} (h : (Lit.int .i64 n).wf = true) : I64 n := by
  have h2 : decide (IntKind.i64.min ≤ n) = true ∧ decide (n ≤ IntKind.i64.max) = true := by simpa [Lit.wf] using h
  have e1 : IntKind.i64.min = -9223372036854775808 := by decide
  have e2 : IntKind.i64.max = 9223372036854775807 := by decide
  rw [e1, e2] at h2
  exact ⟨of_decide_eq_true h2.1, of_decide_eq_true h2.2⟩

theorem list_ofN {α : Type} (Q : Nat → α → Prop) : ∀ n : Nat, (∀ i, i < n → ∃ r, Q i r) → ∃ l : List α, l.length = n ∧ ∀ i r, l[i]? = some r → Q i r
  | 0, _ => ⟨[], rfl, by simp⟩
  | n + 1, h => by
    obtain ⟨l, hl, hq⟩ := list_ofN Q n fun i hi => h i (by omega)
    obtain ⟨r, hr⟩ := h n (by omega)
    refine ⟨l ++ [r], by simp [hl], fun i x hx => ?_⟩
    rw [List.getElem?_append] at hx
    split at hx
    · exact hq i x hx
    · have hi : i - l.length = 0 := by
        apply Classical.byContradiction
        intro h0
        rw [List.getElem?_eq_none (by simp; omega)] at hx
        cases hx
      rw [hi] at hx
      have : r = x := by simpa using hx
      subst this
      have : i = n := by omega
      subst this
      exact hr

/-- The slice reads as numbers, k of them an element. -/
theorem ints_of_trod {H : Type} {enc : TypeId × Value → H} {w : World} {base : Nat} {spare : Nat → Bool} {held : Bool} {t e : TypeId} {fuel : Nat} {cs : List Value} {x : DataW H × List MemPlace} (k : Nat)
    (ht : Tryz.prog.underlying t = some (.slice e)) (he : Tryz.prog.underlying e = some (.struct (Tryz.prog.fieldsOf e))) (hone : oneCellFields Tryz.prog (Tryz.prog.fieldsOf e) = true) (hC : Tryz.prog.cellsOf e = (Tryz.prog.fieldsOf e).size)
    (h4 : (Tryz.prog.fieldsOf e).size = k) (hk0 : 0 < k) (hty : (Tryz.prog.fieldsOf e).toList.all (fun f => f.type == 3) = true) (h : DataW.trod enc Tryz.prog w base spare held fuel t cs = some x) :
    ∃ A n c xs, cs = [.slice A n c] ∧ Rd w w.heap.size k A n (ints xs) ∧ (∀ x ∈ xs, I64 x) ∧ n ≤ maxLen := by
  rcases open_slice_fields ht he hone hC h with ⟨rfl, _⟩ | ⟨a, len, cap, m, D, Pl, rfl, _, hl, hm, hmm, _, hf⟩
  · exact ⟨none, 0, 0, [], rfl, Rd.zero _ _ _ _, by simp, by unfold maxLen; omega⟩
  · have hlm : len ≤ m := by rw [hmm]; split <;> omega
    have hint : ∀ i j, i < m → j < k → ∃ n : Int, w.cell? (a.add (i * k + j)) = some (.int .i64 n) ∧ I64 n := by
      intro i j hi hj
      obtain ⟨ys, n, _, _, _, hall⟩ := hf i hi
      have hjs : j < (Tryz.prog.fieldsOf e).size := by omega
      obtain ⟨v, y, hcell, _, htr⟩ := hall j ((Tryz.prog.fieldsOf e)[j]) (Array.getElem?_eq_getElem hjs)
      have htt : ((Tryz.prog.fieldsOf e)[j]).type = 3 := by
        have := List.all_eq_true.1 hty ((Tryz.prog.fieldsOf e)[j]) (by simp)
        simpa using this
      rw [htt] at htr
      obtain ⟨q, hv, _, hw⟩ := DataW.trod_int Tryz.underlying3 htr
      rw [h4] at hcell
      injection hv with hv
      rw [hv] at hcell
      exact ⟨q, hcell, wf_i64 hw⟩
    have hex : ∀ j, j < len * k → ∃ n : Int, w.cell? (a.add j) = some (.int .i64 n) ∧ I64 n := by
      intro j hj
      have h1 : j / k < len := Nat.div_lt_of_lt_mul (by rwa [Nat.mul_comm])
      have h2 := hint (j / k) (j % k) (by omega) (Nat.mod_lt _ hk0)
      rwa [Nat.mul_comm, Nat.div_add_mod] at h2
    obtain ⟨l, hll, hq⟩ := list_ofN _ _ hex
    refine ⟨some a, len, cap, l, rfl, ⟨by rw [ints_length, hll], fun hn => ?_⟩, fun r hr => ?_, by omega⟩
    · have hpos : 0 < l.length := by rw [hll]; exact Nat.mul_pos hn hk0
      obtain ⟨r0, hr0⟩ : ∃ r, l[0]? = some r := ⟨_, List.getElem?_eq_getElem hpos⟩
      obtain ⟨hc0, _⟩ := hq 0 r0 hr0
      have hspot : a.spot = none := by simpa [Addr.add] using World.cell?_spot hc0
      obtain ⟨b, o, sp⟩ := a
      subst hspot
      have hblt : b < w.heap.size := by
        rw [addAt] at hc0
        exact World.block_lt_of_cell? _ _ hc0
      refine ⟨b, o, rfl, hblt, fun j u hu => ?_⟩
      rw [ints_at] at hu
      obtain ⟨x, hx, hxu⟩ := Option.map_eq_some_iff.1 hu
      obtain ⟨hc, _⟩ := hq j x hx
      rw [addAt] at hc
      rw [← hxu]
      exact hc
    · obtain ⟨i, hi⟩ := List.getElem?_of_mem hr
      exact (hq i r hi).2
end Go.Proofs.YtghmmcdeejhcjaaGreat
