/- A slice of treaty rules that came in, opened. -/
import Derived.Test.YthncjohekjnjaaaTrA
import Derived.Test.YthncjohekjnjaaaOvO
namespace Go.Proofs.Ythncjohekjnjaaa
open Go.RowKit Go.ChangeShapes Go.WideShapes Go.Deep

/-- What is known of rules that came in. -/
def Rv.Ok (w : World) (x : Rv) : Prop := Rd w w.heap.size 1 x.a x.r.m.length (ints x.r.m) ∧ x.r.m.length ≤ maxLen ∧ I64 x.r.f
theorem len5 {cs : List Value} (h : cs.length = 5) : ∃ a b c d e, cs = [a, b, c, d, e] := by
  match cs, h with
  | [a, b, c, d, e], _ => exact ⟨a, b, c, d, e, rfl⟩
section
variable {H : Type} {enc : TypeId × Value → H} {w : World} {base : Nat} {spare : Nat → Bool} {held : Bool}
theorem rules_cells {fuel : Nat} {cs : List Value} {x : DataW H × List MemPlace} (h : DataW.trod enc Try.prog w base spare held fuel 27 cs = some x) : ∃ p : Rv, cs = p.cells ∧ p.Ok w := by
  have he : Try.prog.underlying 27 = some (.struct (Try.prog.fieldsOf 27)) := by kernel_rfl
  have hM : (Try.prog.fieldsOf 27).map (fun f => (f.offset, f.type)) = #[(0, 3), (1, 3), (2, 3), (3, 3), (4, 25)] := by kernel_rfl
  have hs : (Try.prog.fieldsOf 27).size = 5 := by kernel_rfl
  have hc : Try.prog.cellsOf 27 = 5 := by kernel_rfl
  have hi : Try.prog.cellsOf 3 = 1 := by kernel_rfl
  have hk : Try.prog.cellsOf 25 = 1 := by kernel_rfl
  obtain ⟨ys, n', _, _, hlen, hyl, hf⟩ := DataW.trod_struct he h
  rw [hc] at hlen
  rw [hs] at hyl
  obtain ⟨f0, g0, o0, t0⟩ := fld hM (j := 0) rfl
  obtain ⟨f1, g1, o1, t1⟩ := fld hM (j := 1) rfl
  obtain ⟨f2, g2, o2, t2⟩ := fld hM (j := 2) rfl
  obtain ⟨f3, g3, o3, t3⟩ := fld hM (j := 3) rfl
  obtain ⟨f4, g4, o4, t4⟩ := fld hM (j := 4) rfl
  obtain ⟨y0, e0⟩ := some_at hyl (j := 0) (by omega)
  obtain ⟨y1, e1⟩ := some_at hyl (j := 1) (by omega)
  obtain ⟨y2, e2⟩ := some_at hyl (j := 2) (by omega)
  obtain ⟨y3, e3⟩ := some_at hyl (j := 3) (by omega)
  obtain ⟨y4, e4⟩ := some_at hyl (j := 4) (by omega)
  have k0 := hf 0 f0 g0
  have k1 := hf 1 f1 g1
  have k2 := hf 2 f2 g2
  have k3 := hf 3 f3 g3
  have k4 := hf 4 f4 g4
  rw [o0, t0, hi, e0] at k0
  rw [o1, t1, hi, e1] at k1
  rw [o2, t2, hi, e2] at k2
  rw [o3, t3, hi, e3] at k3
  rw [o4, t4, hk, e4] at k4
  obtain ⟨a, b, c, d, e, rfl⟩ := len5 hlen
  obtain ⟨p, hp, wp⟩ := int_cells k0
  obtain ⟨q, hq, wq⟩ := int_cells k1
  obtain ⟨r, hr, wr⟩ := int_cells k2
  obtain ⟨s, hs2, ws⟩ := int_cells k3
  obtain ⟨A, n, cc, l, hl, hrd, hll, _, hn⟩ := intl_of_trod k4
  simp at hp hq hr hs2 hl
  subst hll
  exact ⟨⟨⟨p, q, r, s, l⟩, A, cc⟩, by rw [hp, hq, hr, hs2, hl]; rfl, hrd, hn, wp⟩
theorem rules_of_trod {fuel : Nat} {cs : List Value} {x : DataW H × List MemPlace} (h : DataW.trod enc Try.prog w base spare held fuel 22 cs = some x) : ∃ A n c X, cs = [.slice A n c] ∧ Rus w w.heap.size A n X ∧ (∀ p ∈ X, p.Ok w) ∧ n ≤ maxLen := by
  obtain ⟨A, n, c, X, h1, h2, h3, h4, h5⟩ := rows_of_trod (k := 5) (ok := Rv.Ok w) (by omega) Try.underlying22 (by kernel_rfl) rv_len (fun h => rules_cells h) h
  exact ⟨A, n, c, X, h1, ⟨h2, h3, fun x hx => (h4 x hx).1⟩, h4, h5⟩
end
end Go.Proofs.Ythncjohekjnjaaa
