/- Pieces in memory: a row of the call's own whose elements hold rows of numbers of the call's own. -/
import Derived.Test.YtghmmcdeejhcjaaGreatPcMem
import Derived.Test.YtghmmcdeejhcjaaGreatSpLawA
namespace Go.Proofs.YtghmmcdeejhcjaaGreat
open Go.RowKit

/-- A piece with the place of its members. -/
structure Pw where
  p : Pc
  a : Option Addr
  c : Nat
def Pw.cells (x : Pw) : List Value := [.int .i64 x.p.f, .int .i64 x.p.t, .slice x.a x.p.m.length x.c]
theorem pw_len (x : Pw) : x.cells.length = 3 := rfl
theorem pw_flen (l : List Pw) : (flat Pw.cells l).length = l.length * 3 := flat_length pw_len l
theorem pw_one (l : List Pw) : ∀ u ∈ flat Pw.cells l, u.oneCell' = true := by
  intro u hu
  obtain ⟨x, _, hx⟩ := List.mem_flatMap.1 hu
  simp only [Pw.cells, List.mem_cons, List.not_mem_nil, or_false] at hx
  rcases hx with rfl | rfl | rfl <;> rfl
theorem info_lists : (Tryz.prog.info? 56).map (fun i => (i.zero, i.size, i.bytes)) = some (some (.slice none 0 0), 1, 24) := by kernel_rfl

/-- Rows whose elements are of two types lie apart. -/
theorem own_apart {w : World} {base base' e e' sz sz' n n' : Nat} {v v' : Value} {xs xs' : List Value} (h : w.ownsRow base e sz v n xs) (h' : w.ownsRow base' e' sz' v' n' xs') (hne : e ≠ e') : v.ownBlock = none ∨ v.ownBlock ≠ v'.ownBlock := by
  rcases h.2 with ⟨rfl, _⟩ | ⟨g, cap, cur, rfl, _, hg, _⟩
  · exact .inl rfl
  · refine .inr ?_
    rcases h'.2 with ⟨rfl, _⟩ | ⟨g', cap', cur', rfl, _, hg', _⟩
    · simp [Value.ownBlock]
    · intro e2
      have e3 : g = g' := by simpa [Value.ownBlock] using e2
      rw [e3, hg'] at hg
      injection hg with hg
      injection hg with _ ht
      exact hne ht.symm
theorem own_under {w w' : World} {base e sz n : Nat} {v : Value} {xs : List Value} (h : w.ownsRow base e sz v n xs) (hb : Below w.heap.size w w') : w'.ownsRow base e sz v n xs :=
  h.kept (row := none) (grownBy_of_below hb none) (Classical.em _)
theorem own_setCell_apart {w : World} {base base' e e' sz sz' n n' : Nat} {v v' : Value} {xs xs' : List Value} (h : w.ownsRow base e sz v n xs) (h' : w.ownsRow base' e' sz' v' n' xs') (hne : e ≠ e') {p : Addr} (hp : v'.ownBlock = some p.block) (u : Value) : (w.setCell p u).ownsRow base e sz v n xs := by
  rcases own_apart h h' hne with h1 | h1
  · exact h.kept (row := some p.block) ⟨rfl, rfl, rfl, by simp, fun k _ hk => heap_setCell_other w p k u (fun e => hk (by rw [e]))⟩ (.inl h1)
  · exact ownsRow_setCell_ne h (by rw [← hp]; exact h1) u

/-- The members of a piece lie in a row of their own. -/
def Mr (w : World) (base : Nat) (x : Pw) : Prop := w.ownsRow base 3 1 (.slice x.a x.p.m.length x.c) x.p.m.length (ints x.p.m)
/-- The end of the last piece set. -/
theorem flat_set_end (X : List Pw) (q : Pw) (b : Int) : (flat Pw.cells (X ++ [q])).set (X.length * 3 + 1) (.int .i64 b) = flat Pw.cells (X ++ [⟨⟨q.p.f, b, q.p.m⟩, q.a, q.c⟩]) := by
  rw [flat_append, flat_append, flat_one, flat_one, List.set_append_right _ _ (by rw [pw_flen]; omega), pw_flen, show X.length * 3 + 1 - X.length * 3 = 1 by omega]
  rfl
theorem flat_set_all (X : List Pw) (q : Pw) (b : Int) : (((flat Pw.cells (X ++ [q])).set (X.length * 3) (.int .i64 q.p.f)).set (X.length * 3 + 1) (.int .i64 b)).set (X.length * 3 + 2) (.slice q.a q.p.m.length q.c) = flat Pw.cells (X ++ [⟨⟨q.p.f, b, q.p.m⟩, q.a, q.c⟩]) := by
  rw [flat_append, flat_append, flat_one, flat_one, List.set_append_right _ _ (by rw [pw_flen]; omega), List.set_append_right _ _ (by rw [pw_flen]; omega), List.set_append_right _ _ (by rw [pw_flen]; omega), pw_flen, show X.length * 3 + 1 - X.length * 3 = 1 by omega, show X.length * 3 + 2 - X.length * 3 = 2 by omega, Nat.sub_self]
  rfl
/-- The cells of one piece. -/
theorem pw_cells {w : World} {B n : Nat} {A : Option Addr} {X : List Pw} (h : Rd w B 3 A n (flat Pw.cells X)) {k : Nat} {x : Pw} (hx : X[k]? = some x) :
    k < n ∧ ∃ b o, A = some ⟨b, o, none⟩ ∧ b < B ∧ w.cell? ⟨b, o + k * 3, none⟩ = some (.int .i64 x.p.f) ∧ w.cell? ⟨b, o + k * 3 + 1, none⟩ = some (.int .i64 x.p.t) ∧ w.cell? ⟨b, o + k * 3 + 2, none⟩ = some (.slice x.a x.p.m.length x.c) := by
  obtain ⟨hk, b, o, e, hb, hc⟩ := h.elem pw_len hx (by omega)
  exact ⟨hk, b, o, e, hb, by simpa using hc 0 _ rfl, hc 1 _ rfl, hc 2 _ rfl⟩
theorem addP_map (X : List Pw) (q : Pw) (a b : Int) (m : List Int) : addP ((X ++ [q]).map Pw.p) a b m = if m = [] then (X ++ [q]).map Pw.p else if q.p.t = a ∧ q.p.m = m then X.map Pw.p ++ [⟨q.p.f, b, q.p.m⟩] else (X ++ [q]).map Pw.p ++ [⟨a, b, m⟩] := by
  rw [List.map_append, List.map_cons, List.map_nil, addP_snoc]
  split
  · rfl
  · split
    · rename_i h
      rw [h.2]
    · simp
end Go.Proofs.YtghmmcdeejhcjaaGreat
