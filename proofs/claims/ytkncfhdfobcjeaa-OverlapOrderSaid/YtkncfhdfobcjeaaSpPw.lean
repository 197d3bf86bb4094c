/- Pieces in memory: a row of the call's own whose elements hold rows of numbers of the call's own. -/
import Derived.Test.YtkncfhdfobcjeaaPcMem
import Derived.Test.YtkncfhdfobcjeaaSpLawA
namespace Go.Proofs.Ytkncfhdfobcjeaa
open Go.RowKit

/-- A piece with the place of its members. -/
structure Pw where
  p : Pc
  a : Option Addr
  c : Nat
def Pw.cells (x : Pw) : List Value := [.int .i64 x.p.f, .int .i64 x.p.t, .slice x.a x.p.m.length x.c]
theorem pw_len (x : Pw) : x.cells.length = 3 := rfl
theorem pw_flen (l : List Pw) : (flat Pw.cells l).length = l.length * 3 := flat_length pw_len l
theorem pw_one (l : List Pw) : ∀ u ∈ flat Pw.cells l, u.oneCell' = true := by
  intro u hu
  obtain ⟨x, _, hx⟩ := List.mem_flatMap.1 hu
  simp only [Pw.cells, List.mem_cons, List.not_mem_nil, or_false] at hx
  rcases hx with rfl | rfl | rfl <;> rfl
theorem info_piece : (Try.prog.info? 86).map (fun i => (i.zero, i.size, i.bytes)) = some (some (.agg #[.int .i64 0, .int .i64 0, .slice none 0 0]), 3, 40) := by kernel_rfl
theorem info_lists : (Try.prog.info? 34).map (fun i => (i.zero, i.size, i.bytes)) = some (some (.slice none 0 0), 1, 24) := by kernel_rfl

/-- Rows whose elements are of two types lie apart. -/
theorem own_apart {w : World} {base base' e e' sz sz' n n' : Nat} {v v' : Value} {xs xs' : List Value} (h : w.ownsRow base e sz v n xs) (h' : w.ownsRow base' e' sz' v' n' xs') (hne : e ≠ e') : v.ownBlock = none ∨ v.ownBlock ≠ v'.ownBlock := by
  rcases h.2 with ⟨rfl, _⟩ | ⟨g, cap, cur, rfl, _, hg, _⟩
  · exact .inl rfl
  · refine .inr ?_
    rcases h'.2 with ⟨rfl, _⟩ | ⟨g', cap', cur', rfl, _, hg', _⟩
    · simp [Value.ownBlock]
    · intro e2
      have e3 : g = g' := by simpa [Value.ownBlock] using e2
      rw [e3, hg'] at hg
      injection hg with hg
      injection hg with _ ht
      exact hne ht.symm
theorem own_under {w w' : World} {base e sz n : Nat} {v : Value} {xs : List Value} (h : w.ownsRow base e sz v n xs) (hb : Below w.heap.size w w') : w'.ownsRow base e sz v n xs :=
  h.kept (row := none) (grownBy_of_below hb none) (Classical.em _)
theorem own_setCell_apart {w : World} {base base' e e' sz sz' n n' : Nat} {v v' : Value} {xs xs' : List Value} (h : w.ownsRow base e sz v n xs) (h' : w.ownsRow base' e' sz' v' n' xs') (hne : e ≠ e') {p : Addr} (hp : v'.ownBlock = some p.block) (u : Value) : (w.setCell p u).ownsRow base e sz v n xs := by
  rcases own_apart h h' hne with h1 | h1
  · exact h.kept (row := some p.block) ⟨rfl, rfl, rfl, by simp, fun k _ hk => heap_setCell_other w p k u (fun e => hk (by rw [e]))⟩ (.inl h1)
  · exact ownsRow_setCell_ne h (by rw [← hp]; exact h1) u

/-- The members of a piece lie in a row of their own. -/
def Mr (w : World) (base : Nat) (x : Pw) : Prop := w.ownsRow base 3 1 (.slice x.a x.p.m.length x.c) x.p.m.length (ints x.p.m)
/-- The value v is a row of pieces. -/
def Pws (w : World) (base : Nat) (v : Value) (X : List Pw) : Prop := w.ownsRow base 86 3 v X.length (flat Pw.cells X) ∧ ∀ x ∈ X, Mr w base x
theorem Pws.nil (w : World) (base : Nat) : Pws w base (.slice none 0 0) [] := ⟨World.ownsRow_nil _ _ _ _, by simp⟩
theorem Pws.under {w w' : World} {base : Nat} {v : Value} {X : List Pw} (h : Pws w base v X) (hb : Below w.heap.size w w') : Pws w' base v X := ⟨own_under h.1 hb, fun x hx => own_under (h.2 x hx) hb⟩
theorem Pws.base {w : World} {base base' : Nat} {v : Value} {X : List Pw} (h : Pws w base v X) (hb : base' ≤ base) : Pws w base' v X := ⟨ownsRow_base h.1 hb, fun x hx => ownsRow_base (h.2 x hx) hb⟩
/-- Behind an append to the row. -/
theorem Pws.grown {w w' : World} {base : Nat} {v v' : Value} {X : List Pw} {x : Pw} (h : Pws w base v X) (hx : Mr w base x) (hg : w.grownBy w' v.ownBlock) (h' : w'.ownsRow base 86 3 v' (X.length + 1) (flat Pw.cells X ++ x.cells)) : Pws w' base v' (X ++ [x]) := by
  refine ⟨?_, fun y hy => ?_⟩
  · rw [List.length_append, flat_append, flat_one]
    exact h'
  · rcases List.mem_append.1 hy with hy | hy
    · exact (h.2 y hy).kept hg (own_apart (h.2 y hy) h.1 (by decide))
    · rw [List.mem_singleton.1 hy]
      exact hx.kept hg (own_apart hx h.1 (by decide))
/-- The end of the last piece set. -/
theorem flat_set_end (X : List Pw) (q : Pw) (b : Int) : (flat Pw.cells (X ++ [q])).set (X.length * 3 + 1) (.int .i64 b) = flat Pw.cells (X ++ [⟨⟨q.p.f, b, q.p.m⟩, q.a, q.c⟩]) := by
  rw [flat_append, flat_append, flat_one, flat_one, List.set_append_right _ _ (by rw [pw_flen]; omega), pw_flen, show X.length * 3 + 1 - X.length * 3 = 1 by omega]
  rfl
theorem Pws.setEnd {w : World} {base g n c : Nat} {X : List Pw} {q : Pw} (h : Pws w base (.slice (some ⟨g, 0, none⟩) n c) (X ++ [q])) (b : Int) : Pws (w.setCell ⟨g, X.length * 3 + 1, none⟩ (.int .i64 b)) base (.slice (some ⟨g, 0, none⟩) n c) (X ++ [⟨⟨q.p.f, b, q.p.m⟩, q.a, q.c⟩]) := by
  have hn : n = (X ++ [q]).length := by
    rcases h.1.2 with ⟨e, _⟩ | ⟨g', cap, cur, e, _⟩
    · cases e
    · injection e
  subst hn
  refine ⟨?_, fun y hy => ?_⟩
  · have h1 := (h.1.stored (X.length * 3 + 1) (.int .i64 b)).1
    rw [flat_set_end] at h1
    simpa using h1
  · have hy2 : Mr w base y := by
      rcases List.mem_append.1 hy with hy | hy
      · exact h.2 y (by simp [hy])
      · rw [List.mem_singleton.1 hy]
        exact h.2 q (by simp)
    exact own_setCell_apart hy2 h.1 (by decide) (p := ⟨g, X.length * 3 + 1, none⟩) rfl _
theorem flat_set_all (X : List Pw) (q : Pw) (b : Int) : (((flat Pw.cells (X ++ [q])).set (X.length * 3) (.int .i64 q.p.f)).set (X.length * 3 + 1) (.int .i64 b)).set (X.length * 3 + 2) (.slice q.a q.p.m.length q.c) = flat Pw.cells (X ++ [⟨⟨q.p.f, b, q.p.m⟩, q.a, q.c⟩]) := by
  rw [flat_append, flat_append, flat_one, flat_one, List.set_append_right _ _ (by rw [pw_flen]; omega), List.set_append_right _ _ (by rw [pw_flen]; omega), List.set_append_right _ _ (by rw [pw_flen]; omega), pw_flen, show X.length * 3 + 1 - X.length * 3 = 1 by omega, show X.length * 3 + 2 - X.length * 3 = 2 by omega, Nat.sub_self]
  rfl
theorem Pws.setAll {w : World} {base g n c : Nat} {X : List Pw} {q : Pw} (h : Pws w base (.slice (some ⟨g, 0, none⟩) n c) (X ++ [q])) (b : Int) :
    Pws (((w.setCell ⟨g, X.length * 3, none⟩ (.int .i64 q.p.f)).setCell ⟨g, X.length * 3 + 1, none⟩ (.int .i64 b)).setCell ⟨g, X.length * 3 + 2, none⟩ (.slice q.a q.p.m.length q.c)) base (.slice (some ⟨g, 0, none⟩) n c) (X ++ [⟨⟨q.p.f, b, q.p.m⟩, q.a, q.c⟩]) := by
  have hn : n = (X ++ [q]).length := by
    rcases h.1.2 with ⟨e, _⟩ | ⟨g', cap, cur, e, _⟩
    · cases e
    · injection e
  subst hn
  have h1 := (h.1.stored (X.length * 3) (.int .i64 q.p.f)).1
  have h2 := (h1.stored (X.length * 3 + 1) (.int .i64 b)).1
  have h3 := (h2.stored (X.length * 3 + 2) (.slice q.a q.p.m.length q.c)).1
  refine ⟨?_, fun y hy => ?_⟩
  · rw [flat_set_all] at h3
    simpa using h3
  · have hy2 : Mr w base y := by
      rcases List.mem_append.1 hy with hy | hy
      · exact h.2 y (by simp [hy])
      · rw [List.mem_singleton.1 hy]
        exact h.2 q (by simp)
    have a1 := own_setCell_apart hy2 h.1 (by decide) (p := ⟨g, X.length * 3, none⟩) rfl (.int .i64 q.p.f)
    have a2 := own_setCell_apart a1 h1 (by decide) (p := ⟨g, X.length * 3 + 1, none⟩) rfl (.int .i64 b)
    exact own_setCell_apart a2 h2 (by decide) (p := ⟨g, X.length * 3 + 2, none⟩) rfl (.slice q.a q.p.m.length q.c)
/-- The cells of one piece. -/
theorem pw_cells {w : World} {B n : Nat} {A : Option Addr} {X : List Pw} (h : Rd w B 3 A n (flat Pw.cells X)) {k : Nat} {x : Pw} (hx : X[k]? = some x) :
    k < n ∧ ∃ b o, A = some ⟨b, o, none⟩ ∧ b < B ∧ w.cell? ⟨b, o + k * 3, none⟩ = some (.int .i64 x.p.f) ∧ w.cell? ⟨b, o + k * 3 + 1, none⟩ = some (.int .i64 x.p.t) ∧ w.cell? ⟨b, o + k * 3 + 2, none⟩ = some (.slice x.a x.p.m.length x.c) := by
  obtain ⟨hk, b, o, e, hb, hc⟩ := h.elem pw_len hx (by omega)
  exact ⟨hk, b, o, e, hb, by simpa using hc 0 _ rfl, hc 1 _ rfl, hc 2 _ rfl⟩
/-- The pieces are returned, in memory of the call's own. -/
def RetPc (w : World) (L : List Pc) (e : Ending) (w' : World) : Prop :=
  ∃ A c X, e = .returned (.slice A L.length c) ∧ X.map Pw.p = L ∧ Pws w' w.heap.size (.slice A L.length c) X ∧ Below w.heap.size w w'
theorem addP_map (X : List Pw) (q : Pw) (a b : Int) (m : List Int) : addP ((X ++ [q]).map Pw.p) a b m = if m = [] then (X ++ [q]).map Pw.p else if q.p.t = a ∧ q.p.m = m then X.map Pw.p ++ [⟨q.p.f, b, q.p.m⟩] else (X ++ [q]).map Pw.p ++ [⟨a, b, m⟩] := by
  rw [List.map_append, List.map_cons, List.map_nil, addP_snoc]
  split
  · rfl
  · split
    · rename_i h
      rw [h.2]
    · simp
end Go.Proofs.Ytkncfhdfobcjeaa
