/- Rules of the call's own in memory: a row whose elements hold rows of numbers of the call's own, in blocks apart. -/
import Derived.Test.YthncjohekjnjaaaTrA
import Derived.Test.YthncjohekjnjaaaSpPw
namespace Go.Proofs.Ythncjohekjnjaaa
open Go.RowKit

/-- The slice of the members. -/
def Rv.v (x : Rv) : Value := .slice x.a x.r.m.length x.c
def Rmr (w : World) (base : Nat) (x : Rv) : Prop := w.ownsRow base 3 1 x.v x.r.m.length (ints x.r.m)
def RvAp (x y : Rv) : Prop := x.v.ownBlock = none ∨ x.v.ownBlock ≠ y.v.ownBlock
theorem RvAp.symm {x y : Rv} (h : RvAp x y) : RvAp y x := by
  unfold RvAp at *
  rcases h with h | h
  · rw [h]
    cases e : y.v.ownBlock with
    | none => exact .inl rfl
    | some g => exact .inr (by simp)
  · exact .inr fun e => h e.symm
/-- The value v is a row of rules. -/
def Rws (w : World) (base : Nat) (v : Value) (X : List Rv) : Prop := w.ownsRow base 27 5 v X.length (flat Rv.cells X) ∧ (∀ x ∈ X, Rmr w base x) ∧ X.Pairwise RvAp
theorem Rws.nil (w : World) (base : Nat) : Rws w base (.slice none 0 0) [] := ⟨World.ownsRow_nil _ _ _ _, by simp, List.Pairwise.nil⟩
theorem Rws.under {w w' : World} {base : Nat} {v : Value} {X : List Rv} (h : Rws w base v X) (hb : Below w.heap.size w w') : Rws w' base v X := ⟨own_under h.1 hb, fun x hx => own_under (h.2.1 x hx) hb, h.2.2⟩
theorem Rws.base {w : World} {base base' : Nat} {v : Value} {X : List Rv} (h : Rws w base v X) (hb : base' ≤ base) : Rws w base' v X := ⟨ownsRow_base h.1 hb, fun x hx => ownsRow_base (h.2.1 x hx) hb, h.2.2⟩
theorem Rws.rus {w : World} {base n : Nat} {A : Option Addr} {c : Nat} {X : List Rv} (h : Rws w base (.slice A n c) X) (hn : X.length = n) : Rus w w.heap.size A n X := by
  have h1 := h.1
  rw [hn] at h1
  exact ⟨Rd.ofOwn h1, hn, fun x hx => Rd.ofOwn (h.2.1 x hx)⟩
/-- Behind an append to the row; the new members lie in memory younger than W. -/
theorem Rws.grown {W w w' : World} {base : Nat} {v v' : Value} {X : List Rv} {x : Rv} (h0 : ∀ y ∈ X, Rmr W base y) (h : Rws w base v X) (hx : Rmr w W.heap.size x) (hbase : base ≤ W.heap.size) (hg : w.grownBy w' v.ownBlock) (h' : w'.ownsRow base 27 5 v' (X.length + 1) (flat Rv.cells X ++ x.cells)) : Rws w' base v' (X ++ [x]) := by
  refine ⟨?_, fun y hy => ?_, ?_⟩
  · rw [List.length_append, flat_append, flat_one]
    exact h'
  · rcases List.mem_append.1 hy with hy | hy
    · exact (h.2.1 y hy).kept hg (own_apart (h.2.1 y hy) h.1 (by decide))
    · rw [List.mem_singleton.1 hy]
      exact ownsRow_base (hx.kept hg (own_apart hx h.1 (by decide))) hbase
  · rw [List.pairwise_append]
    refine ⟨h.2.2, List.pairwise_singleton _ _, fun y hy z hz => ?_⟩
    rw [List.mem_singleton.1 hz]
    unfold RvAp
    cases e : y.v.ownBlock with
    | none => exact .inl rfl
    | some g =>
      refine .inr fun e2 => ?_
      have h1 := ((h0 y hy).lt g e).2
      have h2 := (hx.lt g e2.symm).1
      omega
theorem rv_set {x x' : Rv} {i : Nat} {v : Value} (hi : i < 5) (hc : x'.cells = x.cells.set i v) : ∀ (l : List Rv) (k : Nat), l[k]? = some x → (flat Rv.cells l).set (k * 5 + i) v = flat Rv.cells (l.set k x')
  | [], k, h => by simp at h
  | y :: l, 0, h => by
    simp at h
    subst h
    rw [List.set_cons_zero, flat_cons, flat_cons, hc, Nat.zero_mul, Nat.zero_add, List.set_append_left _ _ (by rw [rv_len]; exact hi)]
  | y :: l, k + 1, h => by
    simp at h
    rw [List.set_cons_succ, flat_cons, flat_cons, List.set_append_right _ _ (by rw [rv_len]; omega), rv_len, show (k + 1) * 5 + i - 5 = k * 5 + i by omega, rv_set hi hc l k h]
theorem pair_at {α : Type} {R : α → α → Prop} (hs : ∀ x y, R x y → R y x) {l : List α} (h : l.Pairwise R) {i j : Nat} {x y : α} (hx : l[i]? = some x) (hy : l[j]? = some y) (hne : i ≠ j) : R x y := by
  obtain ⟨h1, e1⟩ := List.getElem?_eq_some_iff.1 hx
  obtain ⟨h2, e2⟩ := List.getElem?_eq_some_iff.1 hy
  subst e1 e2
  rw [List.pairwise_iff_getElem] at h
  by_cases hij : i < j
  · exact h i j h1 h2 hij
  · exact hs _ _ (h j i h2 h1 (by omega))
/-- A number of an element set. -/
theorem Rus.setInt {w : World} {base g n c : Nat} {X : List Rv} (h : Rws w base (.slice (some ⟨g, 0, none⟩) n c) X) (hn : X.length = n) {k : Nat} {x x' : Rv} (hx : X[k]? = some x) {i : Nat} (hi : i < 5) {u : Value} (hc : x'.cells = x.cells.set i u) (hv : x'.v = x.v) (hm : x'.r.m = x.r.m) :
    Rus (w.setCell ⟨g, k * 5 + i, none⟩ u) (w.setCell ⟨g, k * 5 + i, none⟩ u).heap.size (some ⟨g, 0, none⟩) n (X.set k x') := by
  have h0 := h.1
  rw [hn] at h0
  have h1 := (h0.stored (k * 5 + i) u).1
  rw [rv_set hi hc X k hx] at h1
  have h2 : (w.setCell ⟨g, k * 5 + i, none⟩ u).ownsRow base 27 5 (.slice (some ⟨g, 0, none⟩) n c) n (flat Rv.cells (X.set k x')) := by simpa [Nat.zero_add] using h1
  refine ⟨Rd.ofOwn h2, by rw [List.length_set]; exact hn, fun y hy => ?_⟩
  have hy2 : Rmr w base y := by
    rcases List.mem_or_eq_of_mem_set hy with hy | rfl
    · exact h.2.1 y hy
    · have := h.2.1 x (List.mem_of_getElem? hx)
      unfold Rmr at this ⊢
      rw [hv, hm]
      exact this
  exact Rd.ofOwn (own_setCell_apart hy2 h0 (by decide) (p := ⟨g, k * 5 + i, none⟩) rfl u)
/-- The members of an element grown. -/
theorem Rus.setMem {w w4 : World} {base g n c : Nat} {X : List Rv} (h : Rws w base (.slice (some ⟨g, 0, none⟩) n c) X) (hn : X.length = n) {k : Nat} {x : Rv} (hx : X[k]? = some x) {A4 : Option Addr} {c4 : Nat} {m : List Int}
    (hg : w.grownBy w4 x.v.ownBlock) (h4 : w4.ownsRow base 3 1 (.slice A4 m.length c4) m.length (ints m)) :
    Rus (w4.setCell ⟨g, k * 5 + 4, none⟩ (.slice A4 m.length c4)) (w4.setCell ⟨g, k * 5 + 4, none⟩ (.slice A4 m.length c4)).heap.size (some ⟨g, 0, none⟩) n (X.set k ⟨⟨x.r.f, x.r.d, x.r.p, x.r.b, m⟩, A4, c4⟩) := by
  have h0 := h.1
  rw [hn] at h0
  have hxm := h.2.1 x (List.mem_of_getElem? hx)
  have h00 := h0.kept hg (own_apart h0 hxm (by decide))
  have h1 := (h00.stored (k * 5 + 4) (.slice A4 m.length c4)).1
  rw [rv_set (x := x) (x' := ⟨⟨x.r.f, x.r.d, x.r.p, x.r.b, m⟩, A4, c4⟩) (i := 4) (v := .slice A4 m.length c4) (by omega) rfl X k hx] at h1
  have h2 : (w4.setCell ⟨g, k * 5 + 4, none⟩ (.slice A4 m.length c4)).ownsRow base 27 5 (.slice (some ⟨g, 0, none⟩) n c) n (flat Rv.cells (X.set k ⟨⟨x.r.f, x.r.d, x.r.p, x.r.b, m⟩, A4, c4⟩)) := by simpa [Nat.zero_add] using h1
  refine ⟨Rd.ofOwn h2, by rw [List.length_set]; exact hn, fun y hy => ?_⟩
  obtain ⟨j, hj⟩ := List.mem_iff_getElem?.1 hy
  by_cases hjk : k = j
  · subst hjk
    have hkl : k < X.length := (List.getElem?_eq_some_iff.1 hx).1
    rw [List.getElem?_set_self hkl] at hj
    injection hj with hj
    subst hj
    exact Rd.ofOwn (own_setCell_apart h4 h00 (by decide) (p := ⟨g, k * 5 + 4, none⟩) rfl _)
  · rw [List.getElem?_set_ne hjk] at hj
    have hap : RvAp y x := pair_at (fun _ _ h => RvAp.symm h) h.2.2 hj hx (fun e => hjk e.symm)
    have hy2 : Rmr w4 base y := (h.2.1 y (List.mem_of_getElem? hj)).kept hg hap
    exact Rd.ofOwn (own_setCell_apart hy2 h00 (by decide) (p := ⟨g, k * 5 + 4, none⟩) rfl _)
/-- The result of the laws' rules: rules that may be read. -/
def RetRu (w : World) (N M : Nat) (e : Ending) (w' : World) : Prop :=
  ∃ A n c X, e = .returned (.slice A n c) ∧ Rus w' w'.heap.size A n X ∧ n ≤ N ∧ (∀ x ∈ X, x.r.m.length ≤ M) ∧ Below w.heap.size w w'
end Go.Proofs.Ythncjohekjnjaaa
