/- Rows of claims of the call's own: their cells, an element set, two swapped, a part of one. -/
import Derived.Test.YtkncfhdfobcjeaaOvW
namespace Go.Proofs.Ytkncfhdfobcjeaa
open Go.RowKit

theorem pr_flen (l : List Pr) : (flat Pr.cells l).length = l.length * 4 := flat_length pr_len l
theorem pcell {w : World} {base g n c : Nat} {D : List Pr} (h : w.ownsRow base 50 4 (.slice (some ⟨g, 0, none⟩) n c) n (flat Pr.cells D)) {k : Nat} {p : Pr} (hp : D[k]? = some p) (i : Nat) (u : Value) (hu : p.cells[i]? = some u) : w.cell? ⟨g, k * 4 + i, none⟩ = some u := by
  obtain ⟨_, b, o, e, _, hc⟩ := (Rd.ofOwn h).elem pr_len hp (by omega)
  injection e with e
  injection e with e1 e2
  subst e1 e2
  have := hc i u hu
  rwa [Nat.zero_add] at this
theorem pr_set {x x' : Pr} {i : Nat} {v : Value} (hi : i < 4) (hc : x'.cells = x.cells.set i v) : ∀ (l : List Pr) (k : Nat), l[k]? = some x → (flat Pr.cells l).set (k * 4 + i) v = flat Pr.cells (l.set k x')
  | [], k, h => by simp at h
  | y :: l, 0, h => by
    simp at h
    subst h
    rw [List.set_cons_zero, flat_cons, flat_cons, hc, Nat.zero_mul, Nat.zero_add, List.set_append_left _ _ (by rw [pr_len]; exact hi)]
  | y :: l, k + 1, h => by
    simp at h
    rw [List.set_cons_succ, flat_cons, flat_cons, List.set_append_right _ _ (by rw [pr_len]; omega), pr_len, show (k + 1) * 4 + i - 4 = k * 4 + i by omega, pr_set hi hc l k h]
/-- The four cells of an element set. -/
def set4 (w : World) (g k : Nat) (x : Pr) : World := (((w.setCell ⟨g, k * 4, none⟩ (.int .i64 x.s)).setCell ⟨g, k * 4 + 1, none⟩ (.int .i64 x.r)).setCell ⟨g, k * 4 + 2, none⟩ (.int .i64 x.f)).setCell ⟨g, k * 4 + 3, none⟩ (.int .i64 x.t)
theorem get_self {α : Type} {D : List α} {k : Nat} (hk : k < D.length) (y : α) : (D.set k y)[k]? = some y := List.getElem?_set_self hk
theorem own_set4 {w : World} {base g n c : Nat} {D : List Pr} (h : w.ownsRow base 50 4 (.slice (some ⟨g, 0, none⟩) n c) n (flat Pr.cells D)) {k : Nat} (hk : k < D.length) (x : Pr) :
    (set4 w g k x).ownsRow base 50 4 (.slice (some ⟨g, 0, none⟩) n c) n (flat Pr.cells (D.set k x)) := by
  obtain ⟨y, hy⟩ : ∃ y, D[k]? = some y := ⟨_, List.getElem?_eq_getElem hk⟩
  have h1 := (h.stored (k * 4) (.int .i64 x.s)).1
  have e1 := pr_set (x := y) (x' := ⟨x.s, y.r, y.f, y.t⟩) (i := 0) (v := .int .i64 x.s) (by omega) rfl D k hy
  rw [Nat.add_zero] at e1
  rw [e1] at h1
  have h2 := (h1.stored (k * 4 + 1) (.int .i64 x.r)).1
  rw [pr_set (x := ⟨x.s, y.r, y.f, y.t⟩) (x' := ⟨x.s, x.r, y.f, y.t⟩) (i := 1) (v := .int .i64 x.r) (by omega) rfl _ k (get_self hk _), List.set_set] at h2
  have h3 := (h2.stored (k * 4 + 2) (.int .i64 x.f)).1
  rw [pr_set (x := ⟨x.s, x.r, y.f, y.t⟩) (x' := ⟨x.s, x.r, x.f, y.t⟩) (i := 2) (v := .int .i64 x.f) (by omega) rfl _ k (get_self hk _), List.set_set] at h3
  have h4 := (h3.stored (k * 4 + 3) (.int .i64 x.t)).1
  rw [pr_set (x := ⟨x.s, x.r, x.f, y.t⟩) (x' := x) (i := 3) (v := .int .i64 x.t) (by omega) rfl _ k (get_self hk _), List.set_set] at h4
  unfold set4
  simpa [Nat.zero_add] using h4
theorem set4_below {w : World} {base g k : Nat} {x : Pr} {w0 : World} (h : Below base w0 w) (hg : base ≤ g) : Below base w0 (set4 w g k x) :=
  (((h.setCell (p := ⟨g, k * 4, none⟩) hg _).setCell (p := ⟨g, k * 4 + 1, none⟩) hg _).setCell (p := ⟨g, k * 4 + 2, none⟩) hg _).setCell (p := ⟨g, k * 4 + 3, none⟩) hg _
/-- The last statement of a block: where it ends, known as a frame and a world; no other way out (so a region that draws its order is walked once: nothing behind a panic looks at a slot). -/
theorem wp_last {P : Program} {c : Code} {Q : Exit → Act → World → Prop} {a : Act} {w : World} {A : Act} {V : World} (h : c.wp P (fun e a' w' => match e with | .normal => a' = A ∧ w' = V | _ => False) a w) (h2 : Q .normal A V) : c.wp P Q a w := by
  refine Go.wp_mono h fun e a' w' hp => ?_
  cases e
  case normal =>
    obtain ⟨rfl, rfl⟩ := hp
    exact h2
  all_goals exact hp.elim
theorem own_drew {w : World} {base e sz n : Nat} {v : Value} {xs : List Value} (h : w.ownsRow base e sz v n xs) : w.drew.ownsRow base e sz v n xs := h
/-- What an exchange of two elements leaves. -/
def SwOK (w1 W : World) (base g n c k m : Nat) (D C : List Pr) (xk xm : Pr) : Prop :=
  (∀ p, p ∈ (D.set k xm).set m xk ↔ p ∈ C) ∧ ((D.set k xm).set m xk).length = n ∧ (((((((((W.setCell ⟨g, k * 4, none⟩ (.int .i64 xm.s)).setCell ⟨g, k * 4 + 1, none⟩ (.int .i64 xm.r)).setCell ⟨g, k * 4 + 2, none⟩ (.int .i64 xm.f)).setCell ⟨g, k * 4 + 3, none⟩ (.int .i64 xm.t)).setCell ⟨g, m * 4, none⟩ (.int .i64 xk.s)).setCell ⟨g, m * 4 + 1, none⟩ (.int .i64 xk.r)).setCell ⟨g, m * 4 + 2, none⟩ (.int .i64 xk.f)).setCell ⟨g, m * 4 + 3, none⟩ (.int .i64 xk.t)).drew).ownsRow base 50 4 (.slice (some ⟨g, 0, none⟩) n c) n (flat Pr.cells ((D.set k xm).set m xk)) ∧ Below base w1 ((((((((W.setCell ⟨g, k * 4, none⟩ (.int .i64 xm.s)).setCell ⟨g, k * 4 + 1, none⟩ (.int .i64 xm.r)).setCell ⟨g, k * 4 + 2, none⟩ (.int .i64 xm.f)).setCell ⟨g, k * 4 + 3, none⟩ (.int .i64 xm.t)).setCell ⟨g, m * 4, none⟩ (.int .i64 xk.s)).setCell ⟨g, m * 4 + 1, none⟩ (.int .i64 xk.r)).setCell ⟨g, m * 4 + 2, none⟩ (.int .i64 xk.f)).setCell ⟨g, m * 4 + 3, none⟩ (.int .i64 xk.t)).drew
theorem swOK {w1 W : World} {base g n c k m : Nat} {D C : List Pr} {xk xm : Pr} (h : W.ownsRow base 50 4 (.slice (some ⟨g, 0, none⟩) n c) n (flat Pr.cells D)) (hb : Below base w1 W) (hg : base ≤ g) (hxk : D[k]? = some xk) (hxm : D[m]? = some xm) (hm : ∀ p, p ∈ D ↔ p ∈ C) (hl : D.length = n) : SwOK w1 W base g n c k m D C xk xm := by
  have hkl := (List.getElem?_eq_some_iff.1 hxk).1
  have hml := (List.getElem?_eq_some_iff.1 hxm).1
  have e1 := own_drew (own_set4 (own_set4 h hkl xm) (by rw [List.length_set]; exact hml) xk)
  have e2 := (set4_below (x := xk) (k := m) (set4_below (x := xm) (k := k) hb hg) hg).drew
  unfold set4 at e1 e2
  exact ⟨fun p => (mem_set_swap hxk hxm p).trans (hm p), by rw [List.length_set, List.length_set]; exact hl, e1, e2⟩
theorem own_setT {w : World} {base g n c : Nat} {D : List Pr} (h : w.ownsRow base 50 4 (.slice (some ⟨g, 0, none⟩) n c) n (flat Pr.cells D)) {k : Nat} {y : Pr} (hy : D[k]? = some y) (b : Int) :
    (w.setCell ⟨g, k * 4 + 3, none⟩ (.int .i64 b)).ownsRow base 50 4 (.slice (some ⟨g, 0, none⟩) n c) n (flat Pr.cells (D.set k ⟨y.s, y.r, y.f, b⟩)) := by
  have h1 := (h.stored (k * 4 + 3) (.int .i64 b)).1
  rw [pr_set (x := y) (x' := ⟨y.s, y.r, y.f, b⟩) (i := 3) (v := .int .i64 b) (by omega) rfl D k hy] at h1
  simpa [Nat.zero_add] using h1
theorem pr_take : ∀ (l : List Pr) (k : Nat), flat Pr.cells (l.take k) = (flat Pr.cells l).take (k * 4)
  | [], k => by simp [flat]
  | y :: l, 0 => by simp [flat]
  | y :: l, k + 1 => by
    rw [List.take_succ_cons, flat_cons, flat_cons, List.take_append, pr_take l k, pr_len, List.take_of_length_le (l := y.cells) (i := (k + 1) * 4) (by rw [pr_len]; omega), show (k + 1) * 4 - 4 = k * 4 by omega]
theorem pr_drop : ∀ (l : List Pr) (k : Nat), flat Pr.cells (l.drop k) = (flat Pr.cells l).drop (k * 4)
  | [], k => by simp [flat]
  | y :: l, 0 => by simp [flat]
  | y :: l, k + 1 => by
    rw [List.drop_succ_cons, flat_cons, List.drop_append, pr_drop l k, pr_len, List.drop_of_length_le (l := y.cells) (i := (k + 1) * 4) (by rw [pr_len]; omega), show (k + 1) * 4 - 4 = k * 4 by omega, List.nil_append]
end Go.Proofs.Ytkncfhdfobcjeaa
