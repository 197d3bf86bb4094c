/- One number of a row set: what the cells are. -/
import Derived.Test.YtnjloghphkjcoaaScL
namespace Go.Proofs.Ytnjloghphkjcoaa
open Go.RowKit

theorem rw_set {x x' : Rw} {i : Nat} {v : Value} (hi : i < 6) (hc : x'.cells = x.cells.set i v) : ∀ (l : List Rw) (k : Nat), l[k]? = some x → (flat Rw.cells l).set (k * 6 + i) v = flat Rw.cells (l.set k x')
  | [], k, h => by simp at h
  | y :: l, 0, h => by
    simp at h
    subst h
    rw [List.set_cons_zero, flat_cons, flat_cons, hc, Nat.zero_mul, Nat.zero_add, List.set_append_left _ _ (by rw [rw_len]; exact hi)]
  | y :: l, k + 1, h => by
    simp at h
    rw [List.set_cons_succ, flat_cons, flat_cons, List.set_append_right _ _ (by rw [rw_len]; omega), rw_len, show (k + 1) * 6 + i - 6 = k * 6 + i by omega, rw_set hi hc l k h]

theorem own_below {w w' : World} {base e sz n : Nat} {v : Value} {xs : List Value} (h : w.ownsRow base e sz v n xs) (hb : Below w.heap.size w w') : w'.ownsRow base e sz v n xs :=
  h.kept (row := none) (grownBy_of_below hb none) (Classical.em _)

theorem rw_take : ∀ (l : List Rw) (k : Nat), flat Rw.cells (l.take k) = (flat Rw.cells l).take (k * 6)
  | [], k => by simp [flat]
  | y :: l, 0 => by simp [flat]
  | y :: l, k + 1 => by
    rw [List.take_succ_cons, flat_cons, flat_cons, List.take_append, rw_take l k, rw_len, List.take_of_length_le (l := y.cells) (i := (k + 1) * 6) (by rw [rw_len]; omega), show (k + 1) * 6 - 6 = k * 6 by omega]
theorem rw_drop : ∀ (l : List Rw) (k : Nat), flat Rw.cells (l.drop k) = (flat Rw.cells l).drop (k * 6)
  | [], k => by simp [flat]
  | y :: l, 0 => by simp [flat]
  | y :: l, k + 1 => by
    rw [List.drop_succ_cons, flat_cons, List.drop_append, rw_drop l k, rw_len, List.drop_of_length_le (l := y.cells) (i := (k + 1) * 6) (by rw [rw_len]; omega), show (k + 1) * 6 - 6 = k * 6 by omega, List.nil_append]

theorem Dr.ofOwn2 {w : World} {base n : Nat} {v : Value} {l : List Rw} (h : w.ownsRow base 31 6 v n (flat Rw.cells l)) (hn : l.length = n) : ∀ A c, v = .slice A n c → Dr w A n l := fun A c e => by
  subst e
  exact Dr.ofOwn h hn
end Go.Proofs.Ytnjloghphkjcoaa
