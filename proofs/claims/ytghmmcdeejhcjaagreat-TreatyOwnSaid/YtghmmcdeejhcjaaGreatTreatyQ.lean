/- Which lists of rules are in order, by what has been looked at so far. No program of the seat is named here. -/
import Derived.Test.YtghmmcdeejhcjaaGreatTreatyP
namespace Go.Proofs.YtghmmcdeejhcjaaGreat

def lastM (b : Int) : List Int → Int
  | [] => b
  | x :: r => lastM x r
theorem okM_append : ∀ (l r : List Int) (b : Int), okM b (l ++ r) = (okM b l && okM (lastM b l) r)
  | [], r, b => by simp [okM, lastM]
  | x :: l, r, b => by
    show (decide (b < x ∧ x ≤ 5) && okM x (l ++ r)) = (decide (b < x ∧ x ≤ 5) && okM x l && okM (lastM x l) r)
    rw [okM_append l r x, Bool.and_assoc]
theorem lastM_snoc : ∀ (l : List Int) (x b : Int), lastM b (l ++ [x]) = x
  | [], _, _ => rfl
  | y :: l, x, _ => lastM_snoc l x y
theorem okM_snoc (l : List Int) (x b : Int) : okM b (l ++ [x]) = (okM b l && decide (lastM b l < x ∧ x ≤ 5)) := by
  rw [okM_append]
  simp [okM]
theorem okM_ge : ∀ (l : List Int) (b : Int), okM b l = true → b ≤ lastM b l
  | [], b, _ => Int.le_refl b
  | x :: l, b, h => by
    have h2 : decide (b < x ∧ x ≤ 5) = true ∧ okM x l = true := by simpa [okM] using h
    have := okM_ge l x h2.2
    have h3 := of_decide_eq_true h2.1
    show b ≤ lastM x l
    omega
theorem okM_cut {l : List Int} {k : Nat} {b : Int} (h : okM b (l.take k) = false) : okM b l = false := by
  have e := okM_append (l.take k) (l.drop k) b
  rw [List.take_append_drop, h, Bool.false_and] at e
  exact e
theorem lastM_take {l : List Int} {k : Nat} {y b : Int} (hy : l[k]? = some y) : lastM b (l.take (k + 1)) = y := by
  rw [List.take_add_one, hy]
  exact lastM_snoc _ _ _
theorem okM_take {l : List Int} {k : Nat} {x b : Int} (hx : l[k]? = some x) : okM b (l.take (k + 1)) = (okM b (l.take k) && decide (lastM b (l.take k) < x ∧ x ≤ 5)) := by
  rw [List.take_add_one, hx]
  exact okM_snoc _ _ _
def lastT (b : Int) : List Ru → Int
  | [] => b
  | x :: r => lastT x.f r
theorem okT_append : ∀ (l r : List Ru) (b : Int), okT b (l ++ r) = (okT b l && okT (lastT b l) r)
  | [], r, b => by simp [okT, lastT]
  | x :: l, r, b => by
    show (okR x && decide (b < x.f) && okT x.f (l ++ r)) = (okR x && decide (b < x.f) && okT x.f l && okT (lastT x.f l) r)
    rw [okT_append l r x.f, Bool.and_assoc (okR x && decide (b < x.f))]
theorem lastT_snoc : ∀ (l : List Ru) (x : Ru) (b : Int), lastT b (l ++ [x]) = x.f
  | [], _, _ => rfl
  | y :: l, x, _ => lastT_snoc l x y.f
theorem okT_take {l : List Ru} {k : Nat} {x : Ru} {b : Int} (hx : l[k]? = some x) : okT b (l.take (k + 1)) = (okT b (l.take k) && (okR x && decide (lastT b (l.take k) < x.f))) := by
  rw [List.take_add_one, hx]
  show okT b (l.take k ++ [x]) = _
  rw [okT_append]
  simp [okT]
theorem lastT_take {l : List Ru} {k : Nat} {y : Ru} {b : Int} (hy : l[k]? = some y) : lastT b (l.take (k + 1)) = y.f := by
  rw [List.take_add_one, hy]
  exact lastT_snoc _ _ _
theorem okT_cut {l : List Ru} {k : Nat} {b : Int} (h : okT b (l.take k) = false) : okT b l = false := by
  have e := okT_append (l.take k) (l.drop k) b
  rw [List.take_append_drop, h, Bool.false_and] at e
  exact e
end Go.Proofs.YtghmmcdeejhcjaaGreat
