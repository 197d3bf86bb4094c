/- Months in plain Lean: the month of a day. No program of the seat is named here. -/
import Derived.Lib.Hide
namespace Go.Proofs.Ytbogmkhoppffgaa

/-- A leap year. -/
def lpY (y : Nat) : Bool := (y % 4 == 0 && y % 100 != 0) || y % 400 == 0
/-- The days of a month (0 to 11) of a year. -/
def lenYM (y k : Nat) : Nat := if k = 1 then (if lpY y = true then 29 else 28) else if k = 3 ∨ k = 5 ∨ k = 8 ∨ k = 10 then 30 else 31
def lenMo (m : Nat) : Nat := lenYM (1900 + m / 12) (m % 12)
/-- The first day of a month. -/
def msM : Nat → Nat
  | 0 => 0
  | m + 1 => msM m + lenMo m
theorem lenYM_pos (y k : Nat) : 28 ≤ lenYM y k ∧ lenYM y k ≤ 31 := by
  unfold lenYM
  split
  · split <;> omega
  · split <;> omega
theorem msM_mono {a b : Nat} (h : a ≤ b) : msM a ≤ msM b := by
  induction b with
  | zero =>
    obtain rfl : a = 0 := by omega
    exact Nat.le_refl _
  | succ b ih =>
    by_cases e : a = b + 1
    · rw [e]
      exact Nat.le_refl _
    · exact Nat.le_trans (ih (by omega)) (Nat.le_add_right _ _)
/-- The month of a day is the only one. -/
theorem month_unique {a b d : Nat} (h1 : msM a ≤ d) (h2 : d < msM (a + 1)) (h3 : msM b ≤ d) (h4 : d < msM (b + 1)) : a = b := by
  rcases Nat.lt_trichotomy a b with h | h | h
  · have := msM_mono (show a + 1 ≤ b from h)
    omega
  · exact h
  · have := msM_mono (show b + 1 ≤ a from h)
    omega
/-- The days of a year. -/
def lenY (y : Nat) : Nat := if lpY y = true then 366 else 365
theorem msM_year (n k : Nat) (h : k ≤ 12) : msM (12 * n + k) = msM (12 * n) + ((List.range k).map (lenYM (1900 + n))).sum := by
  induction k with
  | zero => simp
  | succ k ih =>
    have e : 12 * n + (k + 1) = (12 * n + k) + 1 := by omega
    rw [e]
    show msM (12 * n + k) + lenMo (12 * n + k) = _
    rw [ih (by omega), List.range_succ, List.map_append, List.sum_append]
    have e2 : lenMo (12 * n + k) = lenYM (1900 + n) k := by
      unfold lenMo
      rw [show (12 * n + k) / 12 = n by omega, show (12 * n + k) % 12 = k by omega]
    rw [e2]
    simp
    omega
theorem msM_next (n : Nat) : msM (12 * (n + 1)) = msM (12 * n) + lenY (1900 + n) := by
  have h := msM_year n 12 (Nat.le_refl _)
  rw [show 12 * (n + 1) = 12 * n + 12 by omega, h]
  congr 1
  unfold lenY
  cases hl : lpY (1900 + n) <;> simp [List.range, List.range.loop, lenYM, hl]
/-- The first day of a year of the calendar. -/
theorem msM_start (n : Nat) (h : n ≤ 200) : msM (12 * n) = 365 * n + (n - 1) / 4 := by
  induction n with
  | zero => rfl
  | succ n ih =>
    rw [msM_next, ih (by omega)]
    unfold lenY lpY
    by_cases h4 : n % 4 = 0
    · by_cases h0 : n = 0
      · subst h0
        rfl
      · have a1 : (1900 + n) % 4 = 0 := by omega
        by_cases h5 : n = 100
        · subst h5
          rfl
        · have a2 : (1900 + n) % 100 ≠ 0 := by omega
          rw [if_pos (by simp [a1, a2])]
          omega
    · have a1 : (1900 + n) % 4 ≠ 0 := by omega
      have a3 : (1900 + n) % 400 ≠ 0 := by omega
      rw [if_neg (by simp [a1, a3])]
      omega
end Go.Proofs.Ytbogmkhoppffgaa
