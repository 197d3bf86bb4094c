/- The month of a day: the program. -/
import Derived.Test.YtbogmkhoppffgaaFcR
namespace Go.Proofs.Ytbogmkhoppffgaa
open Go.RowKit


set_option maxRecDepth 100000 in
set_option maxHeartbeats 4000000 in
theorem tleap_any (y : Int) (h0 : 0 ≤ y) (w : World) : Calls Try.prog 71 #[.int .i64 y] w fun e w' => e = .returned (.bool (lpY y.toNat)) ∧ w = w' := by
  have e4 : y.tmod 4 = y % 4 := Int.tmod_eq_emod_of_nonneg h0
  have e1 : y.tmod 100 = y % 100 := Int.tmod_eq_emod_of_nonneg h0
  have e2 : y.tmod 400 = y % 400 := Int.tmod_eq_emod_of_nonneg h0
  obtain ⟨b, hb⟩ : ∃ b, lpY y.toNat = b := ⟨_, rfl⟩
  rw [hb]
  unfold lpY at hb
  by_cases p4 : y % 4 = 0
  · have b4 : (y % 4 == 0) = true := by simp [p4]
    by_cases p1 : y % 100 = 0
    · have b1 : (y % 100 != 0) = false := by simp [p1]
      by_cases p2 : y % 400 = 0
      · have b2 : (y % 400 == 0) = true := by simp [p2]
        have HB : Hid (b = true) := Lib.hid (by
          have q4 : y.toNat % 4 = 0 := by omega
          have q1 : y.toNat % 100 = 0 := by omega
          have q2 : y.toNat % 400 = 0 := by omega
          rw [← hb]
          simp [q4, q1, q2] <;> omega)
        clear hb e4 e1 e2
        go_enter Try.func71, Try.ntmps71
        go_wp2_with fail
        go_ret
        exact ⟨by rw [HB.out]; rfl, rfl⟩
      · have b2 : (y % 400 == 0) = false := by simp [p2]
        have HB : Hid (b = false) := Lib.hid (by
          have q4 : y.toNat % 4 = 0 := by omega
          have q1 : y.toNat % 100 = 0 := by omega
          have q2 : y.toNat % 400 ≠ 0 := by omega
          rw [← hb]
          simp [q4, q1, q2] <;> omega)
        clear hb e4 e1 e2
        go_enter Try.func71, Try.ntmps71
        go_wp2_with fail
        go_ret
        exact ⟨by rw [HB.out]; rfl, rfl⟩
    · have b1 : (y % 100 != 0) = true := by simp [p1]
      by_cases p2 : y % 400 = 0
      · have b2 : (y % 400 == 0) = true := by simp [p2]
        have HB : Hid (b = true) := Lib.hid (by
          have q4 : y.toNat % 4 = 0 := by omega
          have q1 : y.toNat % 100 ≠ 0 := by omega
          have q2 : y.toNat % 400 = 0 := by omega
          rw [← hb]
          simp [q4, q2] <;> omega)
        clear hb e4 e1 e2
        go_enter Try.func71, Try.ntmps71
        go_wp2_with fail
        go_ret
        exact ⟨by rw [HB.out]; rfl, rfl⟩
      · have b2 : (y % 400 == 0) = false := by simp [p2]
        have HB : Hid (b = true) := Lib.hid (by
          have q4 : y.toNat % 4 = 0 := by omega
          have q1 : y.toNat % 100 ≠ 0 := by omega
          have q2 : y.toNat % 400 ≠ 0 := by omega
          rw [← hb]
          simp [q4, q1, q2] <;> omega)
        clear hb e4 e1 e2
        go_enter Try.func71, Try.ntmps71
        go_wp2_with fail
        go_ret
        exact ⟨by rw [HB.out]; rfl, rfl⟩
  · have b4 : (y % 4 == 0) = false := by simp [p4]
    by_cases p1 : y % 100 = 0
    · have b1 : (y % 100 != 0) = false := by simp [p1]
      by_cases p2 : y % 400 = 0
      · exfalso; omega
      · have b2 : (y % 400 == 0) = false := by simp [p2]
        have HB : Hid (b = false) := Lib.hid (by
          have q4 : y.toNat % 4 ≠ 0 := by omega
          have q1 : y.toNat % 100 = 0 := by omega
          have q2 : y.toNat % 400 ≠ 0 := by omega
          rw [← hb]
          simp [q1, q2] <;> omega)
        clear hb e4 e1 e2
        go_enter Try.func71, Try.ntmps71
        go_wp2_with fail
        go_ret
        exact ⟨by rw [HB.out]; rfl, rfl⟩
    · have b1 : (y % 100 != 0) = true := by simp [p1]
      by_cases p2 : y % 400 = 0
      · exfalso; omega
      · have b2 : (y % 400 == 0) = false := by simp [p2]
        have HB : Hid (b = false) := Lib.hid (by
          have q4 : y.toNat % 4 ≠ 0 := by omega
          have q1 : y.toNat % 100 ≠ 0 := by omega
          have q2 : y.toNat % 400 ≠ 0 := by omega
          rw [← hb]
          simp [q4, q1, q2] <;> omega)
        clear hb e4 e1 e2
        go_enter Try.func71, Try.ntmps71
        go_wp2_with fail
        go_ret
        exact ⟨by rw [HB.out]; rfl, rfl⟩

set_option maxRecDepth 100000 in
set_option maxHeartbeats 4000000 in
theorem ylen_any (n : Nat) (w : World) : Calls Try.prog 59 #[.int .i64 (1900 + (n : Int))] w fun e w' => e = .returned (.int .i64 (lenY (1900 + n) : Int)) ∧ w = w' := by
  obtain ⟨b, hb⟩ : ∃ b, lpY (1900 + (n : Int)).toNat = b := ⟨_, rfl⟩
  have HE : Hid ((lenY (1900 + n) : Int) = if b = true then 366 else 365) := Lib.hid (by
    rw [show (1900 + (n : Int)).toNat = 1900 + n by omega] at hb
    show ((if lpY (1900 + n) = true then 366 else 365 : Nat) : Int) = _
    rw [hb]
    cases b <;> rfl)
  have HB := Lib.hid hb
  clear hb
  go_enter Try.func59, Try.ntmps59
  go_wp2_with fail
  refine (tleap_any _ (by omega) _).mono ?_
  rintro e w1 ⟨rfl, rfl⟩
  rw [HB.out]
  cases b
  all_goals
    go_wp2_with fail
    go_ret
    exact ⟨by rw [HE.out]; rfl, rfl⟩
set_option maxRecDepth 100000 in
set_option maxHeartbeats 4000000 in
theorem ystart_any (n : Nat) (hn : n ≤ 200) (w : World) : Calls Try.prog 58 #[.int .i64 (1900 + (n : Int))] w fun e w' => e = .returned (.int .i64 (msM (12 * n) : Int)) ∧ w = w' := by
  have HE : Hid ((msM (12 * n) : Int) = 365 * (n : Int) + ((n - 1 : Nat) : Int) / 4) := Lib.hid (by rw [msM_start n hn]; omega)
  have hw0 : IntKind.i64.wrap (1900 + (n : Int) - 1900) = (n : Int) := by rw [show 1900 + (n : Int) - 1900 = (n : Int) by omega]; exact IntWalk.i64_in _ (by omega)
  have hw1 : IntKind.i64.wrap (365 * (n : Int)) = 365 * (n : Int) := IntWalk.i64_in _ (by omega)
  by_cases h0 : n = 0
  · subst h0
    go_enter Try.func58, Try.ntmps58
    go_wp2_with fail
    go_ret
    exact ⟨by rw [HE.out]; rfl, rfl⟩
  · have h1 : (0 : Int) < (n : Int) := by omega
    have h2 : 0 < n := by omega
    have hq : ((n : Int) - 1).tdiv 4 = ((n - 1 : Nat) : Int) / 4 := by
      rw [Int.tdiv_eq_ediv_of_nonneg (by omega)]
      omega
    have hw2 : IntKind.i64.wrap ((n : Int) - 1) = (n : Int) - 1 := IntWalk.i64_in _ (by omega)
    have hw3 : IntKind.i64.wrap (365 * (n : Int) + ((n - 1 : Nat) : Int) / 4) = 365 * (n : Int) + ((n - 1 : Nat) : Int) / 4 := IntWalk.i64_in _ (by omega)
    have hw4 : IntKind.i64.wrap (((n - 1 : Nat) : Int) / 4) = ((n - 1 : Nat) : Int) / 4 := IntWalk.i64_in _ (by omega)
    go_enter Try.func58, Try.ntmps58
    go_wp2_with fail
    go_ret
    exact ⟨by rw [HE.out]; rfl, rfl⟩
set_option maxRecDepth 100000 in
set_option maxHeartbeats 4000000 in
theorem tlen_any (y : Int) (k : Nat) (hk : k < 12) (h0 : 0 ≤ y) (w : World) : Calls Try.prog 60 #[.int .i64 y, .int .i64 ((k : Int) + 1)] w fun e w' => e = .returned (.int .i64 (lenYM y.toNat k : Int)) ∧ Below w.heap.size w w' := by
  have hc : k = 0 ∨ k = 1 ∨ k = 2 ∨ k = 3 ∨ k = 4 ∨ k = 5 ∨ k = 6 ∨ k = 7 ∨ k = 8 ∨ k = 9 ∨ k = 10 ∨ k = 11 := by omega
  rcases hc with rfl | rfl | rfl | rfl | rfl | rfl | rfl | rfl | rfl | rfl | rfl | rfl
  case inr.inl =>
    obtain ⟨b, hb⟩ : ∃ b, lpY y.toNat = b := ⟨_, rfl⟩
    have HE : Hid ((lenYM y.toNat 1 : Int) = if b = true then 29 else 28) := Lib.hid (by
      show ((if lpY y.toNat = true then 29 else 28 : Nat) : Int) = _
      rw [hb]
      cases b <;> rfl)
    have HB := Lib.hid hb
    clear hb
    go_enter Try.func60, Try.ntmps60
    go_wp2_with fail
    refine (tleap_any y h0 _).mono ?_
    rintro e w1 ⟨rfl, rfl⟩
    rw [HB.out]
    cases b
    all_goals
      go_wp2_with fail
      go_ret
      exact ⟨by rw [HE.out]; rfl, (Below.refl _ _).alloc (Nat.le_refl _) _⟩
  all_goals
    go_enter Try.func60, Try.ntmps60
    go_wp2_with fail
    go_ret
    exact ⟨rfl, (Below.refl _ _).alloc (Nat.le_refl _) _⟩
set_option maxRecDepth 100000 in
set_option maxHeartbeats 4000000 in
theorem tvd_any (d : Nat) (hd : d ≤ 73048) (w : World) : Calls Try.prog 57 #[.int .i64 (d : Int)] w fun e w' => e = .returned (.bool true) ∧ w = w' := by
  have h1 : (0 : Int) ≤ (d : Int) := by omega
  have h2 : (d : Int) ≤ 73048 := by omega
  go_enter Try.func57, Try.ntmps57
  go_wp2_with fail
  go_ret
  exact ⟨rfl, rfl⟩
end Go.Proofs.Ytbogmkhoppffgaa
