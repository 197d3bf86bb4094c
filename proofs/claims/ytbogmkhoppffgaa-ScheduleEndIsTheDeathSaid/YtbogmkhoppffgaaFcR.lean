/- The month of a day: the reference. -/
import Derived.Test.YtbogmkhoppffgaaFcO
import Derived.Test.YtbogmkhoppffgaaCal
namespace Go.Proofs.Ytbogmkhoppffgaa
open Go.RowKit


set_option maxRecDepth 100000 in
set_option maxHeartbeats 4000000 in
theorem rleap_any (y : Int) (h0 : 0 ≤ y) (w : World) : Calls Try.prog 50 #[.int .i64 y] w fun e w' => e = .returned (.bool (lpY y.toNat)) ∧ w = w' := by
  have e4 : y.tmod 4 = y % 4 := Int.tmod_eq_emod_of_nonneg h0
  have e1 : y.tmod 100 = y % 100 := Int.tmod_eq_emod_of_nonneg h0
  have e2 : y.tmod 400 = y % 400 := Int.tmod_eq_emod_of_nonneg h0
  obtain ⟨b, hb⟩ : ∃ b, lpY y.toNat = b := ⟨_, rfl⟩
  rw [hb]
  unfold lpY at hb
  by_cases p4 : y % 4 = 0
  · have b4 : (y % 4 == 0) = true := by simp [p4]
    by_cases p1 : y % 100 = 0
    · have b1 : (y % 100 != 0) = false := by simp [p1]
      by_cases p2 : y % 400 = 0
      · have b2 : (y % 400 == 0) = true := by simp [p2]
        have HB : Hid (b = true) := Lib.hid (by
          have q4 : y.toNat % 4 = 0 := by omega
          have q1 : y.toNat % 100 = 0 := by omega
          have q2 : y.toNat % 400 = 0 := by omega
          rw [← hb]
          simp [q4, q1, q2] <;> omega)
        clear hb e4 e1 e2
        go_enter Try.func50, Try.ntmps50
        go_wp2_with fail
        go_ret
        exact ⟨by rw [HB.out]; rfl, rfl⟩
      · have b2 : (y % 400 == 0) = false := by simp [p2]
        have HB : Hid (b = false) := Lib.hid (by
          have q4 : y.toNat % 4 = 0 := by omega
          have q1 : y.toNat % 100 = 0 := by omega
          have q2 : y.toNat % 400 ≠ 0 := by omega
          rw [← hb]
          simp [q4, q1, q2] <;> omega)
        clear hb e4 e1 e2
        go_enter Try.func50, Try.ntmps50
        go_wp2_with fail
        go_ret
        exact ⟨by rw [HB.out]; rfl, rfl⟩
    · have b1 : (y % 100 != 0) = true := by simp [p1]
      by_cases p2 : y % 400 = 0
      · have b2 : (y % 400 == 0) = true := by simp [p2]
        have HB : Hid (b = true) := Lib.hid (by
          have q4 : y.toNat % 4 = 0 := by omega
          have q1 : y.toNat % 100 ≠ 0 := by omega
          have q2 : y.toNat % 400 = 0 := by omega
          rw [← hb]
          simp [q4, q2] <;> omega)
        clear hb e4 e1 e2
        go_enter Try.func50, Try.ntmps50
        go_wp2_with fail
        go_ret
        exact ⟨by rw [HB.out]; rfl, rfl⟩
      · have b2 : (y % 400 == 0) = false := by simp [p2]
        have HB : Hid (b = true) := Lib.hid (by
          have q4 : y.toNat % 4 = 0 := by omega
          have q1 : y.toNat % 100 ≠ 0 := by omega
          have q2 : y.toNat % 400 ≠ 0 := by omega
          rw [← hb]
          simp [q4, q1, q2] <;> omega)
        clear hb e4 e1 e2
        go_enter Try.func50, Try.ntmps50
        go_wp2_with fail
        go_ret
        exact ⟨by rw [HB.out]; rfl, rfl⟩
  · have b4 : (y % 4 == 0) = false := by simp [p4]
    by_cases p1 : y % 100 = 0
    · have b1 : (y % 100 != 0) = false := by simp [p1]
      by_cases p2 : y % 400 = 0
      · exfalso; omega
      · have b2 : (y % 400 == 0) = false := by simp [p2]
        have HB : Hid (b = false) := Lib.hid (by
          have q4 : y.toNat % 4 ≠ 0 := by omega
          have q1 : y.toNat % 100 = 0 := by omega
          have q2 : y.toNat % 400 ≠ 0 := by omega
          rw [← hb]
          simp [q1, q2] <;> omega)
        clear hb e4 e1 e2
        go_enter Try.func50, Try.ntmps50
        go_wp2_with fail
        go_ret
        exact ⟨by rw [HB.out]; rfl, rfl⟩
    · have b1 : (y % 100 != 0) = true := by simp [p1]
      by_cases p2 : y % 400 = 0
      · exfalso; omega
      · have b2 : (y % 400 == 0) = false := by simp [p2]
        have HB : Hid (b = false) := Lib.hid (by
          have q4 : y.toNat % 4 ≠ 0 := by omega
          have q1 : y.toNat % 100 ≠ 0 := by omega
          have q2 : y.toNat % 400 ≠ 0 := by omega
          rw [← hb]
          simp [q4, q1, q2] <;> omega)
        clear hb e4 e1 e2
        go_enter Try.func50, Try.ntmps50
        go_wp2_with fail
        go_ret
        exact ⟨by rw [HB.out]; rfl, rfl⟩

set_option maxRecDepth 100000 in
set_option maxHeartbeats 4000000 in
theorem rlen_any (y : Int) (k : Nat) (hk : k < 12) (h0 : 0 ≤ y) (w : World) : Calls Try.prog 34 #[.int .i64 y, .int .i64 ((k : Int) + 1)] w fun e w' => e = .returned (.int .i64 (lenYM y.toNat k : Int)) ∧ w = w' := by
  have hc : k = 0 ∨ k = 1 ∨ k = 2 ∨ k = 3 ∨ k = 4 ∨ k = 5 ∨ k = 6 ∨ k = 7 ∨ k = 8 ∨ k = 9 ∨ k = 10 ∨ k = 11 := by omega
  rcases hc with rfl | rfl | rfl | rfl | rfl | rfl | rfl | rfl | rfl | rfl | rfl | rfl
  case inr.inl =>
    obtain ⟨b, hb⟩ : ∃ b, lpY y.toNat = b := ⟨_, rfl⟩
    have HE : Hid ((lenYM y.toNat 1 : Int) = if b = true then 29 else 28) := Lib.hid (by
      show ((if lpY y.toNat = true then 29 else 28 : Nat) : Int) = _
      rw [hb]
      cases b <;> rfl)
    have HB := Lib.hid hb
    clear hb
    go_enter Try.func34, Try.ntmps34
    go_wp2_with fail
    refine (rleap_any y h0 _).mono ?_
    rintro e w1 ⟨rfl, rfl⟩
    rw [HB.out]
    cases b
    all_goals
      go_wp2_with fail
      go_ret
      exact ⟨by rw [HE.out]; rfl, rfl⟩
  all_goals
    go_enter Try.func34, Try.ntmps34
    go_wp2_with fail
    go_ret
    exact ⟨rfl, rfl⟩

theorem rlen_to {y z l : Int} {k : Nat} (hk : k < 12) (h0 : 0 ≤ y) (hz : (k : Int) + 1 = z) (hl : (lenYM y.toNat k : Int) = l) (w : World) : Calls Try.prog 34 #[.int .i64 y, .int .i64 z] w fun e w' => e = .returned (.int .i64 l) ∧ w = w' := by
  subst hz hl
  exact rlen_any y k hk h0 w
theorem msM_top : msM 2400 = 73049 := msM_start 200 (Nat.le_refl _)
set_option maxRecDepth 100000 in
set_option maxHeartbeats 4000000 in
theorem monthAt_any (d : Nat) (hd : d ≤ 73048) (w : World) : Calls Try.prog 20 #[.int .i64 (d : Int)] w fun e w' => (∃ (m : Nat) (r : Int), e = .returned (.tuple #[.int .i64 (m : Int), .int .i64 r]) ∧ m < 2400 ∧ msM m ≤ d ∧ d < msM (m + 1)) ∧ w = w' := by
  go_enter Try.func20, Try.ntmps20
  go_wp2_with fail
  go_loopw [0, 4] (fun v i wr => ∃ m : Nat, m < 2400 ∧ i = .int .i64 (m : Int) ∧ v = .int .i64 ((d : Int) - (msM m : Int)) ∧ msM m ≤ d ∧ w = wr) (fun _ i _ => 2400 - (intOf i).toNat)
  case atStart => exact ⟨0, by omega, rfl, rfl, Nat.zero_le _, rfl⟩
  case round =>
    obtain ⟨m, hm, rfl, rfl, hle, rfl⟩ := hrel
    have hz : ((m % 12 : Nat) : Int) + 1 = (m : Int) % 12 + 1 := by omega
    have hy : (1900 + (m : Int) / 12).toNat = 1900 + m / 12 := by omega
    obtain ⟨l, hl⟩ : ∃ l, (lenYM (1900 + (m : Int) / 12).toNat (m % 12) : Int) = l := ⟨_, rfl⟩
    have HL := Lib.hid hl
    have hb := lenYM_pos (1900 + (m : Int) / 12).toNat (m % 12)
    have hl2 : 28 ≤ l ∧ l ≤ 31 := by omega
    have hn : (msM (m + 1) : Int) = (msM m : Int) + l := by
      rw [← hl, hy]
      show ((msM m + lenMo m : Nat) : Int) = _
      unfold lenMo
      omega
    have HN := Lib.hid hn
    have HZ := Lib.hid hz
    clear hl hb hn hz hy
    have hq : (m : Int).tdiv 12 = (m : Int) / 12 := Int.tdiv_eq_ediv_of_nonneg (by omega)
    have hr : (m : Int).tmod 12 = (m : Int) % 12 := Int.tmod_eq_emod_of_nonneg (by omega)
    have hw1 : IntKind.i64.wrap (1900 + (m : Int) / 12) = 1900 + (m : Int) / 12 := IntWalk.i64_in _ (by omega)
    have hw2 : IntKind.i64.wrap ((m : Int) % 12 + 1) = (m : Int) % 12 + 1 := IntWalk.i64_in _ (by omega)
    go_wp2_with fail
    refine (rlen_to (y := 1900 + (m : Int) / 12) (k := m % 12) (by omega) (by omega) HZ.out HL.out _).mono ?_
    rintro e w1 ⟨rfl, rfl⟩
    by_cases hc : (d : Int) - (msM m : Int) < l
    · go_wp2_with fail
      go_ret2
      exact ⟨⟨m, _, rfl, hm, hle, by have := HN.out; omega⟩, rfl⟩
    · have hm2 : m + 1 < 2400 := by
        by_cases e : m + 1 < 2400
        · exact e
        · exfalso
          obtain rfl : m = 2399 := by omega
          have h1 := HN.out
          have h2 : msM (2399 + 1) = 73049 := msM_top
          omega
      have hw3 : IntKind.i64.wrap ((d : Int) - (msM m : Int) - l) = (d : Int) - (msM m : Int) - l := IntWalk.i64_in _ (by omega)
      go_wp2_with fail
      go_roundw
      case rel => exact ⟨m + 1, hm2, by go_num, by rw [HN.out]; congr 1; omega, by have := HN.out; omega, by first | trivial | rfl⟩
      case measure => simp [intOf]; omega

set_option maxRecDepth 100000 in
set_option maxHeartbeats 4000000 in
theorem rvd_any (d : Nat) (hd : d ≤ 73048) (w : World) : Calls Try.prog 19 #[.int .i64 (d : Int)] w fun e w' => e = .returned (.bool true) ∧ w = w' := by
  have h1 : (0 : Int) ≤ (d : Int) := by omega
  have h2 : (d : Int) ≤ 73048 := by omega
  go_enter Try.func19, Try.ntmps19
  go_wp2_with fail
  go_ret
  exact ⟨rfl, rfl⟩
set_option maxRecDepth 100000 in
set_option maxHeartbeats 4000000 in
/-- The reference's Month. -/
theorem rmonth_any (d : Nat) (hd : d ≤ 73048) (w : World) : Calls Try.prog 10 #[.int .i64 (d : Int)] w fun e w' => (∃ m : Nat, e = .returned (.int .i64 (m : Int)) ∧ m < 2400 ∧ msM m ≤ d ∧ d < msM (m + 1)) ∧ w = w' := by
  go_enter Try.func10, Try.ntmps10
  go_wp2_with fail
  refine (rvd_any d hd _).mono ?_
  rintro e w1 ⟨rfl, rfl⟩
  go_wp2_with fail
  refine (monthAt_any d hd _).mono ?_
  rintro e w1 ⟨⟨m, r, rfl, h1, h2, h3⟩, rfl⟩
  go_wp2_with fail
  go_ret
  exact ⟨⟨m, rfl, h1, h2, h3⟩, rfl⟩

end Go.Proofs.Ytbogmkhoppffgaa
