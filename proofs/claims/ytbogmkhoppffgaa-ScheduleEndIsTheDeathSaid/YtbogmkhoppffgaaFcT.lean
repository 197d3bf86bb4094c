/- Date and Month: the program. -/
import Derived.Test.YtbogmkhoppffgaaFcS
namespace Go.Proofs.Ytbogmkhoppffgaa
open Go.RowKit

theorem tlen_to {y z l : Int} {k : Nat} (hk : k < 12) (h0 : 0 ≤ y) (hz : (k : Int) + 1 = z) (hl : (lenYM y.toNat k : Int) = l) (w : World) : Calls Try.prog 60 #[.int .i64 y, .int .i64 z] w fun e w' => e = .returned (.int .i64 l) ∧ Below w.heap.size w w' := by
  subst hz hl
  exact tlen_any y k hk h0 w
theorem ystart_to {n : Nat} (hn : n ≤ 200) {s : Int} (hs : (msM (12 * n) : Int) = s) (w : World) : Calls Try.prog 58 #[.int .i64 (1900 + (n : Int))] w fun e w' => e = .returned (.int .i64 s) ∧ w = w' := by
  subst hs
  exact ystart_any n hn w
theorem ylen_to {n : Nat} {s : Int} (hs : (lenY (1900 + n) : Int) = s) (w : World) : Calls Try.prog 59 #[.int .i64 (1900 + (n : Int))] w fun e w' => e = .returned (.int .i64 s) ∧ w = w' := by
  subst hs
  exact ylen_any n w
theorem lenY_bd (y : Nat) : 365 ≤ lenY y ∧ lenY y ≤ 366 := by
  unfold lenY
  split <;> omega
set_option maxRecDepth 100000 in
set_option maxHeartbeats 4000000 in
theorem date_any (d : Nat) (hd : d ≤ 73048) (w : World) : Calls Try.prog 47 #[.int .i64 (d : Int)] w fun e w' => (∃ (n k : Nat) (r : Int), e = .returned (.tuple #[.int .i64 (1900 + (n : Int)), .int .i64 ((k : Int) + 1), .int .i64 r, .bool true]) ∧ k < 12 ∧ n ≤ 199 ∧ msM (12 * n + k) ≤ d ∧ d < msM (12 * n + k + 1)) ∧ Below w.heap.size w w' := by
  have htop : msM 2400 = 73049 := msM_top
  have HT := Lib.hid htop
  clear htop
  have hq : (d : Int).tdiv 366 = (d : Int) / 366 := Int.tdiv_eq_ediv_of_nonneg (by omega)
  have hw1 : IntKind.i64.wrap (1900 + (d : Int) / 366) = 1900 + (d : Int) / 366 := IntWalk.i64_in _ (by omega)
  go_enter Try.func47, Try.ntmps47
  go_wp2_with fail
  refine (tvd_any d hd _).mono ?_
  rintro e w1 ⟨rfl, rfl⟩
  go_wp2_with fail
  go_loopw [2] (fun v wr => ∃ n : Nat, n ≤ 199 ∧ v = .int .i64 (1900 + (n : Int)) ∧ msM (12 * n) ≤ d ∧ w = wr) (fun v _ => 2200 - (intOf v).toNat)
  case atStart => exact ⟨d / 366, by omega, rfl, by rw [msM_start _ (by omega)]; omega, rfl⟩
  case round =>
    obtain ⟨n, hn, rfl, hle, rfl⟩ := hrel
    obtain ⟨s, hs⟩ : ∃ s, (msM (12 * n) : Int) = s := ⟨_, rfl⟩
    obtain ⟨y, hy⟩ : ∃ y, (lenY (1900 + n) : Int) = y := ⟨_, rfl⟩
    have HS := Lib.hid hs
    have HY := Lib.hid hy
    have HN := Lib.hid (msM_next n)
    have hb := lenY_bd (1900 + n)
    have hs2 : 0 ≤ s ∧ s ≤ d := by omega
    have hy2 : 365 ≤ y ∧ y ≤ 366 := by omega
    clear hs hy hb
    have hw2 : IntKind.i64.wrap (s + y) = s + y := IntWalk.i64_in _ (by omega)
    go_wp2_with fail
    refine (ystart_to (n := n) (by omega) HS.out _).mono ?_
    rintro e w1 ⟨rfl, rfl⟩
    go_wp2_with fail
    refine (ylen_to (n := n) HY.out _).mono ?_
    rintro e w1 ⟨rfl, rfl⟩
    by_cases hc : s + y ≤ (d : Int)
    · have hm : msM (12 * (n + 1)) ≤ d := by have := HN.out; have h1 := HS.out; have h2 := HY.out; omega
      have hn2 : n + 1 ≤ 199 := by
        by_cases e : n + 1 ≤ 199
        · exact e
        · exfalso
          obtain rfl : n = 199 := by omega
          have := HT.out
          have h3 : msM (12 * (199 + 1)) = msM 2400 := rfl
          omega
      have HM := Lib.hid hm
      clear hm
      go_wp2_with fail
      go_roundw
      case rel => exact ⟨n + 1, hn2, by go_num, HM.out, by first | trivial | rfl⟩
      case measure => simp [intOf]; omega
    · have hlt : d < msM (12 * (n + 1)) := by have := HN.out; have h1 := HS.out; have h2 := HY.out; omega
      have HLT := Lib.hid hlt
      clear hlt
      have hw3 : IntKind.i64.wrap ((d : Int) - s) = (d : Int) - s := IntWalk.i64_in _ (by omega)
      go_wp2_with fail
      refine (ystart_to (n := n) (by omega) HS.out _).mono ?_
      rintro e w1 ⟨rfl, rfl⟩
      go_wp2_with fail
      go_loopw [6, 3] (fun v i wr => ∃ k : Nat, k < 12 ∧ i = .int .i64 ((k : Int) + 1) ∧ v = .int .i64 ((d : Int) - (msM (12 * n + k) : Int)) ∧ msM (12 * n + k) ≤ d ∧ Below w.heap.size w wr) (fun _ i _ => 14 - (intOf i).toNat)
      case atStart => exact ⟨0, by omega, rfl, by rw [Nat.add_zero, HS.out], hle, Below.refl _ _⟩
      case round =>
        obtain ⟨k, hk, rfl, rfl, hle2, hbr⟩ := hrel
        obtain ⟨l, hl⟩ : ∃ l, (lenYM (1900 + (n : Int)).toNat k : Int) = l := ⟨_, rfl⟩
        have hb2 := lenYM_pos (1900 + (n : Int)).toNat k
        have hl2 : 28 ≤ l ∧ l ≤ 31 := by omega
        have hnx : (msM (12 * n + k + 1) : Int) = (msM (12 * n + k) : Int) + l := by
          rw [← hl, show (1900 + (n : Int)).toNat = 1900 + n by omega]
          show ((msM (12 * n + k) + lenMo (12 * n + k) : Nat) : Int) = _
          unfold lenMo
          rw [show (12 * n + k) / 12 = n by omega, show (12 * n + k) % 12 = k by omega]
          omega
        have HL := Lib.hid hl
        have HX := Lib.hid hnx
        clear hl hb2 hnx
        go_wp2_with fail
        refine (tlen_to hk (by omega) rfl HL.out _).mono ?_
        rintro e w2 ⟨rfl, hb2⟩
        have hbr2 := hbr.trans (hb2.mono hbr.size)
        by_cases hc2 : l ≤ (d : Int) - (msM (12 * n + k) : Int)
        · have hk2 : k + 1 < 12 := by
            by_cases e : k + 1 < 12
            · exact e
            · exfalso
              obtain rfl : k = 11 := by omega
              have h1 := HX.out
              have h2 := HLT.out
              have h3 : 12 * n + 11 + 1 = 12 * (n + 1) := by omega
              rw [h3] at h1
              omega
          have hw4 : IntKind.i64.wrap ((d : Int) - (msM (12 * n + k) : Int) - l) = (d : Int) - (msM (12 * n + k) : Int) - l := IntWalk.i64_in _ (by omega)
          have hw5 : IntKind.i64.wrap ((k : Int) + 1 + 1) = (k : Int) + 1 + 1 := IntWalk.i64_in _ (by omega)
          go_wp2_with fail
          refine (tlen_to hk (by omega) rfl HL.out _).mono ?_
          rintro e w3 ⟨rfl, hb3⟩
          have hbr3 := hbr2.trans (hb3.mono hbr2.size)
          go_wp2_with fail
          go_roundw
          case rel => exact ⟨k + 1, hk2, by go_num, by rw [show 12 * n + (k + 1) = 12 * n + k + 1 by omega, HX.out]; congr 1; omega, by rw [show 12 * n + (k + 1) = 12 * n + k + 1 by omega]; have := HX.out; omega, hbr3⟩
          case measure => simp [intOf]; omega
        · have hw6 : IntKind.i64.wrap ((d : Int) - (msM (12 * n + k) : Int) + 1) = (d : Int) - (msM (12 * n + k) : Int) + 1 := IntWalk.i64_in _ (by omega)
          go_wp2_with fail
          exact bodyPost_ret (v := .tuple #[.int .i64 (1900 + (n : Int)), .int .i64 ((k : Int) + 1), .int .i64 ((d : Int) - (msM (12 * n + k) : Int) + 1), .bool true]) (by simp [results, Try.f47, go_sem]) rfl ⟨⟨n, k, _, rfl, hk, hn, hle2, by have := HX.out; omega⟩, hbr2⟩
set_option maxRecDepth 100000 in
set_option maxHeartbeats 4000000 in
/-- The program's Month. -/
theorem tmonth_any (d : Nat) (hd : d ≤ 73048) (w : World) : Calls Try.prog 28 #[.int .i64 (d : Int)] w fun e w' => (∃ m : Nat, e = .returned (.int .i64 (m : Int)) ∧ m < 2400 ∧ msM m ≤ d ∧ d < msM (m + 1)) ∧ Below w.heap.size w w' := by
  go_enter Try.func28, Try.ntmps28
  go_wp2_with fail
  refine (date_any d hd _).mono ?_
  rintro e w1 ⟨⟨n, k, r, rfl, hk, hn, h1, h2⟩, hb⟩
  have hw1 : IntKind.i64.wrap (1900 + (n : Int) - 1900) = (n : Int) := by rw [show 1900 + (n : Int) - 1900 = (n : Int) by omega]; exact IntWalk.i64_in _ (by omega)
  have hw2 : IntKind.i64.wrap (12 * (n : Int)) = 12 * (n : Int) := IntWalk.i64_in _ (by omega)
  have hw3 : IntKind.i64.wrap (12 * (n : Int) + ((k : Int) + 1)) = 12 * (n : Int) + ((k : Int) + 1) := IntWalk.i64_in _ (by omega)
  have hw4 : IntKind.i64.wrap (12 * (n : Int) + ((k : Int) + 1) - 1) = 12 * (n : Int) + ((k : Int) + 1) - 1 := IntWalk.i64_in _ (by omega)
  go_wp2_with fail
  go_ret
  exact ⟨⟨12 * n + k, by show Ending.returned (.int .i64 (12 * (n : Int) + ((k : Int) + 1) - 1)) = _; rw [show 12 * (n : Int) + ((k : Int) + 1) - 1 = ((12 * n + k : Nat) : Int) by omega], by omega, h1, h2⟩, hb⟩
end Go.Proofs.Ytbogmkhoppffgaa
