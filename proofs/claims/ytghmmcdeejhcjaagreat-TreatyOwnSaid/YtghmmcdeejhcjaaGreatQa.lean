/- Characters and tokens' lengths: the reference's letter, digit, skip, run, sign. Days out of texts: the reference's leap, length, start, Day, whole, ParseDay; numbers' parts. Numbers' parts: the reference's parts. The tokens of a text: the reference's Next and All. -/
import Derived.Test.YtghmmcdeejhcjaaGreatInsA
import Derived.IntWalk
import Derived.BigGuardPart
namespace Go.Proofs.YtghmmcdeejhcjaaGreat
open Go.RowKit

def letV (c : Int) : Bool := decide (97 ≤ c) && decide (c ≤ 122)
def digV (c : Int) : Bool := decide (48 ≤ c) && decide (c ≤ 57)
theorem letter_any (c : Int) (w : World) : Calls Tryz.prog 82 #[.int .u8 c] w fun e w' => e = .returned (.bool (letV c)) ∧ w = w' := by
  obtain ⟨v, hv⟩ : ∃ v, letV c = v := ⟨_, rfl⟩
  rw [hv]
  by_cases h1 : 97 ≤ c
  · by_cases h2 : c ≤ 122
    · obtain rfl : v = true := by rw [← hv]; unfold letV; rw [decide_eq_true h1, decide_eq_true h2]; rfl
      clear hv
      go_enter Tryz.func82, Tryz.ntmps82
      go_wp2_with fail
      go_ret
      exact ⟨rfl, rfl⟩
    · obtain rfl : v = false := by rw [← hv]; unfold letV; rw [decide_eq_false h2, Bool.and_false]
      clear hv
      go_enter Tryz.func82, Tryz.ntmps82
      go_wp2_with fail
      go_ret
      exact ⟨rfl, rfl⟩
  · obtain rfl : v = false := by rw [← hv]; unfold letV; rw [decide_eq_false h1, Bool.false_and]
    clear hv
    go_enter Tryz.func82, Tryz.ntmps82
    go_wp2_with fail
    go_ret
    exact ⟨rfl, rfl⟩
theorem digit_any (c : Int) (w : World) : Calls Tryz.prog 84 #[.int .u8 c] w fun e w' => e = .returned (.bool (digV c)) ∧ w = w' := by
  obtain ⟨v, hv⟩ : ∃ v, digV c = v := ⟨_, rfl⟩
  rw [hv]
  by_cases h1 : 48 ≤ c
  · by_cases h2 : c ≤ 57
    · obtain rfl : v = true := by rw [← hv]; unfold digV; rw [decide_eq_true h1, decide_eq_true h2]; rfl
      clear hv
      go_enter Tryz.func84, Tryz.ntmps84
      go_wp2_with fail
      go_ret
      exact ⟨rfl, rfl⟩
    · obtain rfl : v = false := by rw [← hv]; unfold digV; rw [decide_eq_false h2, Bool.and_false]
      clear hv
      go_enter Tryz.func84, Tryz.ntmps84
      go_wp2_with fail
      go_ret
      exact ⟨rfl, rfl⟩
  · obtain rfl : v = false := by rw [← hv]; unfold digV; rw [decide_eq_false h1, Bool.false_and]
    clear hv
    go_enter Tryz.func84, Tryz.ntmps84
    go_wp2_with fail
    go_ret
    exact ⟨rfl, rfl⟩
/-- A number between two bounds is returned, and nothing has turned. -/
def RetI (w : World) (lo hi : Int) (e : Ending) (w' : World) : Prop := ∃ r : Int, e = .returned (.int .i64 r) ∧ lo ≤ r ∧ r ≤ hi ∧ w = w'
set_option maxHeartbeats 2000000 in
theorem skip_any (s : ByteArray) (k : Nat) (hk : k ≤ s.size) (hs : s.size ≤ 100000) (w : World) : Calls Tryz.prog 81 #[.string s, .int .i64 (k : Int)] w (RetI w k s.size) := by
  go_enter Tryz.func81, Tryz.ntmps81
  go_wp2_with fail
  go_loop [1, 5] (fun i b => ∃ (j : Nat) (v : Bool), k ≤ j ∧ j ≤ s.size ∧ i = .int .i64 (j : Int) ∧ b = .bool v) (fun i _ => s.size - (intOf i).toNat)
  case atStart => exact ⟨k, false, by omega, by omega, rfl, rfl⟩
  case round =>
    obtain ⟨j, v, hj1, hj2, rfl, rfl⟩ := hrel
    by_cases hlt : j < s.size
    · cases v
      all_goals
        go_wp2_with fail
        all_goals first
          | (go_ret; exact ⟨j, rfl, by omega, by omega, rfl⟩)
          | (go_round
             case rel => exact ⟨j + 1, _, by omega, by omega, by go_num, rfl⟩
             case measure => simp [intOf]; omega)
    · go_wp2_with fail
      go_ret
      exact ⟨j, rfl, by omega, by omega, rfl⟩
theorem letter_to {c : Int} {v : Bool} (h : letV c = v) (w : World) : Calls Tryz.prog 82 #[.int .u8 c] w fun e w' => e = .returned (.bool v) ∧ w = w' := by
  rw [← h]
  exact letter_any c w
theorem digit_to {c : Int} {v : Bool} (h : digV c = v) (w : World) : Calls Tryz.prog 84 #[.int .u8 c] w fun e w' => e = .returned (.bool v) ∧ w = w' := by
  rw [← h]
  exact digit_any c w
/-- A letter or a digit lies at a place. -/
def Alnum (s : ByteArray) (k : Nat) : Prop := ∃ h : k < s.size, letV (s[k].toNat : Int) = true ∨ digV (s[k].toNat : Int) = true
def RetRun (s : ByteArray) (k : Nat) (w : World) (e : Ending) (w' : World) : Prop := ∃ r : Nat, e = .returned (.int .i64 (r : Int)) ∧ k + r ≤ s.size ∧ (Alnum s k → 1 ≤ r) ∧ w = w'
set_option maxHeartbeats 4000000 in
theorem run_any (s : ByteArray) (k : Nat) (p : Bool) (hk : k ≤ s.size) (hs : s.size ≤ 100000) (w : World) : Calls Tryz.prog 83 #[.string s, .int .i64 (k : Int), .bool p] w (RetRun s k w) := by
  go_enter Tryz.func83, Tryz.ntmps83
  go_wp2_with fail
  go_loop [7] (fun i => ∃ j : Nat, k + j ≤ s.size ∧ i = .int .i64 (j : Int)) (fun i => s.size - (intOf i).toNat)
  case atStart => exact ⟨0, by omega, rfl⟩
  case round =>
    obtain ⟨j, hj, rfl⟩ := hrel
    by_cases hlt : k + j < s.size
    · obtain ⟨a, ha⟩ : ∃ a, letV (s[k + j].toNat : Int) = a := ⟨_, rfl⟩
      obtain ⟨b, hb⟩ : ∃ b, digV (s[k + j].toNat : Int) = b := ⟨_, rfl⟩
      have HN : Hid (a = false → b = false → j = 0 → ¬ Alnum s k) := Lib.hid (by
        rintro rfl rfl rfl ⟨h1, h2 | h2⟩
        · have e : letV (s[k].toNat : Int) = false := ha
          rw [e] at h2
          cases h2
        · have e : digV (s[k].toNat : Int) = false := hb
          rw [e] at h2
          cases h2)
      have HA := Lib.hid ha
      have HB := Lib.hid hb
      have hdi : (k : Int) + (j : Int) < (s.size : Int) := by omega
      have hdd : decide ((k : Int) + (j : Int) < (s.size : Int)) = true := decide_eq_true hdi
      clear ha hb
      cases a
      · cases b
        · have HX : Hid (Alnum s k → 1 ≤ j) := Lib.hid fun h => Nat.one_le_iff_ne_zero.2 fun h0 => HN.out rfl rfl h0 h
          cases p
          all_goals
            go_wp2_with fail
            refine (letter_to HA.out _).mono ?_
            rintro e w1 ⟨rfl, rfl⟩
            go_wp2_with fail
            refine (digit_to HB.out _).mono ?_
            rintro e w1 ⟨rfl, rfl⟩
            go_wp2_with fail
            all_goals first
              | (go_ret; exact ⟨j, rfl, by omega, HX.out, rfl⟩)
              | (go_round
                 case rel => exact ⟨j + 1, by omega, by go_num⟩
                 case measure => simp [intOf]; omega)
        · go_wp2_with fail
          refine (letter_to HA.out _).mono ?_
          rintro e w1 ⟨rfl, rfl⟩
          go_wp2_with fail
          refine (digit_to HB.out _).mono ?_
          rintro e w1 ⟨rfl, rfl⟩
          go_wp2_with fail
          go_round
          case rel => exact ⟨j + 1, by omega, by go_num⟩
          case measure => simp [intOf]; omega
      · go_wp2_with fail
        refine (letter_to HA.out _).mono ?_
        rintro e w1 ⟨rfl, rfl⟩
        go_wp2_with fail
        go_round
        case rel => exact ⟨j + 1, by omega, by go_num⟩
        case measure => simp [intOf]; omega
    · have hd : decide ((k : Int) + (j : Int) < (s.size : Int)) = false := decide_eq_false (by omega)
      go_wp2_with fail
      go_ret
      exact ⟨j, rfl, by omega, fun ⟨h, _⟩ => by omega, rfl⟩
set_option maxHeartbeats 4000000 in
theorem sign_any (s : ByteArray) (k : Nat) (hk : k < s.size) (hs : s.size ≤ 100000) (w : World) : Calls Tryz.prog 85 #[.string s, .int .i64 (k : Int)] w (RetI w 0 ((s.size : Int) - k)) := by
  by_cases h2 : k + 1 < s.size
  · go_enter Tryz.func85, Tryz.ntmps85
    go_wp2_with fail
    all_goals (go_ret; exact ⟨_, rfl, by omega, by omega, rfl⟩)
  · go_enter Tryz.func85, Tryz.ntmps85
    go_wp2_with fail
    all_goals (go_ret; exact ⟨_, rfl, by omega, by omega, rfl⟩)

/-- Some Boolean is returned. -/
def RetB (w : World) (e : Ending) (w' : World) : Prop := ∃ b : Bool, e = .returned (.bool b) ∧ w = w'
/-- Some number and some Boolean are returned. -/
def RetIB (w : World) (e : Ending) (w' : World) : Prop := ∃ (r : Int) (b : Bool), e = .returned (.tuple #[.int .i64 r, .bool b]) ∧ w = w'
theorem pleap_any (y : Int) (w : World) : Calls Tryz.prog 136 #[.int .i64 y] w (RetB w) := by
  go_enter Tryz.func136, Tryz.ntmps136
  go_wp2_with fail
  all_goals (go_ret; exact ⟨_, rfl, rfl⟩)
theorem plen_any (y m : Int) (w : World) : Calls Tryz.prog 122 #[.int .i64 y, .int .i64 m] w (RetI w 28 31) := by
  by_cases h2 : m = 2
  · subst h2
    go_enter Tryz.func122, Tryz.ntmps122
    go_wp2_with fail
    refine (pleap_any y _).mono ?_
    rintro e w1 ⟨b, rfl, rfl⟩
    cases b
    all_goals
      go_wp2_with fail
      go_ret
      exact ⟨_, rfl, by omega, by omega, rfl⟩
  · have d2 : (m == 2) = false := beq_eq_false_iff_ne.2 h2
    go_enter Tryz.func122, Tryz.ntmps122
    go_wp2_with fail
    all_goals (go_ret; exact ⟨_, rfl, by omega, by omega, rfl⟩)
theorem pstart_any (m : Nat) (hm : m ≤ 3000) (w : World) : Calls Tryz.prog 123 #[.int .i64 (m : Int)] w (RetI w 0 100000) := by
  go_enter Tryz.func123, Tryz.ntmps123
  go_wp2_with fail
  go_loop [3, 4] (fun n i => ∃ (j : Nat) (z : Int), j ≤ m ∧ i = .int .i64 (j : Int) ∧ n = .int .i64 z ∧ 0 ≤ z ∧ z ≤ 31 * j) (fun _ i => m - (intOf i).toNat)
  case atStart => exact ⟨0, 0, by omega, rfl, rfl, by omega, by omega⟩
  case round =>
    obtain ⟨j, z, hj, rfl, rfl, hz0, hz1⟩ := hrel
    by_cases hlt : j < m
    · go_wp2_with fail
      refine (plen_any _ _ _).mono ?_
      rintro e w1 ⟨r, rfl, h1, h2, rfl⟩
      go_wp2_with fail
      go_round
      case rel => exact ⟨j + 1, z + r, by omega, by go_num, rfl, by omega, by omega⟩
      case measure => simp [intOf]; omega
    · go_wp2_with fail
      go_ret
      exact ⟨z, rfl, by omega, by omega, rfl⟩
theorem pday_any (y m d : Int) (w : World) : Calls Tryz.prog 89 #[.int .i64 y, .int .i64 m, .int .i64 d] w (RetIB w) := by
  by_cases ha : y < 1900
  · have ga : decide (y < 1900) = true := decide_eq_true ha
    go_enter Tryz.func89, Tryz.ntmps89
    go_wp2_with fail
    go_ret2
    exact ⟨_, _, rfl, rfl⟩
  have ga : decide (y < 1900) = false := decide_eq_false ha
  by_cases hb : 2099 < y
  · have gb : decide (2099 < y) = true := decide_eq_true hb
    go_enter Tryz.func89, Tryz.ntmps89
    go_wp2_with fail
    go_ret2
    exact ⟨_, _, rfl, rfl⟩
  have gb : decide (2099 < y) = false := decide_eq_false hb
  by_cases hc : m < 1
  · have gc : decide (m < 1) = true := decide_eq_true hc
    go_enter Tryz.func89, Tryz.ntmps89
    go_wp2_with fail
    go_ret2
    exact ⟨_, _, rfl, rfl⟩
  have gc : decide (m < 1) = false := decide_eq_false hc
  by_cases he : 12 < m
  · have ge : decide (12 < m) = true := decide_eq_true he
    go_enter Tryz.func89, Tryz.ntmps89
    go_wp2_with fail
    go_ret2
    exact ⟨_, _, rfl, rfl⟩
  have ge : decide (12 < m) = false := decide_eq_false he
  by_cases hf : d < 1
  · have gf : decide (d < 1) = true := decide_eq_true hf
    go_enter Tryz.func89, Tryz.ntmps89
    go_wp2_with fail
    go_ret2
    exact ⟨_, _, rfl, rfl⟩
  have gf : decide (d < 1) = false := decide_eq_false hf
  go_enter Tryz.func89, Tryz.ntmps89
  go_wp2_with fail
  refine (plen_any _ _ _).mono ?_
  rintro e w1 ⟨r, rfl, g1, g2, rfl⟩
  by_cases h6 : r < d
  · have g6 : decide (r < d) = true := decide_eq_true h6
    go_wp2_with fail
    go_ret2
    exact ⟨_, _, rfl, rfl⟩
  · have g6 : decide (r < d) = false := decide_eq_false h6
    obtain ⟨k, hk⟩ : ∃ k : Nat, (k : Int) = (y - 1900) * 12 + m - 1 := ⟨((y - 1900) * 12 + m - 1).toNat, by omega⟩
    have HK := Lib.hid hk
    have hkb : k ≤ 3000 := by omega
    clear hk
    go_wp2_with fail
    rw [← HK.out]
    refine (pstart_any k hkb _).mono ?_
    rintro e w2 ⟨q, rfl, q1, q2, rfl⟩
    go_wp2_with fail
    go_ret2
    exact ⟨_, _, rfl, rfl⟩
theorem pwhole_any (s : ByteArray) (hs : s.size ≤ 100000) (w : World) : Calls Tryz.prog 88 #[.string s] w (RetIB w) := by
  go_enter Tryz.func88, Tryz.ntmps88
  go_wp2_with fail
  go_loop [4, 5] (fun n i => ∃ (j : Nat) (z : Int), j ≤ s.size ∧ i = .int .i64 (j : Int) ∧ n = .int .i64 z) (fun _ i => s.size - (intOf i).toNat)
  case atStart => exact ⟨0, 0, by omega, rfl, rfl⟩
  case round =>
    obtain ⟨j, z, hj, rfl, rfl⟩ := hrel
    by_cases hlt : j < s.size
    · go_wp2_with fail
      all_goals first
        | (go_ret2; exact ⟨_, _, rfl, rfl⟩)
        | (go_round
           case rel => exact ⟨j + 1, _, by omega, by go_num, rfl⟩
           case measure => simp [intOf]; omega)
    · go_wp2_with fail
      go_ret2
      exact ⟨_, _, rfl, rfl⟩
theorem ext_le (s : ByteArray) (a b : Nat) : (s.extract a b).size ≤ s.size := by rw [ByteArray.size_extract]; omega
theorem parseday_any (s : ByteArray) (hs : s.size ≤ 100000) (w : World) : Calls Tryz.prog 56 #[.string s] w (RetIB w) := by
  by_cases h10 : s.size = 10
  · have h4 : 4 < s.size := by omega
    have h7 : 7 < s.size := by omega
    have d10 : ((s.size : Int) != 10) = false := by simp [h10]
    have L8 : 8 ≤ s.size := by omega
    have L5 : 5 ≤ 7 := by omega
    by_cases c4 : (s[4].toNat : Int) = 45
    · have e4 : ((s[4].toNat : Int) != 45) = false := by simp [c4]
      by_cases c7 : (s[7].toNat : Int) = 45
      · have e7 : ((s[7].toNat : Int) != 45) = false := by simp [c7]
        have H10 := Lib.hid h10
        clear h10 c4 c7
        go_enter Tryz.func56, Tryz.ntmps56
        go_wp2_with fail
        refine (pwhole_any _ (Nat.le_trans (ext_le _ _ _) hs) _).mono ?_
        rintro e w1 ⟨r1, b1, rfl, rfl⟩
        go_wp2_with fail
        refine (pwhole_any _ (Nat.le_trans (ext_le _ _ _) hs) _).mono ?_
        rintro e w1 ⟨r2, b2, rfl, rfl⟩
        go_wp2_with fail
        refine (pwhole_any _ (Nat.le_trans (ext_le _ _ _) hs) _).mono ?_
        rintro e w1 ⟨r3, b3, rfl, rfl⟩
        cases b1
        · go_wp2_with fail
          go_ret2
          exact ⟨_, _, rfl, rfl⟩
        cases b2
        · go_wp2_with fail
          go_ret2
          exact ⟨_, _, rfl, rfl⟩
        cases b3
        · go_wp2_with fail
          go_ret2
          exact ⟨_, _, rfl, rfl⟩
        go_wp2_with fail
        refine (pday_any _ _ _ _).mono ?_
        rintro e w1 ⟨r4, b4, rfl, rfl⟩
        go_wp2_with fail
        go_ret2
        exact ⟨_, _, rfl, rfl⟩
      · have e7 : ((s[7].toNat : Int) != 45) = true := by simpa using c7
        clear h10 c4 c7
        go_enter Tryz.func56, Tryz.ntmps56
        go_wp2_with fail
        go_ret2
        exact ⟨_, _, rfl, rfl⟩
    · have e4 : ((s[4].toNat : Int) != 45) = true := by simpa using c4
      clear h10 c4
      go_enter Tryz.func56, Tryz.ntmps56
      go_wp2_with fail
      go_ret2
      exact ⟨_, _, rfl, rfl⟩
  · have d10 : ((s.size : Int) != 10) = true := by simp; omega
    clear h10
    go_enter Tryz.func56, Tryz.ntmps56
    go_wp2_with fail
    go_ret2
    exact ⟨_, _, rfl, rfl⟩
theorem dayof_any (s : ByteArray) (h1 : 1 ≤ s.size) (hs : s.size ≤ 100000) (w : World) : Calls Tryz.prog 40 #[.string s] w fun e w' => (∃ r : Int, e = .returned (.int .i64 r)) ∧ w = w' := by
  go_enter Tryz.func40, Tryz.ntmps40
  go_wp2_with fail
  refine (parseday_any _ ?_ _).mono ?_
  · rw [ByteArray.size_extract]; omega
  rintro e w1 ⟨r, b, rfl, rfl⟩
  go_wp2_with fail
  go_ret
  exact ⟨⟨_, rfl⟩, rfl⟩

/-- What parts returns: digits before and behind the point, a dimension; of few bytes if it says so. -/
def RetParts (w : World) (e : Ending) (w' : World) : Prop := ∃ (a b : ByteArray) (d : Int) (ok : Bool), e = .returned (.tuple #[.string a, .string b, .int .i64 d, .bool ok]) ∧ (ok = true → a.size ≤ 9 ∧ b.size ≤ 4 ∧ 2 ≤ d ∧ d ≤ 4) ∧ w = w'
set_option maxRecDepth 100000 in
set_option maxHeartbeats 4000000 in
theorem parts_any (s : ByteArray) (hs : s.size ≤ 100000) (w : World) : Calls Tryz.prog 54 #[.string s] w (RetParts w) := by
  go_enter Tryz.func54, Tryz.ntmps54
  go_upto_region 3 with (fail)
  go_cut [24] from 16 to 24 (fun v wx => ∃ b : Bool, v = .bool b ∧ (b = true → 1 ≤ s.size) ∧ wx = w)
  case first =>
    by_cases h0 : 0 < s.size
    · have hd : decide (0 < s.size) = true := decide_eq_true h0
      have hw : ((s.size : Int) - 1).toNat = s.size - 1 := by omega
      have hlt : s.size - 1 < s.size := by omega
      have hlo : (0 : Int) ≤ (s.size : Int) - 1 := by omega
      go_wp2_with fail
      go_meet
      exact ⟨_, rfl, fun _ => h0, rfl⟩
    · have hd : decide (0 < s.size) = false := decide_eq_false h0
      go_wp2_with fail
      go_meet
      exact ⟨_, rfl, (fun h => by cases h), rfl⟩
  case rest =>
  obtain ⟨b, rfl, hb, rfl⟩ := hcut
  go_upto_if 24 with (fail)
  go_cut [0, 6] from 25 to 41 (fun v d wx => ∃ (t : ByteArray) (dim : Int), v = .string t ∧ t.size ≤ s.size ∧ d = .int .i64 dim ∧ 2 ≤ dim ∧ dim ≤ 4 ∧ wx = wc)
  case first =>
    cases b
    · by_cases h0 : 0 < s.size
      · have hd : decide (0 < s.size) = true := decide_eq_true h0
        have hw : ((s.size : Int) - 1).toNat = s.size - 1 := by omega
        have hlt : s.size - 1 < s.size := by omega
        have hlo : (0 : Int) ≤ (s.size : Int) - 1 := by omega
        go_wp2_with fail
        all_goals go_meet
        · exact ⟨_, _, rfl, ext_le _ _ _, rfl, by omega, by omega, rfl⟩
        · exact ⟨_, _, rfl, Nat.le_refl _, rfl, by omega, by omega, rfl⟩
      · have hd : decide (0 < s.size) = false := decide_eq_false h0
        go_wp2_with fail
        go_meet
        exact ⟨_, _, rfl, Nat.le_refl _, rfl, by omega, by omega, rfl⟩
    · have h0 := hb rfl
      have hw : ((s.size : Int) - 1).toNat = s.size - 1 := by omega
      have hlo : (0 : Int) ≤ (s.size : Int) - 1 := by omega
      go_wp2_with fail
      go_meet
      exact ⟨_, _, rfl, ext_le _ _ _, rfl, by omega, by omega, rfl⟩
  case rest =>
    obtain ⟨t, dim, rfl, ht, rfl, hd2, hd4, rfl⟩ := hcut
    go_wp2_with fail
    go_loop [8, 9] (fun p i => ∃ j q : Nat, j ≤ t.size ∧ q ≤ t.size ∧ p = .int .i64 (q : Int) ∧ i = .int .i64 ((j : Int) - 1)) (fun _ i => (intOf i + 1).toNat)
    case atStart => exact ⟨t.size, t.size, by omega, by omega, rfl, rfl⟩
    case round =>
      obtain ⟨j, q, hj, hq, rfl, rfl⟩ := hrel
      by_cases hlt : 0 < j
      · obtain ⟨k, rfl⟩ : ∃ k, j = k + 1 := ⟨j - 1, by omega⟩
        have e1 : (((k + 1 : Nat) : Int) - 1) = (k : Int) := by omega
        rw [e1]
        have hk : k < t.size := by omega
        go_wp2_with fail
        all_goals
          go_round
          case rel => first | exact ⟨k, k, by omega, by omega, rfl, rfl⟩ | exact ⟨k, q, by omega, by omega, rfl, rfl⟩
          case measure => simp [intOf] <;> omega
      · obtain rfl : j = 0 := by omega
        have hd2' : ¬ (0 : Int) ≤ ((0 : Nat) : Int) - 1 := by omega
        go_upto_if 62 with (fail)
        rw [show (((0 : Nat) : Int) - 1) = -1 by omega]
        obtain ⟨a, ha⟩ : ∃ a, t.extract 0 q = a := ⟨_, rfl⟩
        have hal : a.size ≤ 100000 := by rw [← ha]; exact Nat.le_trans (ext_le _ _ _) (by omega)
        rw [ha]
        clear ha
        go_cut [11] from 62 to 74 (fun v wx => ∃ b2 : ByteArray, v = .string b2 ∧ b2.size ≤ 4 ∧ wx = wc)
        case first =>
          by_cases hqt : q < t.size
          · obtain ⟨b2, hb2⟩ : ∃ b2, t.extract (q + 1) t.size = b2 := ⟨_, rfl⟩
            go_wp2_with fail
            all_goals first
              | exact bodyPost_ret (v := .tuple #[.string ⟨#[]⟩, .string ⟨#[]⟩, .int .i64 0, .bool false]) (by simp [results, Tryz.f54, go_sem]) rfl ⟨_, _, _, _, rfl, (fun h => by cases h), rfl⟩
              | (go_meet; exact ⟨b2, rfl, by omega, rfl⟩)
          · have e2 : decide (q < t.size) = false := decide_eq_false hqt
            go_wp2_with fail
            go_meet
            exact ⟨_, rfl, by decide, rfl⟩
        case rest =>
          obtain ⟨b2, rfl, hb2, rfl⟩ := hcut
          have hab : (a ++ b2).size = a.size + b2.size := ByteArray.size_append
          have HAB := Lib.hid hab
          clear hab
          obtain ⟨ab, hx⟩ : ∃ ab, a ++ b2 = ab := ⟨_, rfl⟩
          have HX := Lib.hid hx
          have habs : ab.size = a.size + b2.size := by rw [← hx]; exact HAB.out
          clear HAB
          have HS := Lib.hid habs
          go_wp2_with fail
          go_loop [12, 13] (fun i _ => ∃ j : Nat, j ≤ a.size + b2.size ∧ i = .int .i64 (j : Int)) (fun i _ => a.size + b2.size - (intOf i).toNat)
          case atStart => exact ⟨0, by omega, rfl⟩
          case round =>
            obtain ⟨j, hj, rfl⟩ := hrel
            by_cases hlt : j < a.size + b2.size
            · have hjx : j < ab.size := by rw [habs]; exact hlt
              clear habs
              have hd5 : decide ((j : Int) < (a.size : Int) + (b2.size : Int)) = true := decide_eq_true (by omega)
              go_wp2_with fail
              refine (digit_any _ _).mono ?_
              rintro e w1 ⟨rfl, rfl⟩
              generalize digV _ = v
              cases v
              · go_wp2_with fail
                exact bodyPost_ret (v := .tuple #[.string ⟨#[]⟩, .string ⟨#[]⟩, .int .i64 0, .bool false]) (by simp [results, Tryz.f54, go_sem]) rfl ⟨_, _, _, _, rfl, (fun h => by cases h), rfl⟩
              · go_wp2_with fail
                go_round
                case rel => exact ⟨j + 1, by omega, by go_num⟩
                case measure => simp [intOf]; omega
            · clear habs hx
              go_wp2_with fail
              all_goals first
                | (refine bodyPost_ret (v := .tuple #[.string ⟨#[]⟩, .string ⟨#[]⟩, .int .i64 0, .bool false]) ?_ rfl ⟨_, _, _, _, rfl, (fun h => by cases h), rfl⟩; (simp [results, Tryz.f54, go_sem]; done))
                | exact bodyPost_ret (v := .tuple #[.string a, .string b2, .int .i64 dim, .bool true]) (by simp [results, Tryz.f54, go_sem]) rfl ⟨_, _, _, _, rfl, (fun _ => ⟨by omega, hb2, hd2, hd4⟩), rfl⟩

/-- A token: its kind, its bytes, its place. -/
structure Tk where
  k : Int
  t : ByteArray
  a : Int
def Tk.cells (x : Tk) : List Value := [.int .i64 x.k, .string x.t, .int .i64 x.a]
def Tk.agg (x : Tk) : Value := .agg #[.int .i64 x.k, .string x.t, .int .i64 x.a]
theorem tk_len (x : Tk) : x.cells.length = 3 := rfl
/-- What the tokens of a text share. -/
def Tk.Ok (x : Tk) : Prop := x.t.size ≤ 100000 ∧ (x.k = 3 → 1 ≤ x.t.size)
def RetNext (s : ByteArray) (k : Nat) (w : World) (e : Ending) (w' : World) : Prop :=
  ∃ (x : Tk) (n : Nat) (er : Int), e = .returned (.tuple #[x.agg, .int .i64 (n : Int), .int .i64 er]) ∧ (er = 0 → x.k = 0 ∨ (k < n ∧ n ≤ s.size ∧ x.Ok)) ∧ Below w.heap.size w w'
set_option maxRecDepth 100000 in
set_option maxHeartbeats 4000000 in
theorem next_any (s : ByteArray) (k : Nat) (hk : k ≤ s.size) (hs : s.size ≤ 100000) (w : World) : Calls Tryz.prog 51 #[.string s, .int .i64 (k : Int)] w (RetNext s k w) := by
  have d1 : decide ((k : Int) < 0) = false := decide_eq_false (by omega)
  have d2 : decide ((s.size : Int) < (k : Int)) = false := decide_eq_false (by omega)
  go_enter Tryz.func51, Tryz.ntmps51
  go_wp2_with fail
  refine (skip_any s k hk hs _).mono ?_
  rintro e w1 ⟨r, rfl, hr1, hr2, rfl⟩
  obtain ⟨m, rfl⟩ : ∃ m : Nat, r = (m : Int) := ⟨r.toNat, by omega⟩
  by_cases hm : m = s.size
  · have d3 : ((m : Int) == (s.size : Int)) = true := by simp [hm]
    clear hm
    go_wp2_with fail
    exact bodyPost_ret (v := .tuple #[.agg #[.int .i64 0, .string ⟨#[]⟩, .int .i64 (m : Int)], .int .i64 (m : Int), .int .i64 0]) (by simp [results, Tryz.f51, go_sem]) rfl ⟨⟨0, ⟨#[]⟩, m⟩, m, 0, rfl, fun _ => .inl rfl, (Below.refl w.heap.size w).alloc (Nat.le_refl _) _⟩
  · have d3 : ((m : Int) == (s.size : Int)) = false := by simp; omega
    have hlt : m < s.size := by omega
    clear hm
    go_upto_block 0 with (fail)
    go_cut [7, 8, 9] from 29 to 86 (fun v7 v8 v9 wx => ∃ (kd : Int) (n : Nat) (b : Bool), v7 = .int .i64 kd ∧ v8 = .int .i64 (n : Int) ∧ v9 = .bool b ∧ (b = true → 1 ≤ n ∧ m + n ≤ s.size) ∧ n ≤ 200000 ∧ wx = w.alloc (.cells #[.int .i64 0, .string ⟨#[]⟩, .int .i64 0] 92))
    case first =>
      obtain ⟨v, hv⟩ : ∃ v, letV (s[m].toNat : Int) = v := ⟨_, rfl⟩
      obtain ⟨u, hu⟩ : ∃ v, digV (s[m].toNat : Int) = v := ⟨_, rfl⟩
      have HV := Lib.hid hv
      have HU := Lib.hid hu
      clear hv hu
      cases v
      · cases u
        · by_cases c : (s[m].toNat : Int) = 64
          · have e : ((s[m].toNat : Int) == 64) = true := by simp [c]
            clear c
            by_cases h11 : 11 ≤ s.size - m
            · have hd : decide ((11 : Int) ≤ (s.size : Int) - (m : Int)) = true := decide_eq_true (by omega)
              have g1 : m + 11 ≤ s.size := by omega
              go_wp2_with fail
              refine (letter_to HV.out _).mono ?_
              rintro e w1 ⟨rfl, rfl⟩
              go_wp2_with fail
              refine (digit_to HU.out _).mono ?_
              rintro e w1 ⟨rfl, rfl⟩
              go_wp2_with fail
              refine (parseday_any _ (Nat.le_trans (ext_le _ _ _) hs) _).mono ?_
              rintro e w1 ⟨r1, b1, rfl, rfl⟩
              go_wp2_with fail
              go_meet
              exact ⟨3, 11, b1, rfl, rfl, rfl, fun _ => ⟨by omega, g1⟩, by omega, rfl⟩
            · have hd : decide ((11 : Int) ≤ (s.size : Int) - (m : Int)) = false := decide_eq_false (by omega)
              go_wp2_with fail
              refine (letter_to HV.out _).mono ?_
              rintro e w1 ⟨rfl, rfl⟩
              go_wp2_with fail
              refine (digit_to HU.out _).mono ?_
              rintro e w1 ⟨rfl, rfl⟩
              go_wp2_with fail
              go_meet
              exact ⟨3, 11, false, rfl, rfl, rfl, (fun h => by cases h), by omega, rfl⟩
          · have e : ((s[m].toNat : Int) == 64) = false := by simp; omega
            clear c
            go_wp2_with fail
            refine (letter_to HV.out _).mono ?_
            rintro e w1 ⟨rfl, rfl⟩
            go_wp2_with fail
            refine (digit_to HU.out _).mono ?_
            rintro e w1 ⟨rfl, rfl⟩
            go_wp2_with fail
            refine (sign_any s m hlt hs _).mono ?_
            rintro e w1 ⟨r1, rfl, g1, g2, rfl⟩
            obtain ⟨n, rfl⟩ : ∃ n : Nat, r1 = (n : Int) := ⟨r1.toNat, by omega⟩
            go_wp2_with fail
            go_meet
            exact ⟨4, n, decide (0 < n), rfl, rfl, rfl, fun h => ⟨of_decide_eq_true h, by omega⟩, by omega, rfl⟩
        · go_wp2_with fail
          refine (letter_to HV.out _).mono ?_
          rintro e w1 ⟨rfl, rfl⟩
          go_wp2_with fail
          refine (digit_to HU.out _).mono ?_
          rintro e w1 ⟨rfl, rfl⟩
          go_wp2_with fail
          refine (run_any s m true (by omega) hs _).mono ?_
          rintro e w1 ⟨n, rfl, g1, g2, rfl⟩
          have g3 := g2 ⟨hlt, .inr HU.out⟩
          clear g2
          go_wp2_with fail
          refine (parts_any _ (Nat.le_trans (ext_le _ _ _) hs) _).mono ?_
          rintro e w1 ⟨x1, x2, x3, ok, rfl, -, rfl⟩
          go_wp2_with fail
          go_meet
          exact ⟨2, n, ok, rfl, rfl, rfl, fun _ => ⟨g3, g1⟩, by omega, rfl⟩
      · go_wp2_with fail
        refine (letter_to HV.out _).mono ?_
        rintro e w1 ⟨rfl, rfl⟩
        go_wp2_with fail
        refine (run_any s m false (by omega) hs _).mono ?_
        rintro e w1 ⟨n, rfl, g1, g2, rfl⟩
        have g3 := g2 ⟨hlt, .inl HV.out⟩
        clear g2
        go_wp2_with fail
        go_meet
        exact ⟨1, n, _, rfl, rfl, rfl, fun _ => ⟨g3, g1⟩, by omega, rfl⟩
    case rest =>
      obtain ⟨kd, n, b, rfl, rfl, rfl, hb, hn2, rfl⟩ := hcut
      cases b
      · go_wp2_with fail
        exact bodyPost_ret (v := .tuple #[.agg #[.int .i64 0, .string ⟨#[]⟩, .int .i64 0], .int .i64 (m : Int), .int .i64 4]) (by simp [results, Tryz.f51, go_sem]) rfl ⟨⟨0, ⟨#[]⟩, 0⟩, m, 4, rfl, fun _ => .inl rfl, (Below.refl w.heap.size w).alloc (Nat.le_refl _) _⟩
      · obtain ⟨hb1, hb2⟩ := hb rfl
        have hex : (s.extract m (m + n)).size = n := by rw [ByteArray.size_extract]; omega
        have HEX := Lib.hid hex
        clear hex
        go_wp2_with fail
        exact bodyPost_ret (v := .tuple #[.agg #[.int .i64 kd, .string (s.extract m (m + n)), .int .i64 (m : Int)], .int .i64 ((m : Int) + (n : Int)), .int .i64 0]) (by simp [results, Tryz.f51, go_sem]) rfl ⟨⟨kd, s.extract m (m + n), m⟩, m + n, 0, by rfl, fun _ => .inr ⟨by omega, hb2, by show (s.extract m (m + n)).size ≤ 100000; rw [HEX.out]; omega, fun _ => by show 1 ≤ (s.extract m (m + n)).size; rw [HEX.out]; exact hb1⟩, (Below.refl w.heap.size w).alloc (Nat.le_refl _) _⟩
theorem info_tok : (Tryz.prog.info? 92).map (fun i => (i.zero, i.size, i.bytes)) = some (some (.agg #[.int .i64 0, .string ⟨#[]⟩, .int .i64 0]), 3, 32) := by kernel_rfl
theorem tk_one (x : Tk) : ∀ u ∈ x.cells, u.oneCell' = true := by
  intro u hu
  simp only [Tk.cells, List.mem_cons, List.not_mem_nil, or_false] at hu
  rcases hu with rfl | rfl | rfl <;> rfl
/-- The tokens of a text, in a row of the call's own; or an error. -/
def RetAll (w : World) (e : Ending) (w' : World) : Prop :=
  ∃ (A : Option Addr) (n c : Nat) (L : List Tk) (p er : Int), e = .returned (.tuple #[.slice A n c, .int .i64 p, .int .i64 er]) ∧ L.length = n ∧ n ≤ 8000 ∧ (∀ x ∈ L, x.Ok) ∧ w'.ownsRow w.heap.size 92 3 (.slice A n c) n (flat Tk.cells L) ∧ Below w.heap.size w w'
theorem own_underP {w w' : World} {base e sz n : Nat} {v : Value} {xs : List Value} (h : w.ownsRow base e sz v n xs) (hb : Below w.heap.size w w') : w'.ownsRow base e sz v n xs :=
  h.kept (row := none) (grownBy_of_below hb none) (Classical.em _)
theorem nil_all {w w' : World} {p er : Int} (hb : Below w.heap.size w w') : RetAll w (.returned (.tuple #[.slice none 0 0, .int .i64 p, .int .i64 er])) w' :=
  ⟨none, 0, 0, [], p, er, rfl, rfl, by omega, by simp, World.ownsRow_nil _ _ _ _, hb⟩
theorem tks_ok {O : List Tk} {x : Tk} (h : ∀ y ∈ O, y.Ok) (hx : x.Ok) : ∀ y ∈ O ++ [x], y.Ok := by
  intro y hy
  rcases List.mem_append.1 hy with hy | hy
  · exact h y hy
  · obtain rfl : y = x := by simpa using hy
    exact hx
set_option maxRecDepth 100000 in
set_option maxHeartbeats 4000000 in
theorem all_any (s : ByteArray) (hs : s.size ≤ 100000) (w : World) : Calls Tryz.prog 34 #[.string s] w (RetAll w) := by
  obtain ⟨i0, hi0, hz0, hz1, hz2⟩ := info_parts info_tok
  by_cases h8 : 8000 < s.size
  · have d8 : (8000 : Int) < (s.size : Int) := by omega
    go_enter Tryz.func34, Tryz.ntmps34
    go_wp2_with fail
    go_ret3
    exact nil_all (Below.refl _ _)
  have d8 : ¬ (8000 : Int) < (s.size : Int) := by omega
  go_enter Tryz.func34, Tryz.ntmps34
  go_wp2_with fail
  go_loopw [5, 6, 7, 8, 9] (fun v i _ _ _ wr => ∃ (k n c : Nat) (A : Option Addr) (O : List Tk), k ≤ s.size ∧ i = .int .i64 (k : Int) ∧ v = .slice A n c ∧ O.length = n ∧ n ≤ k ∧ (∀ x ∈ O, x.Ok) ∧ wr.ownsRow w.heap.size 92 3 (.slice A n c) n (flat Tk.cells O) ∧ Below w.heap.size w wr) (fun _ i _ _ _ _ => s.size - (intOf i).toNat)
  case atStart => exact ⟨0, 0, 0, none, [], by omega, rfl, rfl, rfl, by omega, by simp, World.ownsRow_nil _ _ _ _, Below.refl _ _⟩
  case round =>
    obtain ⟨k, n, c, A, O, hk, rfl, rfl, hol, hnk, hok, hown, hb⟩ := hrel
    have HO := Lib.hid hol
    have HK := Lib.hid hok
    have hsz := hb.size
    clear hol hok
    go_wp2_with fail
    refine (next_any s k hk hs _).mono ?_
    rintro e w1 ⟨x, m, er, rfl, hx, hb1⟩
    have hown1 : w1.ownsRow w.heap.size 92 3 (.slice A n c) n (flat Tk.cells O) := own_underP hown hb1
    have hbb := hb.trans (hb1.mono hsz)
    have hzz := hbb.size
    clear hb1 hown
    unfold Tk.agg
    by_cases he : er = 0
    · have hx2 := hx he
      subst he
      clear hx
      by_cases h0 : x.k = 0
      · have d0 : (x.k == 0) = true := beq_iff_eq.2 h0
        clear h0 hx2
        go_wp2_with fail
        go_ret3
        exact ⟨A, n, c, O, 0, 0, rfl, HO.out, by omega, HK.out, hown1.alloc _, hbb.alloc hzz _⟩
      · have d0 : (x.k == 0) = false := beq_eq_false_iff_ne.2 h0
        obtain ⟨hm1, hm2, hxo⟩ := hx2.resolve_left h0
        have HX := Lib.hid hxo
        clear h0 hx2 hxo
        go_wp2_with (at_builtin; go_loud (refine wpList_append_rd (by rfl) (.tmp 28) (.tmp 30) 66 (by rfl) w.heap.size 92 i0 _ 3 32 Tryz.underlying66 hi0 hz0 hz1 hz2 rfl (by omega) (.slice A n c) n (flat Tk.cells O) (by rfl) ((hown1.alloc _).alloc _) (w1.heap.size + 2) (some ⟨w1.heap.size + 1, 0, none⟩) 1 1 x.cells (by rfl) (Rd.built (cs := x.cells.toArray) (heap_alloc2_new w1 _ _) (by omega) rfl) (tk_one x) (by unfold maxLen; omega) (by omega) (by simp; omega) ?_); intro v4 w4 hown4 hg4 hat4)
        have hb4 := ((hbb.alloc hzz (.cells x.cells.toArray 92)).alloc (by simp; omega) (.cells x.cells.toArray 92)).grown hg4 (by simp; omega) (fun g e => (hown1.lt g e).1)
        obtain ⟨A4, c4, rfl, _, _, _⟩ := own_form hown4
        go_roundw
        case rel => exact ⟨m, n + 1, c4, A4, O ++ [x], by omega, rfl, rfl, by rw [List.length_append, HO.out]; rfl, by omega, tks_ok HK.out HX.out, by rw [flat_append, flat_one]; exact hown4, hb4⟩
        case measure => simp [intOf]; omega
    · have de : (er != 0) = true := by simp [he]
      clear hx
      go_wp2_with fail
      go_ret3
      exact nil_all (hbb.alloc hzz _)
end Go.Proofs.YtghmmcdeejhcjaaGreat
