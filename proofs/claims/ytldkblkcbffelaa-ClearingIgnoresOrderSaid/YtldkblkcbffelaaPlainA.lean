/- Contracts of the small arithmetic helpers: Mod, Amount, the tests of a state and of an amount. -/
import Derived.Test.YtldkblkcbffelaaBase
import Derived.Lib.Hide
import Derived.Test.YtldkblkcbffelaaRows
import Derived.WalkSpells
import Derived.WalkLawsBesides
namespace Go.Proofs.Ytldkblkcbffelaa
open Go.RowKit

theorem ret_int {k : IntKind} {a b : Int} (h : a = b) : Ending.returned (.int k a) = .returned (.int k b) := by rw [h]
theorem ret_bool {a b : Bool} (h : a = b) : Ending.returned (.bool a) = .returned (.bool b) := by rw [h]

theorem wf_i64_iff (n : Int) : (Lit.int .i64 n).wf = true ↔ -9223372036854775808 ≤ n ∧ n ≤ 9223372036854775807 := by
  simp [Lit.wf, IntKind.min, IntKind.max, IntKind.signed, IntKind.bits]

theorem tmod_split (n m : Int) : n % m = n.tmod m % m := by
  have h := Int.mul_tdiv_add_tmod n m
  have h2 : n % m = (n.tmod m + m * n.tdiv m) % m := by rw [Int.add_comm, h]
  rw [h2, Int.add_mul_emod_self_left]
theorem tmod_neg {n m : Int} (hm : 1 ≤ m) (h : n.tmod m < 0) : n.tmod m + m = n % m := by
  have h1 := Int.lt_tmod_of_pos n (show 0 < m by omega)
  rw [tmod_split]
  have h2 : (n.tmod m) % m = (n.tmod m + m) % m := by rw [Int.add_emod_right]
  rw [h2, Int.emod_eq_of_lt (by omega) (by omega)]
theorem tmod_pos {n m : Int} (hm : 1 ≤ m) (h : 0 ≤ n.tmod m) : n.tmod m = n % m := by
  have h1 := Int.tmod_lt_of_pos n (show 0 < m by omega)
  rw [tmod_split, Int.emod_eq_of_lt h h1]

/-- Go's remainder, brought to 0 .. m-1. -/
theorem mod_any (n m : Int) (w : World) (_hn : -9223372036854775808 ≤ n ∧ n ≤ 9223372036854775807) (hm : 1 ≤ m) (hm2 : m ≤ 4611686018427387904) :
    Calls Try.prog 19 #[.int .i64 n, .int .i64 m] w fun e w' => e = .returned (.int .i64 (n % m)) ∧ w = w' := by
  have h1 := Int.lt_tmod_of_pos n (show 0 < m by omega)
  have h2 := Int.tmod_lt_of_pos n (show 0 < m by omega)
  by_cases h : n.tmod m < 0
  · have H := Lib.hid (tmod_neg hm h)
    go_enter Try.func19, Try.ntmps19
    go_wp2
    go_ret
    exact ⟨ret_int H.out, rfl⟩
  · have H := Lib.hid (tmod_pos hm (show 0 ≤ n.tmod m by omega))
    go_enter Try.func19, Try.ntmps19
    go_wp2
    go_ret
    exact ⟨ret_int H.out, rfl⟩

/-- What 'Amount' makes of a number. -/
def amountOf (n : Int) : Int :=
  if n % 8 = 0 then 0 else if n % 8 = 1 then 1000000000000 - n.tdiv 8 % 1000 else if n % 8 = 2 then n.tdiv 8 % 1000000000001 else n.tdiv 8 % 5000
theorem amountOf_bd (n : Int) : 0 ≤ amountOf n ∧ amountOf n ≤ 1000000000000 := by
  unfold amountOf
  split
  · omega
  · split
    · omega
    · split <;> omega

theorem tdiv8_bd (n : Int) (hn : -9223372036854775808 ≤ n ∧ n ≤ 9223372036854775807) : -1152921504606846976 ≤ n.tdiv 8 ∧ n.tdiv 8 ≤ 1152921504606846976 := by
  have h := Int.mul_tdiv_add_tmod n 8
  have h1 := Int.lt_tmod_of_pos n (show (0 : Int) < 8 by omega)
  have h2 := Int.tmod_lt_of_pos n (show (0 : Int) < 8 by omega)
  omega

set_option maxHeartbeats 400000 in
theorem amount_any (n : Int) (w : World) (hn : -9223372036854775808 ≤ n ∧ n ≤ 9223372036854775807) :
    Calls Try.prog 40 #[.int .i64 n] w fun e w' => e = .returned (.int .i64 (amountOf n)) ∧ w = w' := by
  have hd := tdiv8_bd n hn
  go_enter Try.func40, Try.ntmps40
  go_wp2_with (go_at_call 19; refine (mod_any _ _ _ (by omega) (by omega) (by omega)).mono ?_; rintro e w' ⟨rfl, rfl⟩)
  all_goals go_ret
  all_goals refine ⟨ret_int ?_, rfl⟩
  all_goals simp only [beq_iff_eq, beq_eq_false_iff_ne] at *
  all_goals simp [amountOf, *]

theorem isState_any (s : Int) (w : World) :
    Calls Try.prog 39 #[.int .i64 s] w fun e w' => e = .returned (.bool (decide (0 ≤ s) && decide (s < 6))) ∧ w = w' := by
  go_enter Try.func39, Try.ntmps39
  go_wp2
  all_goals go_ret
  all_goals refine ⟨ret_bool ?_, rfl⟩
  all_goals simp
  all_goals omega
end Go.Proofs.Ytldkblkcbffelaa
