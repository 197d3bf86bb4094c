/- The walk of ScheduleValidAgrees. -/
import Derived.Test.YtnjloghphkjcoaaScL
import Derived.Test.YtnjloghphkjcoaaScO
namespace Go.Proofs.Ytnjloghphkjcoaa
open Go.RowKit

set_option maxHeartbeats 4000000 in
theorem walkScheduleValidAgrees (A : Option Addr) (n c : Nat) (l : List Rw) (st be mo : Int) (w : World) (h : Dr w A n l) (hn : n ≤ maxLen) (_ : I64 st) (_ : I64 be) (_ : I64 mo) :
    Calls Try.prog 3 #[.slice A n c, .int .i64 st, .int .i64 be, .int .i64 mo] w fun e w' => e = .returned (.bool true) ∧ Below w.heap.size w w' := by
  obtain ⟨v, hv⟩ : ∃ v, vldB l = v := ⟨_, rfl⟩
  obtain ⟨a, ha⟩ : ∃ a, amt l st be mo = a := ⟨_, rfl⟩
  have HV := Lib.hid hv
  have HA := Lib.hid ha
  clear hv ha
  go_enter Try.func3, Try.ntmps3
  go_wp2_with fail
  refine (awake_any w).mono ?_
  rintro e w1 ⟨rfl, hb1⟩
  have hd1 := h.below hb1
  clear h
  go_wp2_with fail
  refine (valid_any hd1 hn).mono ?_
  rintro e w2 ⟨rfl, hb2⟩
  rw [HV.out]
  have hd2 := hd1.below hb2
  have hbb2 := hb1.trans (hb2.mono hb1.size)
  clear hd1 hb1 hb2
  go_wp2_with fail
  refine (rvalid_any hd2 hn).mono ?_
  rintro e w3 ⟨rfl, hb3⟩
  rw [HV.out]
  have hd3 := hd2.below hb3
  have hbb3 := hbb2.trans (hb3.mono hbb2.size)
  clear hd2 hbb2 hb3
  cases v
  all_goals
    go_wp2_with fail
    refine (amount_any st be mo hd3 hn).mono ?_
    rintro e w4 ⟨rfl, hb4⟩
    rw [HA.out]
    have hd4 := hd3.below hb4
    have hbb4 := hbb3.trans (hb4.mono hbb3.size)
    clear hd3 hbb3 hb4
    go_wp2_with fail
    refine (ramount_any st be mo hd4 hn).mono ?_
    rintro e w5 ⟨rfl, rfl⟩
    rw [HA.out]
    go_wp2_with fail
    go_ret
    exact ⟨rfl, hbb4⟩
end Go.Proofs.Ytnjloghphkjcoaa
