/- The walk of ScheduleAmountAgrees. -/
import Derived.Test.YtnjloghphkjcoaaScL
namespace Go.Proofs.Ytnjloghphkjcoaa
open Go.RowKit

set_option maxRecDepth 100000 in
set_option maxHeartbeats 4000000 in
theorem walkScheduleAmountAgrees (A : Option Addr) (n c : Nat) (xs : List Int) (fr st be mo : Int) (w : World) (h : Rd w w.heap.size 3 A n (ints xs)) (hok : ∀ x ∈ xs, I64 x) (_ : n ≤ maxLen) (_ : I64 fr) (_ : I64 st) (_ : I64 be) (_ : I64 mo) :
    Calls Try.prog 5 #[.slice A n c, .int .i64 fr, .int .i64 st, .int .i64 be, .int .i64 mo] w fun e w' => e = .returned (.bool true) ∧ Below w.heap.size w w' := by
  go_enter Try.func5, Try.ntmps5
  go_wp2_with fail
  refine (rows_any fr h hok).mono ?_
  rintro e w1 ⟨A1, c1, L, rfl, hown, hv, ham, hl12, -, hb1, -⟩
  have hd1 := Dr.ofOwn hown rfl
  clear h hown
  generalize hLn : L.length = n1 at *
  clear hLn
  have hm1 : n1 ≤ maxLen := by unfold maxLen; omega
  have HAM := Lib.hid ham
  clear ham
  go_wp2_with fail
  have hbb1 := hb1
  clear hb1
  have hb_s := mod_bd st 4 (by omega)
  refine (mod_any st 4 _ (by omega) (by omega)).mono ?_
  rintro e wz ⟨rfl, rfl⟩
  generalize st % 4 = s at *
  go_wp2_with fail
  have hb_b := mod_bd be 5 (by omega)
  refine (mod_any be 5 _ (by omega) (by omega)).mono ?_
  rintro e wz ⟨rfl, rfl⟩
  generalize be % 5 = b at *
  go_wp2_with fail
  have hb_f := mod_bd fr 2000 (by omega)
  refine (mod_any fr 2000 _ (by omega) (by omega)).mono ?_
  rintro e wz ⟨rfl, rfl⟩
  generalize fr % 2000 = f at *
  go_wp2_with fail
  have hb_m := mod_bd mo 70 (by omega)
  refine (mod_any mo 70 _ (by omega) (by omega)).mono ?_
  rintro e wz ⟨rfl, rfl⟩
  generalize mo % 70 = m at *
  go_wp2_with fail
  obtain ⟨v, hvv⟩ : ∃ v, amt L s (1 + b) (f + m) = v := ⟨_, rfl⟩
  have HV := Lib.hid hvv
  clear hvv
  refine (awake_any w1).mono ?_
  rintro e w2 ⟨rfl, hb2⟩
  have hd2 := hd1.below hb2
  have hbb2 := hbb1.trans (hb2.mono hbb1.size)
  clear hd1 hbb1 hb2
  go_wp2_with fail
  refine (amount_any s (1 + b) (f + m) hd2 hm1).mono ?_
  rintro e w3 ⟨rfl, hb3⟩
  have hd3 := hd2.below hb3
  have hbb3 := hbb2.trans (hb3.mono hbb2.size)
  clear hd2 hbb2 hb3
  rw [HV.out]
  go_wp2_with fail
  refine (ramount_any s (1 + b) (f + m) hd3 hm1).mono ?_
  rintro e w4 ⟨rfl, rfl⟩
  rw [HV.out]
  go_wp2_with fail
  go_ret
  exact ⟨rfl, hbb3⟩
end Go.Proofs.Ytnjloghphkjcoaa

