/- The walk of ScheduleDueAgrees. -/
import Derived.Test.YtnjloghphkjcoaaScL
namespace Go.Proofs.Ytnjloghphkjcoaa
open Go.RowKit

set_option maxRecDepth 100000 in
set_option maxHeartbeats 4000000 in
theorem walkScheduleDueAgrees (A : Option Addr) (n c : Nat) (xs : List Int) (fr st mo : Int) (w : World) (h : Rd w w.heap.size 3 A n (ints xs)) (hok : ∀ x ∈ xs, I64 x) (_ : n ≤ maxLen) (_ : I64 fr) (_ : I64 st) (_ : I64 mo) :
    Calls Try.prog 6 #[.slice A n c, .int .i64 fr, .int .i64 st, .int .i64 mo] w fun e w' => e = .returned (.bool true) ∧ Below w.heap.size w w' := by
  go_enter Try.func6, Try.ntmps6
  go_wp2_with fail
  refine (rows_any fr h hok).mono ?_
  rintro e w1 ⟨A1, c1, L, rfl, hown, hv, ham, hl12, -, hb1, -⟩
  have hd1 := Dr.ofOwn hown rfl
  clear h hown
  generalize hLn : L.length = n1 at *
  clear hLn
  have hm1 : n1 ≤ maxLen := by unfold maxLen; omega
  have HAM := Lib.hid ham
  clear ham
  go_wp2_with fail
  have hbb1 := hb1
  clear hb1
  have hb_s := mod_bd st 4 (by omega)
  refine (mod_any st 4 _ (by omega) (by omega)).mono ?_
  rintro e wz ⟨rfl, rfl⟩
  generalize st % 4 = s at *
  go_wp2_with fail
  have hb_f := mod_bd fr 2000 (by omega)
  refine (mod_any fr 2000 _ (by omega) (by omega)).mono ?_
  rintro e wz ⟨rfl, rfl⟩
  generalize fr % 2000 = f at *
  go_wp2_with fail
  have hb_m := mod_bd mo 70 (by omega)
  refine (mod_any mo 70 _ (by omega) (by omega)).mono ?_
  rintro e wz ⟨rfl, rfl⟩
  generalize mo % 70 = m at *
  go_wp2_with fail
  have hdl := dueL_bd HAM.out (by omega) s (f + m)
  have hdv : dueV L s (f + m) = (dueL L s (f + m), 0) := by rw [dueV_ok hv ((monB_iff _).2 (by omega)), if_neg (by omega)]
  obtain ⟨d, hdd⟩ : ∃ d, dueL L s (f + m) = d := ⟨_, rfl⟩
  rw [hdd] at hdv hdl
  have HV := Lib.hid hdv
  have HD := Lib.hid hdd
  clear hdv hdd hv
  refine (duetop_any s (f + m) hd1 hm1).mono ?_
  rintro e w2 ⟨rfl, hb2⟩
  have hd2 := hd1.below hb2
  have hbb2 := hbb1.trans (hb2.mono hbb1.size)
  clear hd1 hbb1 hb2
  rw [HV.out, pairI_mk]
  go_wp2_with fail
  refine (rduetop_any s (f + m) hd2 hm1).mono ?_
  rintro e w3 ⟨rfl, hb3⟩
  have hd3 := hd2.below hb3
  have hbb3 := hbb2.trans (hb3.mono hbb2.size)
  clear hd2 hbb2 hb3
  rw [HV.out, pairI_mk]
  go_wp2_with fail
  obtain ⟨wo, rfl⟩ : ∃ wo : World, wo = w3 := ⟨_, rfl⟩
  go_loop [16, 17] (fun v i => ∃ k : Nat, k ≤ 5 ∧ i = .int .i64 ((k : Int) + 1) ∧ v = .int .i64 (dueT L s (f + m) k)) (fun _ i => 6 - (intOf i).toNat)
  case atStart => exact ⟨0, by omega, rfl, rfl⟩
  case round =>
    obtain ⟨k, hk, rfl, rfl⟩ := hrel
    have hdt := dueT_bd HAM.out (by omega) s (f + m) k
    have hat := amt_bd HAM.out (by omega) s ((k : Int) + 1) (f + m)
    have hst : dueT L s (f + m) (k + 1) = dueT L s (f + m) k + amt L s ((k : Int) + 1) (f + m) := rfl
    have HST := Lib.hid hst
    clear hst
    by_cases hlt : k < 5
    · have hlt2 : (k : Int) + 1 ≤ 5 := by omega
      generalize hD : dueT L s (f + m) k = D at *
      generalize hM : amt L s ((k : Int) + 1) (f + m) = M at *
      have HM := Lib.hid hM
      clear hD hM
      go_wp2_with fail
      refine (ramount_any s ((k : Int) + 1) (f + m) hd3 hm1).mono ?_
      rintro e w2 ⟨rfl, rfl⟩
      rw [HM.out]
      go_wp2_with fail
      go_round
      case rel => exact ⟨k + 1, by omega, by go_num, by rw [HST.out]⟩
      case measure => simp [intOf]; omega
    · obtain rfl : k = 5 := by omega
      rw [show dueT L s (f + m) 5 = d from HD.out]
      clear hdt hat
      go_wp2_with fail
      refine (awake_any wo).mono ?_
      rintro e w4 ⟨rfl, hb4⟩
      have hd4 := hd3.below hb4
      have hbb4 := hbb3.trans (hb4.mono hbb3.size)
      clear hd3 hbb3 hb4
      go_wp2_with fail
      go_ret
      exact ⟨rfl, hbb4⟩
end Go.Proofs.Ytnjloghphkjcoaa

