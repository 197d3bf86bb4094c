/- The walk of ScheduleTotalAgrees. -/
import Derived.Test.YtnjloghphkjcoaaScL
namespace Go.Proofs.Ytnjloghphkjcoaa
open Go.RowKit

set_option maxRecDepth 100000 in
set_option maxHeartbeats 4000000 in
theorem walkScheduleTotalAgrees (A : Option Addr) (n c : Nat) (xs : List Int) (fr st a b : Int) (w : World) (h : Rd w w.heap.size 3 A n (ints xs)) (hok : ∀ x ∈ xs, I64 x) (_ : n ≤ maxLen) (_ : I64 fr) (_ : I64 st) (_ : I64 a) (_ : I64 b) :
    Calls Try.prog 7 #[.slice A n c, .int .i64 fr, .int .i64 st, .int .i64 a, .int .i64 b] w fun e w' => e = .returned (.bool true) ∧ Below w.heap.size w w' := by
  go_enter Try.func7, Try.ntmps7
  go_wp2_with fail
  refine (rows_any fr h hok).mono ?_
  rintro e w1 ⟨A1, c1, L, rfl, hown, hv, ham, hl12, -, hb1, -⟩
  have hd1 := Dr.ofOwn hown rfl
  clear h hown
  generalize hLn : L.length = n1 at *
  clear hLn
  have hm1 : n1 ≤ maxLen := by unfold maxLen; omega
  have HAM := Lib.hid ham
  clear ham
  go_wp2_with fail
  have hbb1 := hb1
  clear hb1
  have hb_s := mod_bd st 4 (by omega)
  refine (mod_any st 4 _ (by omega) (by omega)).mono ?_
  rintro e wz ⟨rfl, rfl⟩
  generalize st % 4 = s at *
  go_wp2_with fail
  have hb_f := mod_bd fr 2000 (by omega)
  refine (mod_any fr 2000 _ (by omega) (by omega)).mono ?_
  rintro e wz ⟨rfl, rfl⟩
  generalize fr % 2000 = f at *
  go_wp2_with fail
  have hb_x := mod_bd a 70 (by omega)
  refine (mod_any a 70 _ (by omega) (by omega)).mono ?_
  rintro e wz ⟨rfl, rfl⟩
  generalize a % 70 = x at *
  go_wp2_with fail
  have hb_f2 := mod_bd fr 2000 (by omega)
  refine (mod_any fr 2000 _ (by omega) (by omega)).mono ?_
  rintro e wz ⟨rfl, rfl⟩
  generalize fr % 2000 = f2 at *
  go_wp2_with fail
  have hb_y := mod_bd b 70 (by omega)
  refine (mod_any b 70 _ (by omega) (by omega)).mono ?_
  rintro e wz ⟨rfl, rfl⟩
  generalize b % 70 = y at *
  go_wp2_with fail
  obtain ⟨⟨v1, v2⟩, hvv⟩ : ∃ v, totV L s (f + x) (f2 + y) = v := ⟨_, rfl⟩
  have HV := Lib.hid hvv
  clear hvv
  refine (total_any s (f + x) (f2 + y) hd1 hm1 ⟨by omega, by omega⟩).mono ?_
  rintro e w2 ⟨rfl, hb2⟩
  have hd2 := hd1.below hb2
  have hbb2 := hbb1.trans (hb2.mono hbb1.size)
  clear hd1 hbb1 hb2
  rw [HV.out, pairI_mk]
  go_wp2_with fail
  refine (rtotal_any s (f + x) (f2 + y) hd2 hm1 ⟨by omega, by omega⟩).mono ?_
  rintro e w3 ⟨rfl, hb3⟩
  have hd3 := hd2.below hb3
  have hbb3 := hbb2.trans (hb3.mono hbb2.size)
  clear hd2 hbb2 hb3
  rw [HV.out, pairI_mk]
  go_wp2_with fail
  refine (awake_any w3).mono ?_
  rintro e w4 ⟨rfl, hb4⟩
  have hd4 := hd3.below hb4
  have hbb4 := hbb3.trans (hb4.mono hbb3.size)
  clear hd3 hbb3 hb4
  go_wp2_with fail
  go_ret
  exact ⟨rfl, hbb4⟩
end Go.Proofs.Ytnjloghphkjcoaa

