/- The walk of SpansPrefix. -/
import Derived.Test.YtjhbicopmgdlcaaSpSub
import Derived.Test.YtjhbicopmgdlcaaSpUni
import Derived.Test.YtjhbicopmgdlcaaSpDays
import Derived.Test.YtjhbicopmgdlcaaSpPref
import Derived.Test.YtjhbicopmgdlcaaSpLast
import Derived.Test.YtjhbicopmgdlcaaSpChain
namespace Go.Proofs.Ytjhbicopmgdlcaa
open Go.RowKit

set_option maxRecDepth 100000 in
set_option maxHeartbeats 4000000 in
theorem walkSpansPrefix (A : Option Addr) (n c : Nat) (l : List Sp) (q : Int) (s : Int) (w : World) (h1 : Ds w A n l) (hok1 : ∀ s ∈ l, s.ok) (_ : n ≤ maxLen) (_ : I64 q) (_ : I64 s) :
    Calls Try.prog 12 #[.slice A n c, .int .i64 q, .int .i64 s] w fun e w' => e = .returned (.bool true) ∧ Below w.heap.size w w' := by
  by_cases hbign : 60 < n
  · have hbign2 : (60 : Int) < (n : Int) := by omega
    go_enter Try.func12, Try.ntmps12
    go_wp2_with fail
    go_ret
    exact ⟨rfl, Below.refl _ _⟩
  have hbign2 : ¬ (60 : Int) < (n : Int) := by omega
  go_enter Try.func12, Try.ntmps12
  go_wp2_with fail
  refine (small_any A n c l s w h1 hok1 (by omega)).mono ?_
  rintro e w1 ⟨A1, c1, la, rfl, hx1, -, hb1⟩
  have hbb1 := hb1
  clear h1 hb1
  obtain ⟨v, hv, bv0, bv1⟩ : ∃ v, lenL (nf (dset la)) = v ∧ 0 ≤ v ∧ v ≤ 73050 := ⟨_, rfl, (lenL_nf_bd _).1, (lenL_nf_bd _).2⟩
  have Hv := Lib.hid hv
  clear hv
  go_wp2_with fail
  refine (days_any hx1 (by omega)).mono ?_
  rintro e w2 ⟨rfl, hb2⟩
  have hx2 := hx1.below hb2
  have hbb2 := hbb1.trans (hb2.mono hbb1.size)
  clear hx1 hbb1 hb2
  rw [Hv.out]
  go_wp2_with fail
  refine (pick_any q (v + 3) _ (by omega)).mono ?_
  rintro e w' ⟨rfl, rfl⟩
  have hpb := pick_bd q (v + 3) (by omega)
  generalize pick q (v + 3) = r at *
  obtain ⟨r0, r1⟩ := hpb
  go_wp2_with fail
  have hB3 := (show (nf fun x => dset la x && decide (befL (nf (dset la)) x < r)).length ≤ 2 * n from by rw [← prefL_nf]; exact Nat.le_trans (prefL_length _ _) (nf_length_le hx2.2))
  refine (prefix_any r hx2 (by omega) ⟨by omega, by omega⟩).mono ?_
  intro e w3 hr
  obtain ⟨mP, kP, AP, cP, HMP, rfl, hlP, hP3, hb3⟩ := hr.open hB3
  have hx3 := hx2.below hb3
  have hbb3 := hbb2.trans (hb3.mono hbb2.size)
  clear hx2 hbb2 hb3 hB3
  go_wp2_with fail
  have hB4 := nfc_len (fun x y => x && !y) rfl hx3.2 hP3.2
  refine (sub_any hx3 hP3 (by omega) (by omega)).mono ?_
  intro e w4 hr
  obtain ⟨mD, kD, AD, cD, HMD, rfl, hlD, hD4, hb4⟩ := hr.open hB4
  have hx4 := hx3.below hb4
  have hP4 := hP3.below hb4
  have hbb4 := hbb3.trans (hb4.mono hbb3.size)
  clear hx3 hP3 hbb3 hb4 hB4
  go_wp2_with fail
  refine (awake_any w4).mono ?_
  rintro e w5 ⟨rfl, hb5⟩
  have hx5 := hx4.below hb5
  have hP5 := hP4.below hb5
  have hD5 := hD4.below hb5
  have hbb5 := hbb4.trans (hb5.mono hbb4.size)
  clear hx4 hP4 hD4 hbb4 hb5
  go_wp2_with fail
  refine (days_any hP5 (by omega)).mono ?_
  rintro e w6 ⟨rfl, hb6⟩
  have hx6 := hx5.below hb6
  have hP6 := hP5.below hb6
  have hD6 := hD5.below hb6
  have hbb6 := hbb5.trans (hb6.mono hbb5.size)
  clear hx5 hP5 hD5 hbb5 hb6
  rw [show lenL (nf (dset mP)) = min r v from by rw [HMP.out, nf_dset, ← prefL_nf, prefL_len (nf_norm _) r0, Hv.out]]
  go_wp2_with fail
  refine (days_any hx6 (by omega)).mono ?_
  rintro e w7 ⟨rfl, hb7⟩
  have hx7 := hx6.below hb7
  have hP7 := hP6.below hb7
  have hD7 := hD6.below hb7
  have hbb7 := hbb6.trans (hb7.mono hbb6.size)
  clear hx6 hP6 hD6 hbb6 hb7
  rw [Hv.out]
  have hmn : (if v < r then v else r) = min r v := by split <;> omega
  have hne : (min r v != min r v) = false := by simp
  go_wp2_with fail
  have hB8 := nfc_len (fun x y => x || y) rfl hP7.2 hD7.2
  refine (union_any hP7 hD7 (by omega) (by omega)).mono ?_
  intro e w8 hr
  obtain ⟨mU, kU, AU, cU, HMU, rfl, hlU, hU8, hb8⟩ := hr.open hB8
  have hx8 := hx7.below hb8
  have hP8 := hP7.below hb8
  have hD8 := hD7.below hb8
  have hbb8 := hbb7.trans (hb8.mono hbb7.size)
  clear hx7 hP7 hD7 hbb7 hb8 hB8
  clear hmn hne
  go_wp2_with fail
  have hB9 := nf_length_le hx8.2
  refine (make_nf hx8 (by omega)).mono ?_
  intro e w9 hr
  obtain ⟨mM, kM, AM, cM, HMM, rfl, hlM, hM9, hb9⟩ := hr.open hB9
  have hP9 := hP8.below hb9
  have hD9 := hD8.below hb9
  have hU9 := hU8.below hb9
  have hbb9 := hbb8.trans (hb9.mono hbb8.size)
  clear hx8 hP8 hD8 hU8 hbb8 hb9 hB9
  go_wp2_with fail
  refine (sames_true hU9 hM9 (same_nf HMU HMM fun y hy => by rw [dset_of HMD hy, dset_of HMP hy]; cases dset la y <;> cases decide (befL (nf (dset la)) y < r) <;> rfl) (by omega) (by omega)).mono ?_
  rintro e w10 ⟨rfl, hb10⟩
  have hP10 := hP9.below hb10
  have hD10 := hD9.below hb10
  have hbb10 := hbb9.trans (hb10.mono hbb9.size)
  clear hP9 hD9 hU9 hM9 hbb9 hb10
  clear HMU HMM hlU hlM
  go_wp2_with fail
  refine (last_any hP10 (by omega)).mono ?_
  rintro e w11 ⟨rfl, hb11⟩
  have hD11 := hD10.below hb11
  have hbb11 := hbb10.trans (hb11.mono hbb10.size)
  clear hP10 hD10 hbb10 hb11
  rw [show lastV (nf (dset mP)) = lastV mP from by rw [HMP.out, nf_dset]]
  rcases List.eq_nil_or_concat mP with hm | ⟨mp, y, hm⟩
  · rw [show pairV (lastV mP) = .tuple #[.int .i64 0, .bool false] from by rw [hm]; rfl]
    clear hm
    go_wp2_with fail
    go_ret
    exact ⟨rfl, hbb11⟩
  · rw [List.concat_eq_append] at hm
    rw [show pairV (lastV mP) = .tuple #[.int .i64 (y.t - 1), .bool true] from by rw [hm, lastV_snoc]; rfl]
    by_cases hk0 : kD = 0
    · have hkb : ((kD : Int) == 0) = true := by rw [hk0]; rfl
      clear hm hk0
      go_wp2_with fail
      go_ret
      exact ⟨rfl, hbb11⟩
    · have hkb : ((kD : Int) == 0) = false := beq_eq_false_iff_ne.2 (by omega)
      obtain ⟨z, hz⟩ : ∃ z, mD[0]? = some z := ⟨_, List.getElem?_eq_getElem (by have := hD11.2; omega)⟩
      obtain ⟨_, g, o, rfl, _, e0, _⟩ := sp_cells hD11.1 hz
      have e0' : (w11).cell? ⟨g, o, none⟩ = some (.int .i64 z.f) := by simpa using e0
      have hmd : mD = z :: mD.drop 1 := by have := drop_getS hz; simpa using this
      have hap := pref_apart (S := dset la) (n := r) (HMP.out.symm.trans hm) (((nf_congr fun y hy => by rw [dset_of HMP hy]).symm.trans HMD.out.symm).trans hmd)
      have hlt : decide (y.t - 1 < z.f) = true := by simpa using hap
      have hk1 : 0 < kD := by omega
      have hk2 : (0 : Int) < (kD : Int) := by omega
      clear hm hk0 hz hmd hap e0
      go_wp2_with fail
      go_ret
      exact ⟨rfl, hbb11⟩
end Go.Proofs.Ytjhbicopmgdlcaa
