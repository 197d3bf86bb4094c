/- The walk of SpansLattice. -/
import Derived.Test.YtjhbicopmgdlcaaSpSub
import Derived.Test.YtjhbicopmgdlcaaSpUni
import Derived.Test.YtjhbicopmgdlcaaSpChain
namespace Go.Proofs.Ytjhbicopmgdlcaa
open Go.RowKit

set_option maxRecDepth 100000 in
set_option maxHeartbeats 16000000 in
theorem walkSpansLattice (A : Option Addr) (n c : Nat) (l : List Sp) (B : Option Addr) (m d : Nat) (k : List Sp) (E : Option Addr) (p g : Nat) (j : List Sp) (s : Int) (w : World) (h1 : Ds w A n l) (hok1 : ∀ s ∈ l, s.ok) (_ : n ≤ maxLen) (h2 : Ds w B m k) (hok2 : ∀ s ∈ k, s.ok) (_ : m ≤ maxLen) (h3 : Ds w E p j) (hok3 : ∀ s ∈ j, s.ok) (_ : p ≤ maxLen) (_ : I64 s) :
    Calls Try.prog 10 #[.slice A n c, .slice B m d, .slice E p g, .int .i64 s] w fun e w' => e = .returned (.bool true) ∧ Below w.heap.size w w' := by
  by_cases hbign : 20 < n
  · have hbign2 : (20 : Int) < (n : Int) := by omega
    go_enter Try.func10, Try.ntmps10
    go_wp2_with fail
    go_ret
    exact ⟨rfl, Below.refl _ _⟩
  have hbign2 : ¬ (20 : Int) < (n : Int) := by omega
  by_cases hbigm : 20 < m
  · have hbigm2 : (20 : Int) < (m : Int) := by omega
    go_enter Try.func10, Try.ntmps10
    go_wp2_with fail
    go_ret
    exact ⟨rfl, Below.refl _ _⟩
  have hbigm2 : ¬ (20 : Int) < (m : Int) := by omega
  by_cases hbigp : 20 < p
  · have hbigp2 : (20 : Int) < (p : Int) := by omega
    go_enter Try.func10, Try.ntmps10
    go_wp2_with fail
    go_ret
    exact ⟨rfl, Below.refl _ _⟩
  have hbigp2 : ¬ (20 : Int) < (p : Int) := by omega
  go_enter Try.func10, Try.ntmps10
  go_wp2_with fail
  refine (small_any A n c l s w h1 hok1 (by omega)).mono ?_
  rintro e w1 ⟨A1, c1, la, rfl, hx1, -, hb1⟩
  have hy1 := h2.below hb1
  have hz1 := h3.below hb1
  have hbb1 := hb1
  clear h1 h2 h3 hb1
  go_wp2_with fail
  refine (small_any B m d k s w1 hy1 hok2 (by omega)).mono ?_
  rintro e w2 ⟨B1, d1, lb, rfl, hy2, -, hb2⟩
  have hx2 := hx1.below hb2
  have hz2 := hz1.below hb2
  have hbb2 := hbb1.trans (hb2.mono hbb1.size)
  clear hy1 hx1 hz1 hbb1 hb2
  go_wp2_with fail
  refine (small_any E p g j s w2 hz2 hok3 (by omega)).mono ?_
  rintro e w3 ⟨E1, g1, lc, rfl, hz3, -, hb3⟩
  have hy3 := hy2.below hb3
  have hx3 := hx2.below hb3
  have hbb3 := hbb2.trans (hb3.mono hbb2.size)
  clear hz2 hy2 hx2 hbb2 hb3
  go_wp2_with fail
  obtain ⟨w4, hW, hall4, hb4⟩ := one_span w3 0 73049
  rw [← hW]
  clear hW
  have hx4 := hx3.below hb4
  have hy4 := hy3.below hb4
  have hz4 := hz3.below hb4
  have hbb4 := hbb3.trans (hb4.mono hbb3.size)
  clear hx3 hy3 hz3 hbb3 hb4
  go_wp2_with fail
  refine (awake_any w4).mono ?_
  rintro e w5 ⟨rfl, hb5⟩
  have hz5 := hz4.below hb5
  have hy5 := hy4.below hb5
  have hx5 := hx4.below hb5
  have hall5 := hall4.below hb5
  have hbb5 := hbb4.trans (hb5.mono hbb4.size)
  clear hz4 hy4 hx4 hall4 hbb4 hb5
  go_wp2_with fail
  have hB6 := nfc_len (fun x y => x || y) rfl hx5.2 hy5.2
  refine (union_any hx5 hy5 (by omega) (by omega)).mono ?_
  intro e w6 hr
  obtain ⟨mP, kP, AP, cP, HMP, rfl, hlP, hP6, hb6⟩ := hr.open hB6
  have hz6 := hz5.below hb6
  have hy6 := hy5.below hb6
  have hx6 := hx5.below hb6
  have hall6 := hall5.below hb6
  have hbb6 := hbb5.trans (hb6.mono hbb5.size)
  clear hz5 hy5 hx5 hall5 hbb5 hb6 hB6
  go_wp2_with fail
  have hB7 := nfc_len (fun x y => x || y) rfl hy6.2 hx6.2
  refine (union_any hy6 hx6 (by omega) (by omega)).mono ?_
  intro e w7 hr
  obtain ⟨mQ, kQ, AQ, cQ, HMQ, rfl, hlQ, hQ7, hb7⟩ := hr.open hB7
  have hz7 := hz6.below hb7
  have hy7 := hy6.below hb7
  have hx7 := hx6.below hb7
  have hall7 := hall6.below hb7
  have hP7 := hP6.below hb7
  have hbb7 := hbb6.trans (hb7.mono hbb6.size)
  clear hz6 hy6 hx6 hall6 hP6 hbb6 hb7 hB7
  go_wp2_with fail
  refine (sames_true hP7 hQ7 (same_nf HMP HMQ fun t ht => by cases dset la t <;> cases dset lb t <;> cases dset lc t <;> rfl) (by omega) (by omega)).mono ?_
  rintro e w8 ⟨rfl, hb8⟩
  have hz8 := hz7.below hb8
  have hy8 := hy7.below hb8
  have hx8 := hx7.below hb8
  have hall8 := hall7.below hb8
  have hbb8 := hbb7.trans (hb8.mono hbb7.size)
  clear hz7 hy7 hx7 hall7 hP7 hQ7 hbb7 hb8
  clear HMP hlP HMQ hlQ
  go_wp2_with fail
  have hB9 := nfc_len (fun x y => x && y) rfl hx8.2 hy8.2
  refine (intersect_any hx8 hy8 (by omega) (by omega)).mono ?_
  intro e w9 hr
  obtain ⟨mP, kP, AP, cP, HMP, rfl, hlP, hP9, hb9⟩ := hr.open hB9
  have hz9 := hz8.below hb9
  have hy9 := hy8.below hb9
  have hx9 := hx8.below hb9
  have hall9 := hall8.below hb9
  have hbb9 := hbb8.trans (hb9.mono hbb8.size)
  clear hz8 hy8 hx8 hall8 hbb8 hb9 hB9
  go_wp2_with fail
  have hB10 := nfc_len (fun x y => x && y) rfl hy9.2 hx9.2
  refine (intersect_any hy9 hx9 (by omega) (by omega)).mono ?_
  intro e w10 hr
  obtain ⟨mQ, kQ, AQ, cQ, HMQ, rfl, hlQ, hQ10, hb10⟩ := hr.open hB10
  have hz10 := hz9.below hb10
  have hy10 := hy9.below hb10
  have hx10 := hx9.below hb10
  have hall10 := hall9.below hb10
  have hP10 := hP9.below hb10
  have hbb10 := hbb9.trans (hb10.mono hbb9.size)
  clear hz9 hy9 hx9 hall9 hP9 hbb9 hb10 hB10
  go_wp2_with fail
  refine (sames_true hP10 hQ10 (same_nf HMP HMQ fun t ht => by cases dset la t <;> cases dset lb t <;> cases dset lc t <;> rfl) (by omega) (by omega)).mono ?_
  rintro e w11 ⟨rfl, hb11⟩
  have hz11 := hz10.below hb11
  have hy11 := hy10.below hb11
  have hx11 := hx10.below hb11
  have hall11 := hall10.below hb11
  have hbb11 := hbb10.trans (hb11.mono hbb10.size)
  clear hz10 hy10 hx10 hall10 hP10 hQ10 hbb10 hb11
  clear HMP hlP HMQ hlQ
  go_wp2_with fail
  have hB12 := nfc_len (fun x y => x || y) rfl hx11.2 hy11.2
  refine (union_any hx11 hy11 (by omega) (by omega)).mono ?_
  intro e w12 hr
  obtain ⟨mF, kF, AF, cF, HMF, rfl, hlF, hF12, hb12⟩ := hr.open hB12
  have hz12 := hz11.below hb12
  have hy12 := hy11.below hb12
  have hx12 := hx11.below hb12
  have hall12 := hall11.below hb12
  have hbb12 := hbb11.trans (hb12.mono hbb11.size)
  clear hz11 hy11 hx11 hall11 hbb11 hb12 hB12
  go_wp2_with fail
  have hB13 := nfc_len (fun x y => x || y) rfl hF12.2 hz12.2
  refine (union_any hF12 hz12 (by omega) (by omega)).mono ?_
  intro e w13 hr
  obtain ⟨mP, kP, AP, cP, HMP, rfl, hlP, hP13, hb13⟩ := hr.open hB13
  have hz13 := hz12.below hb13
  have hy13 := hy12.below hb13
  have hx13 := hx12.below hb13
  have hall13 := hall12.below hb13
  have hbb13 := hbb12.trans (hb13.mono hbb12.size)
  clear hz12 hy12 hx12 hall12 hF12 hbb12 hb13 hB13
  go_wp2_with fail
  have hB14 := nfc_len (fun x y => x || y) rfl hy13.2 hz13.2
  refine (union_any hy13 hz13 (by omega) (by omega)).mono ?_
  intro e w14 hr
  obtain ⟨mG, kG, AG, cG, HMG, rfl, hlG, hG14, hb14⟩ := hr.open hB14
  have hz14 := hz13.below hb14
  have hy14 := hy13.below hb14
  have hx14 := hx13.below hb14
  have hall14 := hall13.below hb14
  have hP14 := hP13.below hb14
  have hbb14 := hbb13.trans (hb14.mono hbb13.size)
  clear hz13 hy13 hx13 hall13 hP13 hbb13 hb14 hB14
  go_wp2_with fail
  have hB15 := nfc_len (fun x y => x || y) rfl hx14.2 hG14.2
  refine (union_any hx14 hG14 (by omega) (by omega)).mono ?_
  intro e w15 hr
  obtain ⟨mQ, kQ, AQ, cQ, HMQ, rfl, hlQ, hQ15, hb15⟩ := hr.open hB15
  have hz15 := hz14.below hb15
  have hy15 := hy14.below hb15
  have hx15 := hx14.below hb15
  have hall15 := hall14.below hb15
  have hP15 := hP14.below hb15
  have hbb15 := hbb14.trans (hb15.mono hbb14.size)
  clear hz14 hy14 hx14 hall14 hP14 hG14 hbb14 hb15 hB15
  go_wp2_with fail
  refine (sames_true hP15 hQ15 (same_nf HMP HMQ fun t ht => by simp only [dset_of HMF ht, dset_of HMG ht]; cases dset la t <;> cases dset lb t <;> cases dset lc t <;> rfl) (by omega) (by omega)).mono ?_
  rintro e w16 ⟨rfl, hb16⟩
  have hz16 := hz15.below hb16
  have hy16 := hy15.below hb16
  have hx16 := hx15.below hb16
  have hall16 := hall15.below hb16
  have hbb16 := hbb15.trans (hb16.mono hbb15.size)
  clear hz15 hy15 hx15 hall15 hP15 hQ15 hbb15 hb16
  clear HMP hlP HMQ hlQ HMF hlF HMG hlG
  go_wp2_with fail
  have hB17 := nfc_len (fun x y => x && y) rfl hx16.2 hy16.2
  refine (intersect_any hx16 hy16 (by omega) (by omega)).mono ?_
  intro e w17 hr
  obtain ⟨mF, kF, AF, cF, HMF, rfl, hlF, hF17, hb17⟩ := hr.open hB17
  have hz17 := hz16.below hb17
  have hy17 := hy16.below hb17
  have hx17 := hx16.below hb17
  have hall17 := hall16.below hb17
  have hbb17 := hbb16.trans (hb17.mono hbb16.size)
  clear hz16 hy16 hx16 hall16 hbb16 hb17 hB17
  go_wp2_with fail
  have hB18 := nfc_len (fun x y => x && y) rfl hF17.2 hz17.2
  refine (intersect_any hF17 hz17 (by omega) (by omega)).mono ?_
  intro e w18 hr
  obtain ⟨mP, kP, AP, cP, HMP, rfl, hlP, hP18, hb18⟩ := hr.open hB18
  have hz18 := hz17.below hb18
  have hy18 := hy17.below hb18
  have hx18 := hx17.below hb18
  have hall18 := hall17.below hb18
  have hbb18 := hbb17.trans (hb18.mono hbb17.size)
  clear hz17 hy17 hx17 hall17 hF17 hbb17 hb18 hB18
  go_wp2_with fail
  have hB19 := nfc_len (fun x y => x && y) rfl hy18.2 hz18.2
  refine (intersect_any hy18 hz18 (by omega) (by omega)).mono ?_
  intro e w19 hr
  obtain ⟨mG, kG, AG, cG, HMG, rfl, hlG, hG19, hb19⟩ := hr.open hB19
  have hz19 := hz18.below hb19
  have hy19 := hy18.below hb19
  have hx19 := hx18.below hb19
  have hall19 := hall18.below hb19
  have hP19 := hP18.below hb19
  have hbb19 := hbb18.trans (hb19.mono hbb18.size)
  clear hz18 hy18 hx18 hall18 hP18 hbb18 hb19 hB19
  go_wp2_with fail
  have hB20 := nfc_len (fun x y => x && y) rfl hx19.2 hG19.2
  refine (intersect_any hx19 hG19 (by omega) (by omega)).mono ?_
  intro e w20 hr
  obtain ⟨mQ, kQ, AQ, cQ, HMQ, rfl, hlQ, hQ20, hb20⟩ := hr.open hB20
  have hz20 := hz19.below hb20
  have hy20 := hy19.below hb20
  have hx20 := hx19.below hb20
  have hall20 := hall19.below hb20
  have hP20 := hP19.below hb20
  have hbb20 := hbb19.trans (hb20.mono hbb19.size)
  clear hz19 hy19 hx19 hall19 hP19 hG19 hbb19 hb20 hB20
  go_wp2_with fail
  refine (sames_true hP20 hQ20 (same_nf HMP HMQ fun t ht => by simp only [dset_of HMF ht, dset_of HMG ht]; cases dset la t <;> cases dset lb t <;> cases dset lc t <;> rfl) (by omega) (by omega)).mono ?_
  rintro e w21 ⟨rfl, hb21⟩
  have hz21 := hz20.below hb21
  have hy21 := hy20.below hb21
  have hx21 := hx20.below hb21
  have hall21 := hall20.below hb21
  have hbb21 := hbb20.trans (hb21.mono hbb20.size)
  clear hz20 hy20 hx20 hall20 hP20 hQ20 hbb20 hb21
  clear HMP hlP HMQ hlQ HMF hlF HMG hlG
  go_wp2_with fail
  have hB22 := nfc_len (fun x y => x || y) rfl hy21.2 hz21.2
  refine (union_any hy21 hz21 (by omega) (by omega)).mono ?_
  intro e w22 hr
  obtain ⟨mF, kF, AF, cF, HMF, rfl, hlF, hF22, hb22⟩ := hr.open hB22
  have hz22 := hz21.below hb22
  have hy22 := hy21.below hb22
  have hx22 := hx21.below hb22
  have hall22 := hall21.below hb22
  have hbb22 := hbb21.trans (hb22.mono hbb21.size)
  clear hz21 hy21 hx21 hall21 hbb21 hb22 hB22
  go_wp2_with fail
  have hB23 := nfc_len (fun x y => x && y) rfl hx22.2 hF22.2
  refine (intersect_any hx22 hF22 (by omega) (by omega)).mono ?_
  intro e w23 hr
  obtain ⟨mP, kP, AP, cP, HMP, rfl, hlP, hP23, hb23⟩ := hr.open hB23
  have hz23 := hz22.below hb23
  have hy23 := hy22.below hb23
  have hx23 := hx22.below hb23
  have hall23 := hall22.below hb23
  have hbb23 := hbb22.trans (hb23.mono hbb22.size)
  clear hz22 hy22 hx22 hall22 hF22 hbb22 hb23 hB23
  go_wp2_with fail
  have hB24 := nfc_len (fun x y => x && y) rfl hx23.2 hy23.2
  refine (intersect_any hx23 hy23 (by omega) (by omega)).mono ?_
  intro e w24 hr
  obtain ⟨mG, kG, AG, cG, HMG, rfl, hlG, hG24, hb24⟩ := hr.open hB24
  have hz24 := hz23.below hb24
  have hy24 := hy23.below hb24
  have hx24 := hx23.below hb24
  have hall24 := hall23.below hb24
  have hP24 := hP23.below hb24
  have hbb24 := hbb23.trans (hb24.mono hbb23.size)
  clear hz23 hy23 hx23 hall23 hP23 hbb23 hb24 hB24
  go_wp2_with fail
  have hB25 := nfc_len (fun x y => x && y) rfl hx24.2 hz24.2
  refine (intersect_any hx24 hz24 (by omega) (by omega)).mono ?_
  intro e w25 hr
  obtain ⟨mK, kK, AK, cK, HMK, rfl, hlK, hK25, hb25⟩ := hr.open hB25
  have hy25 := hy24.below hb25
  have hx25 := hx24.below hb25
  have hall25 := hall24.below hb25
  have hP25 := hP24.below hb25
  have hG25 := hG24.below hb25
  have hbb25 := hbb24.trans (hb25.mono hbb24.size)
  clear hz24 hy24 hx24 hall24 hP24 hG24 hbb24 hb25 hB25
  go_wp2_with fail
  have hB26 := nfc_len (fun x y => x || y) rfl hG25.2 hK25.2
  refine (union_any hG25 hK25 (by omega) (by omega)).mono ?_
  intro e w26 hr
  obtain ⟨mQ, kQ, AQ, cQ, HMQ, rfl, hlQ, hQ26, hb26⟩ := hr.open hB26
  have hy26 := hy25.below hb26
  have hx26 := hx25.below hb26
  have hall26 := hall25.below hb26
  have hP26 := hP25.below hb26
  have hbb26 := hbb25.trans (hb26.mono hbb25.size)
  clear hy25 hx25 hall25 hP25 hG25 hK25 hbb25 hb26 hB26
  go_wp2_with fail
  refine (sames_true hP26 hQ26 (same_nf HMP HMQ fun t ht => by simp only [dset_of HMF ht, dset_of HMG ht, dset_of HMK ht]; cases dset la t <;> cases dset lb t <;> cases dset lc t <;> rfl) (by omega) (by omega)).mono ?_
  rintro e w27 ⟨rfl, hb27⟩
  have hy27 := hy26.below hb27
  have hx27 := hx26.below hb27
  have hall27 := hall26.below hb27
  have hbb27 := hbb26.trans (hb27.mono hbb26.size)
  clear hy26 hx26 hall26 hP26 hQ26 hbb26 hb27
  clear HMP hlP HMQ hlQ HMF hlF HMG hlG HMK hlK
  go_wp2_with fail
  have hB28 := nfc_len (fun x y => x && !y) rfl hx27.2 hy27.2
  refine (sub_any hx27 hy27 (by omega) (by omega)).mono ?_
  intro e w28 hr
  obtain ⟨mP, kP, AP, cP, HMP, rfl, hlP, hP28, hb28⟩ := hr.open hB28
  have hy28 := hy27.below hb28
  have hx28 := hx27.below hb28
  have hall28 := hall27.below hb28
  have hbb28 := hbb27.trans (hb28.mono hbb27.size)
  clear hy27 hx27 hall27 hbb27 hb28 hB28
  go_wp2_with fail
  have hB29 := nfc_len (fun x y => x && !y) rfl hall28.2 hy28.2
  refine (sub_any hall28 hy28 (by omega) (by omega)).mono ?_
  intro e w29 hr
  obtain ⟨mF, kF, AF, cF, HMF, rfl, hlF, hF29, hb29⟩ := hr.open hB29
  have hx29 := hx28.below hb29
  have hP29 := hP28.below hb29
  have hbb29 := hbb28.trans (hb29.mono hbb28.size)
  clear hy28 hx28 hall28 hP28 hbb28 hb29 hB29
  go_wp2_with fail
  have hB30 := nfc_len (fun x y => x && y) rfl hx29.2 hF29.2
  refine (intersect_any hx29 hF29 (by omega) (by omega)).mono ?_
  intro e w30 hr
  obtain ⟨mQ, kQ, AQ, cQ, HMQ, rfl, hlQ, hQ30, hb30⟩ := hr.open hB30
  have hP30 := hP29.below hb30
  have hbb30 := hbb29.trans (hb30.mono hbb29.size)
  clear hx29 hP29 hF29 hbb29 hb30 hB30
  go_wp2_with fail
  refine (sames_true hP30 hQ30 (same_nf HMP HMQ fun t ht => by simp only [dset_of HMF ht, dset_all ht]; cases dset la t <;> cases dset lb t <;> rfl) (by omega) (by omega)).mono ?_
  rintro e w31 ⟨rfl, hb31⟩
  have hbb31 := hbb30.trans (hb31.mono hbb30.size)
  clear hP30 hQ30 hbb30 hb31
  go_wp2_with fail
  go_ret
  exact ⟨rfl, hbb31⟩
end Go.Proofs.Ytjhbicopmgdlcaa
