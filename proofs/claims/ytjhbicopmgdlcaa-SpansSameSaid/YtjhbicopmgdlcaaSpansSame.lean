/- The walk of SpansSame. -/
import Derived.Test.YtjhbicopmgdlcaaSpSub
namespace Go.Proofs.Ytjhbicopmgdlcaa
open Go.RowKit

set_option maxHeartbeats 4000000 in
theorem walkSpansSame (A : Option Addr) (n c : Nat) (l : List Sp) (B : Option Addr) (m d : Nat) (k : List Sp) (s : Int) (w : World) (h : Ds w A n l) (hok : ∀ s ∈ l, s.ok) (_ : n ≤ maxLen) (h' : Ds w B m k) (hok' : ∀ s ∈ k, s.ok) (_ : m ≤ maxLen) (_ : I64 s) :
    Calls Try.prog 6 #[.slice A n c, .slice B m d, .int .i64 s] w fun e w' => e = .returned (.bool true) ∧ Below w.heap.size w w' := by
  by_cases hbig : 60 < n
  · have hbig2 : (60 : Int) < (n : Int) := by omega
    go_enter Try.func6, Try.ntmps6
    go_wp2_with fail
    go_ret
    exact ⟨rfl, Below.refl _ _⟩
  have hbig2 : ¬ (60 : Int) < (n : Int) := by omega
  by_cases hbigm : 60 < m
  · have hbigm2 : (60 : Int) < (m : Int) := by omega
    go_enter Try.func6, Try.ntmps6
    go_wp2_with fail
    go_ret
    exact ⟨rfl, Below.refl _ _⟩
  have hbigm2 : ¬ (60 : Int) < (m : Int) := by omega
  go_enter Try.func6, Try.ntmps6
  go_wp2_with fail
  refine (small_any A n c l s w h hok (by omega)).mono ?_
  rintro e w1 ⟨A1, c1, l1, rfl, hd1, -, hb1⟩
  have hk1 := h'.below hb1
  clear h h'
  go_wp2_with fail
  refine (small_any B m d k s w1 hk1 hok' (by omega)).mono ?_
  rintro e w2 ⟨B1, d1, k1, rfl, hk2, -, hb2⟩
  have hd2 := hd1.below hb2
  have hbb2 := hb1.trans (hb2.mono hb1.size)
  clear hd1 hk1 hb1 hb2
  have hlaw := same_law l1 k1
  have hP := nfc_len (fun x y => x && !y) rfl hd2.2 hk2.2
  have hQ := nfc_len (fun x y => x && !y) rfl hk2.2 hd2.2
  have hnl := nf_length_le hd2.2
  have hnk := nf_length_le hk2.2
  have hself := nf_self (nf_norm (dset l1))
  have HLAW := Lib.hid hlaw
  have HSELF := Lib.hid hself
  clear hlaw hself
  go_wp2_with fail
  refine (sub_any hd2 hk2 (by omega) (by omega)).mono ?_
  rintro e w3 ⟨S3, c3, rfl, -, hb3⟩
  generalize (nf fun x => dset l1 x && !dset k1 x).length = p at *
  have hd3 := hd2.below hb3
  have hk3 := hk2.below hb3
  have hbb3 := hbb2.trans (hb3.mono hbb2.size)
  clear hd2 hk2 hbb2 hb3
  go_wp2_with fail
  refine (sub_any hk3 hd3 (by omega) (by omega)).mono ?_
  rintro e w4 ⟨S4, c4, rfl, -, hb4⟩
  generalize (nf fun x => dset k1 x && !dset l1 x).length = q at *
  have hd4 := hd3.below hb4
  have hk4 := hk3.below hb4
  have hbb4 := hbb3.trans (hb4.mono hbb3.size)
  clear hd3 hk3 hbb3 hb4
  have hw1 : IntKind.i64.wrap ((p : Int) + (q : Int)) = (p : Int) + (q : Int) := IntWalk.i64_in _ (by omega)
  go_wp2_with fail
  refine (awake_any w4).mono ?_
  rintro e w5 ⟨rfl, hb5⟩
  have hd5 := hd4.below hb5
  have hk5 := hk4.below hb5
  have hbb5 := hbb4.trans (hb5.mono hbb4.size)
  clear hd4 hk4 hbb4 hb5
  go_wp2_with fail
  refine (make_nf hd5 (by omega)).mono ?_
  rintro e w6 ⟨A6, c6, rfl, hown6, hb6⟩
  have ha6 := Ds.ofOwn hown6 rfl
  have hd6 := hd5.below hb6
  have hk6 := hk5.below hb6
  have hbb6 := hbb5.trans (hb6.mono hbb5.size)
  clear hd5 hk5 hbb5 hb6 hown6
  go_wp2_with fail
  refine (make_nf hk6 (by omega)).mono ?_
  rintro e w7 ⟨A7, c7, rfl, hown7, hb7⟩
  have hx7 := Ds.ofOwn hown7 rfl
  have ha7 := ha6.below hb7
  have hd7 := hd6.below hb7
  have hbb7 := hbb6.trans (hb7.mono hbb6.size)
  clear hd6 hk6 hbb6 hb7 hown7 ha6
  go_wp2_with fail
  refine (sames_any A6 A7 _ _ c6 c7 _ _ w7 ha7.1 hx7.1 rfl rfl (by omega) (by omega)).mono ?_
  rintro e w8 ⟨rfl, hb8⟩
  rw [HLAW.out]
  have hd8 := hd7.below hb8
  have hbb8 := hbb7.trans (hb8.mono hbb7.size)
  clear hd7 hbb7 hb8 ha7 hx7 HLAW
  generalize hN : nf (dset l1) = N at *
  generalize hm : N.length = r at *
  have HN := Lib.hid hN
  have HM := Lib.hid hm
  clear hN hm
  cases hbb : ((p : Int) + (q : Int) == 0)
  all_goals
    go_wp2_with fail
    refine (make_nf hd8 (by omega)).mono ?_
    intro e w9 hr
    unfold RetNf at hr
    rw [HN.out, HM.out] at hr
    obtain ⟨A9, c9, rfl, hown9, hb9⟩ := hr
    have ha9 := Ds.ofOwn hown9 HM.out
    have hd9 := hd8.below hb9
    have hbb9 := hbb8.trans (hb9.mono hbb8.size)
    clear hd8 hbb8 hb9 hown9
    go_wp2_with fail
    refine (make_nf ha9 (by omega)).mono ?_
    intro e w10 hr
    unfold RetNf at hr
    rw [HSELF.out, HM.out] at hr
    obtain ⟨A10, c10, rfl, hown10, hb10⟩ := hr
    have ha10 := Ds.ofOwn hown10 HM.out
    have hd10 := hd9.below hb10
    have hbb10 := hbb9.trans (hb10.mono hbb9.size)
    clear hd9 hbb9 hb10 hown10 ha9
    go_wp2_with fail
    refine (make_nf hd10 (by omega)).mono ?_
    intro e w11 hr
    unfold RetNf at hr
    rw [HN.out, HM.out] at hr
    obtain ⟨A11, c11, rfl, hown11, hb11⟩ := hr
    have hx11 := Ds.ofOwn hown11 HM.out
    have ha11 := ha10.below hb11
    have hbb11 := hbb10.trans (hb11.mono hbb10.size)
    clear hd10 hbb10 hb11 hown11 ha10
    go_wp2_with fail
    refine (sames_any A10 A11 r r c10 c11 N N w11 ha11.1 hx11.1 HM.out HM.out (by omega) (by omega)).mono ?_
    rintro e w12 ⟨rfl, hb12⟩
    rw [eqB_self]
    go_wp2_with fail
    go_ret
    exact ⟨rfl, hbb11.trans (hb12.mono hbb11.size)⟩
end Go.Proofs.Ytjhbicopmgdlcaa
