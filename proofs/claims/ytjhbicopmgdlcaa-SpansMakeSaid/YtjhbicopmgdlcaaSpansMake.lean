/- The walk of SpansMake. -/
import Derived.Test.YtjhbicopmgdlcaaSpLawB
namespace Go.Proofs.Ytjhbicopmgdlcaa
open Go.RowKit

theorem nf_length_le {l : List Sp} {n : Nat} (hl : l.length = n) : (nf (dset l)).length ≤ 2 * n := by
  have h1 := comb_eq (fun x y => x || y) rfl l []
  have h2 := combS_length (fun x => dset l x || dset [] x) (edgL (edgL [] l) []) []
  have h3 := edgL_length [] (edgL [] l)
  have h4 := edgL_length l []
  rw [h1] at h2
  have h5 : nf (fun x => dset l x || dset [] x) = nf (dset l) := nf_congr fun x _ => by simp [dset, cov]
  rw [h5] at h2
  simp at *
  omega

set_option maxHeartbeats 4000000 in
theorem walkSpansMake (A : Option Addr) (n c : Nat) (l : List Sp) (s : Int) (w : World) (h : Ds w A n l) (hok : ∀ s ∈ l, s.ok) (_ : n ≤ maxLen) (_ : I64 s) :
    Calls Try.prog 3 #[.slice A n c, .int .i64 s] w fun e w' => e = .returned (.bool true) ∧ Below w.heap.size w w' := by
  by_cases hbig : 60 < n
  · have hbig2 : (60 : Int) < (n : Int) := by omega
    go_enter Try.func3, Try.ntmps3
    go_wp2_with fail
    go_ret
    exact ⟨rfl, Below.refl _ _⟩
  · have hbig2 : ¬ (60 : Int) < (n : Int) := by omega
    go_enter Try.func3, Try.ntmps3
    go_wp2_with fail
    refine (small_any A n c l s w h hok (by omega)).mono ?_
    rintro e w1 ⟨A1, c1, l1, rfl, hd1, hok1, hb1⟩
    have hnl := nf_length_le hd1.2
    go_wp2_with fail
    refine (make_nf hd1 (by omega)).mono ?_
    rintro e w2 ⟨A2, c2, rfl, hown2, hb2⟩
    have hbb2 := hb1.trans (hb2.mono hb1.size)
    have hd2 := hd1.below hb2
    have hm2 := Ds.ofOwn hown2 rfl
    have hnn : normB (-1) (nf (dset l1)) = true := (normB_iff _ _).2 (nf_norm _)
    clear hd1 hown2 hb1 hb2
    generalize hN : nf (dset l1) = N at *
    generalize hm : N.length = m at *
    have HN := Lib.hid hN
    have HM := Lib.hid hm
    have HNN := Lib.hid hnn
    clear hN hm hnn
    go_wp2_with fail
    refine (awake_any w2).mono ?_
    rintro e w3 ⟨rfl, hb3⟩
    have hbb3 := hbb2.trans (hb3.mono hbb2.size)
    have hd3 := hd2.below hb3
    have hm3 := hm2.below hb3
    clear hd2 hm2 hbb2 hb3
    go_wp2_with fail
    refine (rmake_nf hd3 (by omega)).mono ?_
    intro e w4 hr
    unfold RetNf at hr
    rw [HN.out, HM.out] at hr
    obtain ⟨A4, c4, rfl, hown4, hb4⟩ := hr
    have hbb4 := hbb3.trans (hb4.mono hbb3.size)
    have hd4 := hd3.below hb4
    have hm4 := hm3.below hb4
    have hr4 := Ds.ofOwn hown4 HM.out
    clear hd3 hm3 hbb3 hb4 hown4
    go_wp2_with fail
    refine (sames_any A2 A4 m m c2 c4 N N w4 hm4.1 hr4.1 HM.out HM.out (by omega) (by omega)).mono ?_
    rintro e w5 ⟨rfl, hb5⟩
    rw [eqB_self]
    have hbb5 := hbb4.trans (hb5.mono hbb4.size)
    have hd5 := hd4.below hb5
    have hm5 := hm4.below hb5
    clear hd4 hm4 hbb4 hb5 hr4
    go_wp2_with fail
    refine (normal_any A2 m c2 N w5 hm5.1 HM.out (by omega)).mono ?_
    rintro e w6 ⟨rfl, hb6⟩
    rw [HNN.out]
    have hbb6 := hbb5.trans (hb6.mono hbb5.size)
    have hd6 := hd5.below hb6
    clear hd5 hm5 hbb5 hb6
    go_wp2_with fail
    refine (normal_any A1 n c1 l1 w6 hd6.1 hd6.2 (by omega)).mono ?_
    rintro e w7 ⟨rfl, hb7⟩
    have hbb7 := hbb6.trans (hb7.mono hbb6.size)
    have hd7 := hd6.below hb7
    clear hd6 hbb6 hb7
    go_wp2_with fail
    refine (rnormal_any A1 n c1 l1 w7 hd7.1 hd7.2 (by omega)).mono ?_
    rintro e w8 ⟨rfl, hb8⟩
    generalize normB (-1) l1 = bb
    cases bb
    all_goals
      go_wp2_with fail
      go_ret
      exact ⟨rfl, hbb7.trans (hb8.mono hbb7.size)⟩
end Go.Proofs.Ytjhbicopmgdlcaa
