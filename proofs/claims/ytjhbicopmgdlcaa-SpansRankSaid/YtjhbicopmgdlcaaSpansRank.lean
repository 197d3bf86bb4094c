/- The walk of SpansRank. -/
import Derived.Test.YtjhbicopmgdlcaaSpRankP
import Derived.Test.YtjhbicopmgdlcaaSpDays
import Derived.Test.YtjhbicopmgdlcaaSpCont
import Derived.Test.YtjhbicopmgdlcaaSpChain
namespace Go.Proofs.Ytjhbicopmgdlcaa
open Go.RowKit

set_option maxRecDepth 100000 in
set_option maxHeartbeats 4000000 in
theorem walkSpansRank (A : Option Addr) (n c : Nat) (l : List Sp) (q : Int) (s : Int) (w : World) (h1 : Ds w A n l) (hok1 : ∀ s ∈ l, s.ok) (_ : n ≤ maxLen) (_ : I64 q) (_ : I64 s) :
    Calls Try.prog 8 #[.slice A n c, .int .i64 q, .int .i64 s] w fun e w' => e = .returned (.bool true) ∧ Below w.heap.size w w' := by
  by_cases hbign : 60 < n
  · have hbign2 : (60 : Int) < (n : Int) := by omega
    go_enter Try.func8, Try.ntmps8
    go_wp2_with fail
    go_ret
    exact ⟨rfl, Below.refl _ _⟩
  have hbign2 : ¬ (60 : Int) < (n : Int) := by omega
  go_enter Try.func8, Try.ntmps8
  go_wp2_with fail
  refine (small_any A n c l s w h1 hok1 (by omega)).mono ?_
  rintro e w1 ⟨A1, c1, la, rfl, hx1, -, hb1⟩
  have hbb1 := hb1
  clear h1 hb1
  obtain ⟨v, hv, bv0, bv1⟩ : ∃ v, lenL (nf (dset la)) = v ∧ 0 ≤ v ∧ v ≤ 73050 := ⟨_, rfl, (lenL_nf_bd _).1, (lenL_nf_bd _).2⟩
  have Hv := Lib.hid hv
  clear hv
  go_wp2_with fail
  refine (days_any hx1 (by omega)).mono ?_
  rintro e w2 ⟨rfl, hb2⟩
  have hx2 := hx1.below hb2
  have hbb2 := hbb1.trans (hb2.mono hbb1.size)
  clear hx1 hbb1 hb2
  rw [Hv.out]
  by_cases hz : v = 0
  · have hzb : (v == 0) = true := beq_iff_eq.2 hz
    have hnil : (nf (dset la)).length ≤ 0 := by rw [lenL_zero (nf_norm (dset la)) (by rw [Hv.out]; exact hz)]; exact Nat.le_refl 0
    have HNIL := Lib.hid hnil
    clear hz hnil
    go_wp2_with fail
    refine (awake_any w2).mono ?_
    rintro e w3 ⟨rfl, hb3⟩
    have hx3 := hx2.below hb3
    have hbb3 := hbb2.trans (hb3.mono hbb2.size)
    clear hx2 hbb2 hb3
    go_wp2_with fail
    have hB4 := HNIL.out
    refine (make_nf hx3 (by omega)).mono ?_
    intro e w4 hr
    obtain ⟨mM, kM, AM, cM, HMM, rfl, hlM, hM4, hb4⟩ := hr.open hB4
    have hx4 := hx3.below hb4
    have hbb4 := hbb3.trans (hb4.mono hbb3.size)
    clear hx3 hbb3 hb4 hB4
    obtain rfl : kM = 0 := by omega
    go_wp2_with fail
    go_ret
    exact ⟨rfl, hbb4⟩
  · have hzb : (v == 0) = false := beq_eq_false_iff_ne.2 hz
    go_wp2_with fail
    refine (pick_any q v _ (by omega)).mono ?_
    rintro e w' ⟨rfl, rfl⟩
    have hpb := pick_bd q v (by omega)
    generalize pick q v = r at *
    obtain ⟨r0, r1⟩ := hpb
    obtain ⟨d, hn1, d0, d1, hcv, hbf, hbf2⟩ := nthL_ok (nf_norm (dset la)) r0 (by rw [Hv.out]; exact r1)
    have hct : dset la d = true := by rw [nf_cov, Bool.and_eq_true] at hcv; exact hcv.2
    have hnt : pairV (nthV (nf (dset la)) r) = .tuple #[.int .i64 d, .bool true] := by unfold nthV; rw [if_neg (by omega), hn1]; rfl
    have HCT := Lib.hid hct
    have HNT := Lib.hid hnt
    have HBF := Lib.hid hbf
    have HBF2 := Lib.hid hbf2
    clear hn1 hcv hct hnt hbf hbf2 hz
    go_wp2_with fail
    refine (nth_any r hx2 (by omega) ⟨by omega, by omega⟩).mono ?_
    rintro e w3 ⟨rfl, hb3⟩
    have hx3 := hx2.below hb3
    have hbb3 := hbb2.trans (hb3.mono hbb2.size)
    clear hx2 hbb2 hb3
    rw [HNT.out]
    go_wp2_with fail
    refine (awake_any w3).mono ?_
    rintro e w4 ⟨rfl, hb4⟩
    have hx4 := hx3.below hb4
    have hbb4 := hbb3.trans (hb4.mono hbb3.size)
    clear hx3 hbb3 hb4
    go_wp2_with fail
    refine (contains_any d hx4 (by omega)).mono ?_
    rintro e w5 ⟨rfl, hb5⟩
    have hx5 := hx4.below hb5
    have hbb5 := hbb4.trans (hb5.mono hbb4.size)
    clear hx4 hbb4 hb5
    rw [HCT.out]
    go_wp2_with fail
    refine (before_any d hx5 (by omega) ⟨by omega, by omega⟩).mono ?_
    rintro e w6 ⟨rfl, hb6⟩
    have hx6 := hx5.below hb6
    have hbb6 := hbb5.trans (hb6.mono hbb5.size)
    clear hx5 hbb5 hb6
    rw [HBF.out]
    go_wp2_with fail
    refine (before_any (d + 1) hx6 (by omega) ⟨by omega, by omega⟩).mono ?_
    rintro e w7 ⟨rfl, hb7⟩
    have hbb7 := hbb6.trans (hb7.mono hbb6.size)
    clear hx6 hbb6 hb7
    rw [HBF2.out]
    go_wp2_with fail
    go_ret
    exact ⟨rfl, hbb7⟩
end Go.Proofs.Ytjhbicopmgdlcaa
