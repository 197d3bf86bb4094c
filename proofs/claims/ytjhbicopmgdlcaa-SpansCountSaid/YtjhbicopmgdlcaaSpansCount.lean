/- The walk of SpansCount. -/
import Derived.Test.YtjhbicopmgdlcaaSpSub
import Derived.Test.YtjhbicopmgdlcaaSpUni
import Derived.Test.YtjhbicopmgdlcaaSpDays
import Derived.Test.YtjhbicopmgdlcaaSpClip
import Derived.Test.YtjhbicopmgdlcaaSpChain
namespace Go.Proofs.Ytjhbicopmgdlcaa
open Go.RowKit

set_option maxRecDepth 100000 in
set_option maxHeartbeats 4000000 in
theorem walkSpansCount (A : Option Addr) (n c : Nat) (l : List Sp) (B : Option Addr) (m d : Nat) (k : List Sp) (q : Int) (s : Int) (w : World) (h1 : Ds w A n l) (hok1 : ∀ s ∈ l, s.ok) (_ : n ≤ maxLen) (h2 : Ds w B m k) (hok2 : ∀ s ∈ k, s.ok) (_ : m ≤ maxLen) (hq : I64 q) (_ : I64 s) :
    Calls Try.prog 7 #[.slice A n c, .slice B m d, .int .i64 q, .int .i64 s] w fun e w' => e = .returned (.bool true) ∧ Below w.heap.size w w' := by
  by_cases hbign : 60 < n
  · have hbign2 : (60 : Int) < (n : Int) := by omega
    go_enter Try.func7, Try.ntmps7
    go_wp2_with fail
    go_ret
    exact ⟨rfl, Below.refl _ _⟩
  have hbign2 : ¬ (60 : Int) < (n : Int) := by omega
  by_cases hbigm : 60 < m
  · have hbigm2 : (60 : Int) < (m : Int) := by omega
    go_enter Try.func7, Try.ntmps7
    go_wp2_with fail
    go_ret
    exact ⟨rfl, Below.refl _ _⟩
  have hbigm2 : ¬ (60 : Int) < (m : Int) := by omega
  go_enter Try.func7, Try.ntmps7
  go_wp2_with fail
  refine (small_any A n c l s w h1 hok1 (by omega)).mono ?_
  rintro e w1 ⟨A1, c1, la, rfl, hx1, -, hb1⟩
  have hy1 := h2.below hb1
  have hbb1 := hb1
  clear h1 h2 hb1
  go_wp2_with fail
  refine (small_any B m d k s w1 hy1 hok2 (by omega)).mono ?_
  rintro e w2 ⟨B1, d1, lb, rfl, hy2, -, hb2⟩
  have hx2 := hx1.below hb2
  have hbb2 := hbb1.trans (hb2.mono hbb1.size)
  clear hy1 hx1 hbb1 hb2
  go_wp2_with fail
  refine (probe_any q s hq _).mono ?_
  rintro e w3 ⟨t, rfl, ht, hb3⟩
  have hx3 := hx2.below hb3
  have hy3 := hy2.below hb3
  have hbb3 := hbb2.trans (hb3.mono hbb2.size)
  clear hx2 hy2 hbb2 hb3
  obtain ⟨va, hva, bva0, bva1⟩ : ∃ v, lenL (nf (dset la)) = v ∧ 0 ≤ v ∧ v ≤ 73050 := ⟨_, rfl, (lenL_nf_bd _).1, (lenL_nf_bd _).2⟩
  obtain ⟨vk, hvk, bvk0, bvk1⟩ : ∃ v, lenL (nf (dset lb)) = v ∧ 0 ≤ v ∧ v ≤ 73050 := ⟨_, rfl, (lenL_nf_bd _).1, (lenL_nf_bd _).2⟩
  obtain ⟨vU, hvU, bvU0, bvU1⟩ : ∃ v, lenL (nf (fun x => dset la x || dset lb x)) = v ∧ 0 ≤ v ∧ v ≤ 73050 := ⟨_, rfl, (lenL_nf_bd _).1, (lenL_nf_bd _).2⟩
  obtain ⟨vI, hvI, bvI0, bvI1⟩ : ∃ v, lenL (nf (fun x => dset la x && dset lb x)) = v ∧ 0 ≤ v ∧ v ≤ 73050 := ⟨_, rfl, (lenL_nf_bd _).1, (lenL_nf_bd _).2⟩
  obtain ⟨vb, hvb⟩ : ∃ v, befL (nf (dset la)) t = v := ⟨_, rfl⟩
  have hadd : vU + vI = va + vk := by rw [← hvU, ← hvI, ← hva, ← hvk]; exact lenL_add _ _
  have hsum : (vU + vI == va + vk) = true := beq_iff_eq.2 hadd
  have Hva := Lib.hid hva
  have Hvk := Lib.hid hvk
  have HvU := Lib.hid hvU
  have HvI := Lib.hid hvI
  have Hvb := Lib.hid hvb
  clear hva hvk hvU hvI hvb hadd
  go_wp2_with fail
  refine (awake_any w3).mono ?_
  rintro e w4 ⟨rfl, hb4⟩
  have hy4 := hy3.below hb4
  have hx4 := hx3.below hb4
  have hbb4 := hbb3.trans (hb4.mono hbb3.size)
  clear hy3 hx3 hbb3 hb4
  go_wp2_with fail
  refine (days_any hx4 (by omega)).mono ?_
  rintro e w5 ⟨rfl, hb5⟩
  have hy5 := hy4.below hb5
  have hx5 := hx4.below hb5
  have hbb5 := hbb4.trans (hb5.mono hbb4.size)
  clear hy4 hx4 hbb4 hb5
  rw [Hva.out]
  go_wp2_with fail
  refine (rdays_any hx5 (by omega)).mono ?_
  rintro e w6 ⟨rfl, hb6⟩
  have hy6 := hy5.below hb6
  have hx6 := hx5.below hb6
  have hbb6 := hbb5.trans (hb6.mono hbb5.size)
  clear hy5 hx5 hbb5 hb6
  rw [Hva.out]
  go_wp2_with fail
  refine (before_any t hx6 (by omega) ht).mono ?_
  rintro e w7 ⟨rfl, hb7⟩
  have hy7 := hy6.below hb7
  have hx7 := hx6.below hb7
  have hbb7 := hbb6.trans (hb7.mono hbb6.size)
  clear hy6 hx6 hbb6 hb7
  rw [Hvb.out]
  go_wp2_with fail
  refine (rbefore_any t hx7 (by omega)).mono ?_
  rintro e w8 ⟨rfl, hb8⟩
  have hy8 := hy7.below hb8
  have hx8 := hx7.below hb8
  have hbb8 := hbb7.trans (hb8.mono hbb7.size)
  clear hy7 hx7 hbb7 hb8
  rw [Hvb.out]
  go_wp2_with fail
  have hB9 := nfc_len (fun x y => x || y) rfl hx8.2 hy8.2
  refine (union_any hx8 hy8 (by omega) (by omega)).mono ?_
  intro e w9 hr
  obtain ⟨mU, kU, AU, cU, HMU, rfl, hlU, hU9, hb9⟩ := hr.open hB9
  have hy9 := hy8.below hb9
  have hx9 := hx8.below hb9
  have hbb9 := hbb8.trans (hb9.mono hbb8.size)
  clear hy8 hx8 hbb8 hb9 hB9
  go_wp2_with fail
  refine (days_any hU9 (by omega)).mono ?_
  rintro e w10 ⟨rfl, hb10⟩
  have hy10 := hy9.below hb10
  have hx10 := hx9.below hb10
  have hbb10 := hbb9.trans (hb10.mono hbb9.size)
  clear hy9 hx9 hU9 hbb9 hb10
  rw [show lenL (nf (dset mU)) = vU from by rw [HMU.out, nf_dset]; exact HvU.out]
  go_wp2_with fail
  have hB11 := nfc_len (fun x y => x && y) rfl hx10.2 hy10.2
  refine (intersect_any hx10 hy10 (by omega) (by omega)).mono ?_
  intro e w11 hr
  obtain ⟨mI, kI, AI, cI, HMI, rfl, hlI, hI11, hb11⟩ := hr.open hB11
  have hy11 := hy10.below hb11
  have hx11 := hx10.below hb11
  have hbb11 := hbb10.trans (hb11.mono hbb10.size)
  clear hy10 hx10 hbb10 hb11 hB11
  go_wp2_with fail
  refine (days_any hI11 (by omega)).mono ?_
  rintro e w12 ⟨rfl, hb12⟩
  have hy12 := hy11.below hb12
  have hx12 := hx11.below hb12
  have hbb12 := hbb11.trans (hb12.mono hbb11.size)
  clear hy11 hx11 hI11 hbb11 hb12
  rw [show lenL (nf (dset mI)) = vI from by rw [HMI.out, nf_dset]; exact HvI.out]
  go_wp2_with fail
  refine (days_any hx12 (by omega)).mono ?_
  rintro e w13 ⟨rfl, hb13⟩
  have hy13 := hy12.below hb13
  have hbb13 := hbb12.trans (hb13.mono hbb12.size)
  clear hy12 hx12 hbb12 hb13
  rw [Hva.out]
  go_wp2_with fail
  refine (days_any hy13 (by omega)).mono ?_
  rintro e w14 ⟨rfl, hb14⟩
  have hbb14 := hbb13.trans (hb14.mono hbb13.size)
  clear hy13 hbb13 hb14
  rw [Hvk.out]
  go_wp2_with fail
  go_ret
  exact ⟨rfl, hbb14⟩
end Go.Proofs.Ytjhbicopmgdlcaa
