/- The walk of SpansDay. -/
import Derived.Test.YtjhbicopmgdlcaaSpSub
import Derived.Test.YtjhbicopmgdlcaaSpUni
import Derived.Test.YtjhbicopmgdlcaaSpCont
import Derived.Test.YtjhbicopmgdlcaaSpChain
namespace Go.Proofs.Ytjhbicopmgdlcaa
open Go.RowKit

set_option maxRecDepth 100000 in
set_option maxHeartbeats 4000000 in
theorem walkSpansDay (A : Option Addr) (n c : Nat) (l : List Sp) (B : Option Addr) (m d : Nat) (k : List Sp) (q : Int) (s : Int) (w : World) (h1 : Ds w A n l) (hok1 : ∀ s ∈ l, s.ok) (_ : n ≤ maxLen) (h2 : Ds w B m k) (hok2 : ∀ s ∈ k, s.ok) (_ : m ≤ maxLen) (hq : I64 q) (_ : I64 s) :
    Calls Try.prog 11 #[.slice A n c, .slice B m d, .int .i64 q, .int .i64 s] w fun e w' => e = .returned (.bool true) ∧ Below w.heap.size w w' := by
  by_cases hbign : 60 < n
  · have hbign2 : (60 : Int) < (n : Int) := by omega
    go_enter Try.func11, Try.ntmps11
    go_wp2_with fail
    go_ret
    exact ⟨rfl, Below.refl _ _⟩
  have hbign2 : ¬ (60 : Int) < (n : Int) := by omega
  by_cases hbigm : 60 < m
  · have hbigm2 : (60 : Int) < (m : Int) := by omega
    go_enter Try.func11, Try.ntmps11
    go_wp2_with fail
    go_ret
    exact ⟨rfl, Below.refl _ _⟩
  have hbigm2 : ¬ (60 : Int) < (m : Int) := by omega
  go_enter Try.func11, Try.ntmps11
  go_wp2_with fail
  refine (small_any A n c l s w h1 hok1 (by omega)).mono ?_
  rintro e w1 ⟨A1, c1, la, rfl, hx1, -, hb1⟩
  have hy1 := h2.below hb1
  have hbb1 := hb1
  clear h1 h2 hb1
  go_wp2_with fail
  refine (small_any B m d k s w1 hy1 hok2 (by omega)).mono ?_
  rintro e w2 ⟨B1, d1, lb, rfl, hy2, -, hb2⟩
  have hx2 := hx1.below hb2
  have hbb2 := hbb1.trans (hb2.mono hbb1.size)
  clear hy1 hx1 hbb1 hb2
  go_wp2_with fail
  refine (probe_any q s hq _).mono ?_
  rintro e w3 ⟨t, rfl, ht, hb3⟩
  have hx3 := hx2.below hb3
  have hy3 := hy2.below hb3
  have hbb3 := hbb2.trans (hb3.mono hbb2.size)
  clear hx2 hy2 hbb2 hb3
  go_wp2_with fail
  refine (rcontains_nf t hx3 (by omega)).mono ?_
  rintro e w4 ⟨rfl, hb4⟩
  have hy4 := hy3.below hb4
  have hx4 := hx3.below hb4
  have hbb4 := hbb3.trans (hb4.mono hbb3.size)
  clear hy3 hx3 hbb3 hb4
  obtain ⟨bx, hbx⟩ : ∃ b, dset la t = b := ⟨_, rfl⟩
  rw [hbx]
  have HX := Lib.hid hbx
  clear hbx
  go_wp2_with fail
  refine (rcontains_nf t hy4 (by omega)).mono ?_
  rintro e w5 ⟨rfl, hb5⟩
  have hy5 := hy4.below hb5
  have hx5 := hx4.below hb5
  have hbb5 := hbb4.trans (hb5.mono hbb4.size)
  clear hy4 hx4 hbb4 hb5
  obtain ⟨bz, hbz⟩ : ∃ b, dset lb t = b := ⟨_, rfl⟩
  rw [hbz]
  have HY := Lib.hid hbz
  clear hbz
  cases bx <;> cases bz
  all_goals
    go_wp2_with fail
    refine (awake_any w5).mono ?_
    rintro e w6 ⟨rfl, hb6⟩
    have hy6 := hy5.below hb6
    have hx6 := hx5.below hb6
    have hbb6 := hbb5.trans (hb6.mono hbb5.size)
    clear hy5 hx5 hbb5 hb6
    go_wp2_with fail
    refine (contains_any t hx6 (by omega)).mono ?_
    rintro e w7 ⟨rfl, hb7⟩
    have hy7 := hy6.below hb7
    have hx7 := hx6.below hb7
    have hbb7 := hbb6.trans (hb7.mono hbb6.size)
    clear hy6 hx6 hbb6 hb7
    rw [HX.out]
    go_wp2_with fail
    have hB8 := nf_length_le hx7.2
    refine (make_nf hx7 (by omega)).mono ?_
    intro e w8 hr
    obtain ⟨mM, kM, AM, cM, HMM, rfl, hlM, hM8, hb8⟩ := hr.open hB8
    have hy8 := hy7.below hb8
    have hx8 := hx7.below hb8
    have hbb8 := hbb7.trans (hb8.mono hbb7.size)
    clear hy7 hx7 hbb7 hb8 hB8
    go_wp2_with fail
    refine (contains_any t hM8 (by omega)).mono ?_
    rintro e w9 ⟨rfl, hb9⟩
    have hy9 := hy8.below hb9
    have hx9 := hx8.below hb9
    have hbb9 := hbb8.trans (hb9.mono hbb8.size)
    clear hy8 hx8 hM8 hbb8 hb9
    rw [dset_nfd HMM, HX.out]
    go_wp2_with fail
    have hB10 := nfc_len (fun x y => x || y) rfl hx9.2 hy9.2
    refine (union_any hx9 hy9 (by omega) (by omega)).mono ?_
    intro e w10 hr
    obtain ⟨mU, kU, AU, cU, HMU, rfl, hlU, hU10, hb10⟩ := hr.open hB10
    have hy10 := hy9.below hb10
    have hx10 := hx9.below hb10
    have hbb10 := hbb9.trans (hb10.mono hbb9.size)
    clear hy9 hx9 hbb9 hb10 hB10
    go_wp2_with fail
    refine (contains_any t hU10 (by omega)).mono ?_
    rintro e w11 ⟨rfl, hb11⟩
    have hy11 := hy10.below hb11
    have hx11 := hx10.below hb11
    have hbb11 := hbb10.trans (hb11.mono hbb10.size)
    clear hy10 hx10 hU10 hbb10 hb11
    first | rw [dset_gv (fun p q => p || q) rfl HMU t HX HY (r := true) rfl] | rw [dset_gv (fun p q => p || q) rfl HMU t HX HY (r := false) rfl]
    go_wp2_with fail
    have hB12 := nfc_len (fun x y => x && y) rfl hx11.2 hy11.2
    refine (intersect_any hx11 hy11 (by omega) (by omega)).mono ?_
    intro e w12 hr
    obtain ⟨mI, kI, AI, cI, HMI, rfl, hlI, hI12, hb12⟩ := hr.open hB12
    have hy12 := hy11.below hb12
    have hx12 := hx11.below hb12
    have hbb12 := hbb11.trans (hb12.mono hbb11.size)
    clear hy11 hx11 hbb11 hb12 hB12
    go_wp2_with fail
    refine (contains_any t hI12 (by omega)).mono ?_
    rintro e w13 ⟨rfl, hb13⟩
    have hy13 := hy12.below hb13
    have hx13 := hx12.below hb13
    have hbb13 := hbb12.trans (hb13.mono hbb12.size)
    clear hy12 hx12 hI12 hbb12 hb13
    first | rw [dset_gv (fun p q => p && q) rfl HMI t HX HY (r := true) rfl] | rw [dset_gv (fun p q => p && q) rfl HMI t HX HY (r := false) rfl]
    go_wp2_with fail
    have hB14 := nfc_len (fun x y => x && !y) rfl hx13.2 hy13.2
    refine (sub_any hx13 hy13 (by omega) (by omega)).mono ?_
    intro e w14 hr
    obtain ⟨mD, kD, AD, cD, HMD, rfl, hlD, hD14, hb14⟩ := hr.open hB14
    have hbb14 := hbb13.trans (hb14.mono hbb13.size)
    clear hy13 hx13 hbb13 hb14 hB14
    go_wp2_with fail
    refine (contains_any t hD14 (by omega)).mono ?_
    rintro e w15 ⟨rfl, hb15⟩
    have hbb15 := hbb14.trans (hb15.mono hbb14.size)
    clear hD14 hbb14 hb15
    first | rw [dset_gv (fun p q => p && !q) rfl HMD t HX HY (r := true) rfl] | rw [dset_gv (fun p q => p && !q) rfl HMD t HX HY (r := false) rfl]
    go_wp2_with fail
    go_ret
    exact ⟨rfl, hbb15⟩
end Go.Proofs.Ytjhbicopmgdlcaa
