/- The walk of SpansSets. -/
import Derived.Test.YtjhbicopmgdlcaaSpSub
import Derived.Test.YtjhbicopmgdlcaaSpUni
namespace Go.Proofs.Ytjhbicopmgdlcaa
open Go.RowKit

set_option maxHeartbeats 4000000 in
theorem walkSpansSets (A : Option Addr) (n c : Nat) (l : List Sp) (B : Option Addr) (m d : Nat) (k : List Sp) (s : Int) (w : World) (h : Ds w A n l) (hok : ∀ s ∈ l, s.ok) (_ : n ≤ maxLen) (h' : Ds w B m k) (hok' : ∀ s ∈ k, s.ok) (_ : m ≤ maxLen) (_ : I64 s) :
    Calls Try.prog 9 #[.slice A n c, .slice B m d, .int .i64 s] w fun e w' => e = .returned (.bool true) ∧ Below w.heap.size w w' := by
  by_cases hbig : 60 < n
  · have hbig2 : (60 : Int) < (n : Int) := by omega
    go_enter Try.func9, Try.ntmps9
    go_wp2_with fail
    go_ret
    exact ⟨rfl, Below.refl _ _⟩
  have hbig2 : ¬ (60 : Int) < (n : Int) := by omega
  by_cases hbigm : 60 < m
  · have hbigm2 : (60 : Int) < (m : Int) := by omega
    go_enter Try.func9, Try.ntmps9
    go_wp2_with fail
    go_ret
    exact ⟨rfl, Below.refl _ _⟩
  have hbigm2 : ¬ (60 : Int) < (m : Int) := by omega
  go_enter Try.func9, Try.ntmps9
  go_wp2_with fail
  refine (small_any A n c l s w h hok (by omega)).mono ?_
  rintro e w1 ⟨A1, c1, l1, rfl, hd1, -, hb1⟩
  have hk1 := h'.below hb1
  clear h h'
  go_wp2_with fail
  refine (small_any B m d k s w1 hk1 hok' (by omega)).mono ?_
  rintro e w2 ⟨B1, d1, k1, rfl, hk2, -, hb2⟩
  have hd2 := hd1.below hb2
  have hbb2 := hb1.trans (hb2.mono hb1.size)
  clear hd1 hk1 hb1 hb2
  have hU := nfc_len (fun x y => x || y) rfl hd2.2 hk2.2
  have hI := nfc_len (fun x y => x && y) rfl hd2.2 hk2.2
  have hS := nfc_len (fun x y => x && !y) rfl hd2.2 hk2.2
  go_wp2_with fail
  refine (awake_any w2).mono ?_
  rintro e w3 ⟨rfl, hb3⟩
  have hd3 := hd2.below hb3
  have hk3 := hk2.below hb3
  have hbb3 := hbb2.trans (hb3.mono hbb2.size)
  clear hd2 hk2 hbb2 hb3
  go_wp2_with fail
  refine (union_any hd3 hk3 (by omega) (by omega)).mono ?_
  rintro e w4 ⟨A4, c4, rfl, hown4, hb4⟩
  have hx4 := Ds.ofOwn hown4 rfl
  have hd4 := hd3.below hb4
  have hk4 := hk3.below hb4
  have hbb4 := hbb3.trans (hb4.mono hbb3.size)
  clear hd3 hk3 hbb3 hb4 hown4
  go_wp2_with fail
  refine (runion_any hd4 hk4 (by omega) (by omega)).mono ?_
  rintro e w5 ⟨A5, c5, rfl, hown5, hb5⟩
  have hy5 := Ds.ofOwn hown5 rfl
  have hx5 := hx4.below hb5
  have hd5 := hd4.below hb5
  have hk5 := hk4.below hb5
  have hbb5 := hbb4.trans (hb5.mono hbb4.size)
  clear hd4 hk4 hbb4 hb5 hown5 hx4
  go_wp2_with fail
  refine (sames_any A4 A5 _ _ c4 c5 _ _ w5 hx5.1 hy5.1 rfl rfl (by omega) (by omega)).mono ?_
  rintro e w6 ⟨rfl, hb6⟩
  rw [eqB_self]
  have hd6 := hd5.below hb6
  have hk6 := hk5.below hb6
  have hbb6 := hbb5.trans (hb6.mono hbb5.size)
  clear hd5 hk5 hbb5 hb6 hx5 hy5
  go_wp2_with fail
  refine (intersect_any hd6 hk6 (by omega) (by omega)).mono ?_
  rintro e w7 ⟨A7, c7, rfl, hown7, hb7⟩
  have hx7 := Ds.ofOwn hown7 rfl
  have hd7 := hd6.below hb7
  have hk7 := hk6.below hb7
  have hbb7 := hbb6.trans (hb7.mono hbb6.size)
  clear hd6 hk6 hbb6 hb7 hown7
  go_wp2_with fail
  refine (rinter_any hd7 hk7 (by omega) (by omega)).mono ?_
  rintro e w8 ⟨A8, c8, rfl, hown8, hb8⟩
  have hy8 := Ds.ofOwn hown8 rfl
  have hx8 := hx7.below hb8
  have hd8 := hd7.below hb8
  have hk8 := hk7.below hb8
  have hbb8 := hbb7.trans (hb8.mono hbb7.size)
  clear hd7 hk7 hbb7 hb8 hown8 hx7
  go_wp2_with fail
  refine (sames_any A7 A8 _ _ c7 c8 _ _ w8 hx8.1 hy8.1 rfl rfl (by omega) (by omega)).mono ?_
  rintro e w9 ⟨rfl, hb9⟩
  rw [eqB_self]
  have hd9 := hd8.below hb9
  have hk9 := hk8.below hb9
  have hbb9 := hbb8.trans (hb9.mono hbb8.size)
  clear hd8 hk8 hbb8 hb9 hx8 hy8
  go_wp2_with fail
  refine (sub_any hd9 hk9 (by omega) (by omega)).mono ?_
  rintro e w10 ⟨A10, c10, rfl, hown10, hb10⟩
  have hx10 := Ds.ofOwn hown10 rfl
  have hd10 := hd9.below hb10
  have hk10 := hk9.below hb10
  have hbb10 := hbb9.trans (hb10.mono hbb9.size)
  clear hd9 hk9 hbb9 hb10 hown10
  go_wp2_with fail
  refine (rsub_any hd10 hk10 (by omega) (by omega)).mono ?_
  rintro e w11 ⟨A11, c11, rfl, hown11, hb11⟩
  have hy11 := Ds.ofOwn hown11 rfl
  have hx11 := hx10.below hb11
  have hd11 := hd10.below hb11
  have hk11 := hk10.below hb11
  have hbb11 := hbb10.trans (hb11.mono hbb10.size)
  clear hd10 hk10 hbb10 hb11 hown11 hx10
  go_wp2_with fail
  refine (sames_any A10 A11 _ _ c10 c11 _ _ w11 hx11.1 hy11.1 rfl rfl (by omega) (by omega)).mono ?_
  rintro e w12 ⟨rfl, hb12⟩
  rw [eqB_self]
  have hd12 := hd11.below hb12
  have hk12 := hk11.below hb12
  have hbb12 := hbb11.trans (hb12.mono hbb11.size)
  clear hd11 hk11 hbb11 hb12 hx11 hy11
  go_wp2_with fail
  go_ret
  exact ⟨rfl, hbb12⟩
end Go.Proofs.Ytjhbicopmgdlcaa
