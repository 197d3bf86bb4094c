/- A valid fact is found valid by the reference. -/
import Derived.Test.YtbogmkhoppffgaaFcA
import Derived.Test.YtbogmkhoppffgaaFcC
namespace Go.Proofs.Ytbogmkhoppffgaa
open Go.RowKit

theorem useS_size (k : Int) : (useS k).size = (useL k).length := by simp [useS, ByteArray.size]
theorem useS_at {k : Int} {j : Nat} (h : j < (useS k).size) : ∃ l, (useL k)[j]? = some l ∧ (useS k)[j] = l := by
  have h' : j < (useL k).length := by rwa [useS_size] at h
  refine ⟨(useL k)[j], List.getElem?_eq_getElem h', ?_⟩
  rfl

set_option maxHeartbeats 1000000 in
theorem ruse_any {k z : Int} {c : UInt8} {b : Bool} (h1 : 1 ≤ k) (h2 : k ≤ 14) (hz : (c.toNat : Int) = z) (hb : decide (c ∈ useL k) = b) (w : World) : Calls Try.prog 48 #[.int .i64 k, .int .u8 z] w fun e w' => e = .returned (.bool b) ∧ Below w.heap.size w w' := by
  have HB := Lib.hid hb
  have hul := useL_length k
  have HZ := Lib.hid (useS_size k)
  clear hb
  go_enter Try.func48, Try.ntmps48
  go_wp2_with fail
  refine (ruses_any k _ h1 h2).mono ?_
  rintro e w1 ⟨rfl, hb1⟩
  have HW := Lib.hid hb1
  clear hb1
  go_wp2_with fail
  go_loopw [6] (fun i wr => ∃ j : Nat, j ≤ (useS k).size ∧ i = .int .i64 (j : Int) ∧ (∀ l ∈ (useL k).take j, l ≠ c) ∧ wr = w1) (fun i _ => (useS k).size - (intOf i).toNat)
  case atStart => exact ⟨0, by omega, rfl, by simp, rfl⟩
  case round =>
    obtain ⟨j, hj, rfl, hno, rfl⟩ := hrel
    have HNO := Lib.hid hno
    clear hno
    have hsz : (useS k).size ≤ 6 := by rw [HZ.out]; exact hul
    by_cases hlt : j < (useS k).size
    · obtain ⟨l, hl, hs⟩ := useS_at hlt
      have HL := Lib.hid hl
      have HS := Lib.hid hs
      clear hl hs
      obtain ⟨t, ht⟩ : ∃ t, (((useS k)[j].toNat : Int) == z) = t := ⟨_, rfl⟩
      cases t with
      | true =>
        have hc : l = c := by
          have h3 := beq_iff_eq.1 ht
          rw [HS.out, ← hz] at h3
          exact UInt8.toNat_inj.1 (by omega)
        have HE : Hid (b = true) := Lib.hid (by rw [← HB.out]; exact decide_eq_true (by rw [← hc]; exact List.mem_of_getElem? HL.out))
        clear hc
        go_wp2_with fail
        go_ret
        exact ⟨ret_bool HE.out.symm, HW.out⟩
      | false =>
        have HE : Hid (∀ m ∈ (useL k).take (j + 1), m ≠ c) := Lib.hid fun m hm => by
          rw [List.take_add_one, HL.out] at hm
          rcases List.mem_append.1 hm with hm | hm
          · exact HNO.out m hm
          · have e : m = l := by simpa using hm
            rw [e]
            rintro rfl
            have h3 := beq_eq_false_iff_ne.1 ht
            rw [HS.out, ← hz] at h3
            exact h3 rfl
        go_wp2_with fail
        go_roundw
        case rel => exact ⟨j + 1, by omega, by go_num, HE.out, trivial⟩
        case measure => simp [intOf]; omega
    · have HE : Hid (b = false) := Lib.hid (by
        rw [← HB.out]
        refine decide_eq_false fun hm => HNO.out c ?_ rfl
        rwa [List.take_of_length_le (by rw [← HZ.out]; omega)])
      go_wp2_with fail
      go_ret
      exact ⟨ret_bool HE.out.symm, HW.out⟩

set_option maxHeartbeats 1000000 in
theorem rfield_true {k z x lo hi : Int} {c : UInt8} (h1 : 1 ≤ k) (h2 : k ≤ 14) (hz : (c.toNat : Int) = z) (hf : FldOk (useL k) c x lo hi) (w : World) : Calls Try.prog 32 #[.int .i64 k, .int .u8 z, .int .i64 x, .int .i64 lo, .int .i64 hi] w fun e w' => e = .returned (.bool true) ∧ Below w.heap.size w w' := by
  obtain ⟨b, hb⟩ : ∃ b, decide (c ∈ useL k) = b := ⟨_, rfl⟩
  have hfb := hf.b hb
  cases b with
  | true =>
    obtain ⟨g1, g2⟩ := hfb.1 rfl
    have d1 : decide (lo ≤ x) = true := decide_eq_true g1
    have d2 : decide (x ≤ hi) = true := decide_eq_true g2
    clear hf hfb
    go_enter Try.func32, Try.ntmps32
    go_wp2_with fail
    refine (ruse_any h1 h2 hz hb _).mono ?_
    rintro e w' ⟨rfl, hb1⟩
    have HW := Lib.hid hb1
    clear hb hb1
    go_wp2_with fail
    go_ret
    exact ⟨rfl, HW.out⟩
  | false =>
    obtain rfl := hfb.2 rfl
    clear hf hfb
    go_enter Try.func32, Try.ntmps32
    go_wp2_with fail
    refine (ruse_any h1 h2 hz hb _).mono ?_
    rintro e w' ⟨rfl, hb1⟩
    have HW := Lib.hid hb1
    clear hb hb1
    go_wp2_with fail
    go_ret
    exact ⟨rfl, HW.out⟩

set_option maxRecDepth 100000 in
set_option maxHeartbeats 8000000 in
theorem rvalidF {x : Fc} (hv : Vld x) (w : World) : Calls Try.prog 16 #[x.agg] w fun e w' => e = .returned (.bool true) ∧ Below w.heap.size w w' := by
  have HV := Lib.hid hv
  obtain ⟨hi1, hi2⟩ := hv.i
  obtain ⟨hn1, hn2⟩ := hv.n
  obtain ⟨hv1, hv2⟩ := hv.v
  obtain ⟨hp1, hp2⟩ := hv.p
  obtain ⟨hk1, hk2⟩ := hv.k
  obtain ⟨hf0, hft, ht1⟩ := hv.sp
  have d0 : decide (x.i < 0) = false := decide_eq_false (by omega)
  have d1 : decide (6 ≤ x.i) = false := decide_eq_false (by omega)
  have d2 : decide (x.n < 1) = false := decide_eq_false (by omega)
  have d3 : decide (999 < x.n) = false := decide_eq_false (by omega)
  have d4 : decide (x.v < 1) = false := decide_eq_false (by omega)
  have d5 : decide (99 < x.v) = false := decide_eq_false (by omega)
  have d6 : decide (x.p < 1) = false := decide_eq_false (by omega)
  have d7 : decide (99 < x.p) = false := decide_eq_false (by omega)
  have d8 : decide (x.f < 0) = false := decide_eq_false (by omega)
  have d9 : decide (x.t ≤ x.f) = false := decide_eq_false (by omega)
  have d10 : decide (73049 < x.t) = false := decide_eq_false (by omega)
  have hue := useS_full hk1 hk2
  clear hv
  dsimp only [Fc.agg]
  go_enter Try.func16, Try.ntmps16
  go_wp2_with fail
  refine (ruses_any x.k _ hk1 hk2).mono ?_
  rintro e w1 ⟨rfl, hb1⟩
  have hrow0 := heap_alloc_new w (.cells x.cells.toArray 40)
  have hbA := (Below.refl w.heap.size w).alloc (Nat.le_refl _) (.cells x.cells.toArray 40)
  have hrow := (hb1.block w.heap.size (by simp)).trans hrow0
  have hb := hbA.trans (hb1.mono (by simp))
  have hbl : w.heap.size < w1.heap.size := (Array.getElem?_eq_some_iff.1 hrow).1
  clear hb1 hbA hrow0
  obtain ⟨_, _, _, _, c4, c5, c6, c7, c8, c9, c10, c11, c12, c13⟩ := fcAt_row hrow
  rw [Nat.zero_add] at c4 c5 c6 c7 c8 c9 c10 c11 c12 c13
  have hw1 : IntKind.i64.wrap (x.t - x.f) = x.t - x.f := IntWalk.i64_in _ (by omega)
  have Q4 := Lib.hid HV.out.q4
  have Q1 := Lib.hid HV.out.q1
  have Q2 := Lib.hid HV.out.q2
  have hkk : x.k = 4 ∨ x.k = 11 ∨ x.k = 12 ∨ x.k = 10 ∨ x.k = 14 ∨ (x.k ≠ 4 ∧ x.k ≠ 11 ∧ x.k ≠ 12 ∧ x.k ≠ 10 ∧ x.k ≠ 14) := by omega
  clear hi1 hi2 hn1 hn2 hv1 hv2 hp1 hp2 d0 d1 d2 d3 d4 d5 d6 d7
  rcases hkk with hkk | hkk | hkk | hkk | hkk | hkk
  · have e4 : (x.k == 4) = true := beq_iff_eq.2 hkk
    have e11 : (x.k == 11) = false := beq_eq_false_iff_ne.2 (by omega)
    have e12 : (x.k == 12) = false := beq_eq_false_iff_ne.2 (by omega)
    have e10 : (x.k == 10) = false := beq_eq_false_iff_ne.2 (by omega)
    have e14 : (x.k == 14) = false := beq_eq_false_iff_ne.2 (by omega)
    have q : (x.e == x.s) = false := beq_eq_false_iff_ne.2 fun e => Q4.out hkk e.symm
    clear hkk
    go_wp2_with fail
    clear c4 c5 c6 c7 c8 c9 c10 c11 c12 c13
    have HK := Lib.hid (And.intro hk1 hk2)
    clear hk1 hk2
    refine (rfield_true (c := 83) HK.out.1 HK.out.2 rfl HV.out.s _).mono ?_
    rintro e v0 ⟨rfl, hx0⟩
    have row0 := (hx0.block w.heap.size hbl).trans hrow
    have hb0' := hb.trans (hx0.mono hb.size)
    have bl0 : w.heap.size < v0.heap.size := (Array.getElem?_eq_some_iff.1 row0).1
    clear hx0 hrow hb hbl
    obtain ⟨_, _, _, _, _, _, _, _, _, k9, k10, k11, k12, k13⟩ := fcAt_row row0
    rw [Nat.zero_add] at k9 k10 k11 k12 k13
    go_wp2_with fail
    clear k9 k10 k11 k12 k13
    refine (rfield_true (c := 84) HK.out.1 HK.out.2 rfl HV.out.e _).mono ?_
    rintro e v1 ⟨rfl, hx1⟩
    have row1 := (hx1.block w.heap.size bl0).trans row0
    have hb1' := hb0'.trans (hx1.mono hb0'.size)
    have bl1 : w.heap.size < v1.heap.size := (Array.getElem?_eq_some_iff.1 row1).1
    clear hx1 row0 hb0' bl0
    obtain ⟨_, _, _, _, _, _, _, _, _, k9, k10, k11, k12, k13⟩ := fcAt_row row1
    rw [Nat.zero_add] at k9 k10 k11 k12 k13
    go_wp2_with fail
    clear k9 k10 k11 k12 k13
    refine (rfield_true (c := 72) HK.out.1 HK.out.2 rfl HV.out.h _).mono ?_
    rintro e v2 ⟨rfl, hx2⟩
    have row2 := (hx2.block w.heap.size bl1).trans row1
    have hb2' := hb1'.trans (hx2.mono hb1'.size)
    have bl2 : w.heap.size < v2.heap.size := (Array.getElem?_eq_some_iff.1 row2).1
    clear hx2 row1 hb1' bl1
    obtain ⟨_, _, _, _, _, _, _, _, _, k9, k10, k11, k12, k13⟩ := fcAt_row row2
    rw [Nat.zero_add] at k9 k10 k11 k12 k13
    go_wp2_with fail
    clear k9 k10 k11 k12 k13
    refine (rfield_true (c := 67) HK.out.1 HK.out.2 rfl HV.out.c _).mono ?_
    rintro e v3 ⟨rfl, hx3⟩
    have row3 := (hx3.block w.heap.size bl2).trans row2
    have hb3' := hb2'.trans (hx3.mono hb2'.size)
    have bl3 : w.heap.size < v3.heap.size := (Array.getElem?_eq_some_iff.1 row3).1
    clear hx3 row2 hb2' bl2
    obtain ⟨_, _, _, _, _, _, _, _, _, k9, k10, k11, k12, k13⟩ := fcAt_row row3
    rw [Nat.zero_add] at k9 k10 k11 k12 k13
    go_wp2_with fail
    clear k9 k10 k11 k12 k13
    refine (rfield_true (c := 65) HK.out.1 HK.out.2 rfl HV.out.a _).mono ?_
    rintro e v4 ⟨rfl, hx4⟩
    have row4 := (hx4.block w.heap.size bl3).trans row3
    have hb4' := hb3'.trans (hx4.mono hb3'.size)
    have bl4 : w.heap.size < v4.heap.size := (Array.getElem?_eq_some_iff.1 row4).1
    clear hx4 row3 hb3' bl3
    obtain ⟨_, _, _, _, _, _, _, _, _, k9, k10, k11, k12, k13⟩ := fcAt_row row4
    rw [Nat.zero_add] at k9 k10 k11 k12 k13
    go_wp2_with fail
    clear k9 k10 k11 k12 k13
    refine (rfield_true (c := 82) HK.out.1 HK.out.2 rfl HV.out.r _).mono ?_
    rintro e v5 ⟨rfl, hx5⟩
    have row5 := (hx5.block w.heap.size bl4).trans row4
    have hb5' := hb4'.trans (hx5.mono hb4'.size)
    have bl5 : w.heap.size < v5.heap.size := (Array.getElem?_eq_some_iff.1 row5).1
    clear hx5 row4 hb4' bl4
    go_wp2_with fail
    go_ret
    exact ⟨rfl, hb5'⟩
  · have e4 : (x.k == 4) = false := beq_eq_false_iff_ne.2 (by omega)
    have e11 : (x.k == 11) = true := beq_iff_eq.2 hkk
    have e12 : (x.k == 12) = false := beq_eq_false_iff_ne.2 (by omega)
    have e10 : (x.k == 10) = false := beq_eq_false_iff_ne.2 (by omega)
    have e14 : (x.k == 14) = false := beq_eq_false_iff_ne.2 (by omega)
    have q : (x.t - x.f != 1) = false := by have := Q1.out (.inl hkk); simp; omega
    clear hkk
    go_wp2_with fail
    clear c4 c5 c6 c7 c8 c9 c10 c11 c12 c13
    have HK := Lib.hid (And.intro hk1 hk2)
    clear hk1 hk2
    refine (rfield_true (c := 83) HK.out.1 HK.out.2 rfl HV.out.s _).mono ?_
    rintro e v0 ⟨rfl, hx0⟩
    have row0 := (hx0.block w.heap.size hbl).trans hrow
    have hb0' := hb.trans (hx0.mono hb.size)
    have bl0 : w.heap.size < v0.heap.size := (Array.getElem?_eq_some_iff.1 row0).1
    clear hx0 hrow hb hbl
    obtain ⟨_, _, _, _, _, _, _, _, _, k9, k10, k11, k12, k13⟩ := fcAt_row row0
    rw [Nat.zero_add] at k9 k10 k11 k12 k13
    go_wp2_with fail
    clear k9 k10 k11 k12 k13
    refine (rfield_true (c := 84) HK.out.1 HK.out.2 rfl HV.out.e _).mono ?_
    rintro e v1 ⟨rfl, hx1⟩
    have row1 := (hx1.block w.heap.size bl0).trans row0
    have hb1' := hb0'.trans (hx1.mono hb0'.size)
    have bl1 : w.heap.size < v1.heap.size := (Array.getElem?_eq_some_iff.1 row1).1
    clear hx1 row0 hb0' bl0
    obtain ⟨_, _, _, _, _, _, _, _, _, k9, k10, k11, k12, k13⟩ := fcAt_row row1
    rw [Nat.zero_add] at k9 k10 k11 k12 k13
    go_wp2_with fail
    clear k9 k10 k11 k12 k13
    refine (rfield_true (c := 72) HK.out.1 HK.out.2 rfl HV.out.h _).mono ?_
    rintro e v2 ⟨rfl, hx2⟩
    have row2 := (hx2.block w.heap.size bl1).trans row1
    have hb2' := hb1'.trans (hx2.mono hb1'.size)
    have bl2 : w.heap.size < v2.heap.size := (Array.getElem?_eq_some_iff.1 row2).1
    clear hx2 row1 hb1' bl1
    obtain ⟨_, _, _, _, _, _, _, _, _, k9, k10, k11, k12, k13⟩ := fcAt_row row2
    rw [Nat.zero_add] at k9 k10 k11 k12 k13
    go_wp2_with fail
    clear k9 k10 k11 k12 k13
    refine (rfield_true (c := 67) HK.out.1 HK.out.2 rfl HV.out.c _).mono ?_
    rintro e v3 ⟨rfl, hx3⟩
    have row3 := (hx3.block w.heap.size bl2).trans row2
    have hb3' := hb2'.trans (hx3.mono hb2'.size)
    have bl3 : w.heap.size < v3.heap.size := (Array.getElem?_eq_some_iff.1 row3).1
    clear hx3 row2 hb2' bl2
    obtain ⟨_, _, _, _, _, _, _, _, _, k9, k10, k11, k12, k13⟩ := fcAt_row row3
    rw [Nat.zero_add] at k9 k10 k11 k12 k13
    go_wp2_with fail
    clear k9 k10 k11 k12 k13
    refine (rfield_true (c := 65) HK.out.1 HK.out.2 rfl HV.out.a _).mono ?_
    rintro e v4 ⟨rfl, hx4⟩
    have row4 := (hx4.block w.heap.size bl3).trans row3
    have hb4' := hb3'.trans (hx4.mono hb3'.size)
    have bl4 : w.heap.size < v4.heap.size := (Array.getElem?_eq_some_iff.1 row4).1
    clear hx4 row3 hb3' bl3
    obtain ⟨_, _, _, _, _, _, _, _, _, k9, k10, k11, k12, k13⟩ := fcAt_row row4
    rw [Nat.zero_add] at k9 k10 k11 k12 k13
    go_wp2_with fail
    clear k9 k10 k11 k12 k13
    refine (rfield_true (c := 82) HK.out.1 HK.out.2 rfl HV.out.r _).mono ?_
    rintro e v5 ⟨rfl, hx5⟩
    have row5 := (hx5.block w.heap.size bl4).trans row4
    have hb5' := hb4'.trans (hx5.mono hb4'.size)
    have bl5 : w.heap.size < v5.heap.size := (Array.getElem?_eq_some_iff.1 row5).1
    clear hx5 row4 hb4' bl4
    go_wp2_with fail
    go_ret
    exact ⟨rfl, hb5'⟩
  · have e4 : (x.k == 4) = false := beq_eq_false_iff_ne.2 (by omega)
    have e11 : (x.k == 11) = false := beq_eq_false_iff_ne.2 (by omega)
    have e12 : (x.k == 12) = true := beq_iff_eq.2 hkk
    have e10 : (x.k == 10) = false := beq_eq_false_iff_ne.2 (by omega)
    have e14 : (x.k == 14) = false := beq_eq_false_iff_ne.2 (by omega)
    have q : (x.t - x.f != 1) = false := by have := Q1.out (.inr hkk); simp; omega
    clear hkk
    go_wp2_with fail
    clear c4 c5 c6 c7 c8 c9 c10 c11 c12 c13
    have HK := Lib.hid (And.intro hk1 hk2)
    clear hk1 hk2
    refine (rfield_true (c := 83) HK.out.1 HK.out.2 rfl HV.out.s _).mono ?_
    rintro e v0 ⟨rfl, hx0⟩
    have row0 := (hx0.block w.heap.size hbl).trans hrow
    have hb0' := hb.trans (hx0.mono hb.size)
    have bl0 : w.heap.size < v0.heap.size := (Array.getElem?_eq_some_iff.1 row0).1
    clear hx0 hrow hb hbl
    obtain ⟨_, _, _, _, _, _, _, _, _, k9, k10, k11, k12, k13⟩ := fcAt_row row0
    rw [Nat.zero_add] at k9 k10 k11 k12 k13
    go_wp2_with fail
    clear k9 k10 k11 k12 k13
    refine (rfield_true (c := 84) HK.out.1 HK.out.2 rfl HV.out.e _).mono ?_
    rintro e v1 ⟨rfl, hx1⟩
    have row1 := (hx1.block w.heap.size bl0).trans row0
    have hb1' := hb0'.trans (hx1.mono hb0'.size)
    have bl1 : w.heap.size < v1.heap.size := (Array.getElem?_eq_some_iff.1 row1).1
    clear hx1 row0 hb0' bl0
    obtain ⟨_, _, _, _, _, _, _, _, _, k9, k10, k11, k12, k13⟩ := fcAt_row row1
    rw [Nat.zero_add] at k9 k10 k11 k12 k13
    go_wp2_with fail
    clear k9 k10 k11 k12 k13
    refine (rfield_true (c := 72) HK.out.1 HK.out.2 rfl HV.out.h _).mono ?_
    rintro e v2 ⟨rfl, hx2⟩
    have row2 := (hx2.block w.heap.size bl1).trans row1
    have hb2' := hb1'.trans (hx2.mono hb1'.size)
    have bl2 : w.heap.size < v2.heap.size := (Array.getElem?_eq_some_iff.1 row2).1
    clear hx2 row1 hb1' bl1
    obtain ⟨_, _, _, _, _, _, _, _, _, k9, k10, k11, k12, k13⟩ := fcAt_row row2
    rw [Nat.zero_add] at k9 k10 k11 k12 k13
    go_wp2_with fail
    clear k9 k10 k11 k12 k13
    refine (rfield_true (c := 67) HK.out.1 HK.out.2 rfl HV.out.c _).mono ?_
    rintro e v3 ⟨rfl, hx3⟩
    have row3 := (hx3.block w.heap.size bl2).trans row2
    have hb3' := hb2'.trans (hx3.mono hb2'.size)
    have bl3 : w.heap.size < v3.heap.size := (Array.getElem?_eq_some_iff.1 row3).1
    clear hx3 row2 hb2' bl2
    obtain ⟨_, _, _, _, _, _, _, _, _, k9, k10, k11, k12, k13⟩ := fcAt_row row3
    rw [Nat.zero_add] at k9 k10 k11 k12 k13
    go_wp2_with fail
    clear k9 k10 k11 k12 k13
    refine (rfield_true (c := 65) HK.out.1 HK.out.2 rfl HV.out.a _).mono ?_
    rintro e v4 ⟨rfl, hx4⟩
    have row4 := (hx4.block w.heap.size bl3).trans row3
    have hb4' := hb3'.trans (hx4.mono hb3'.size)
    have bl4 : w.heap.size < v4.heap.size := (Array.getElem?_eq_some_iff.1 row4).1
    clear hx4 row3 hb3' bl3
    obtain ⟨_, _, _, _, _, _, _, _, _, k9, k10, k11, k12, k13⟩ := fcAt_row row4
    rw [Nat.zero_add] at k9 k10 k11 k12 k13
    go_wp2_with fail
    clear k9 k10 k11 k12 k13
    refine (rfield_true (c := 82) HK.out.1 HK.out.2 rfl HV.out.r _).mono ?_
    rintro e v5 ⟨rfl, hx5⟩
    have row5 := (hx5.block w.heap.size bl4).trans row4
    have hb5' := hb4'.trans (hx5.mono hb4'.size)
    have bl5 : w.heap.size < v5.heap.size := (Array.getElem?_eq_some_iff.1 row5).1
    clear hx5 row4 hb4' bl4
    go_wp2_with fail
    go_ret
    exact ⟨rfl, hb5'⟩
  · have e4 : (x.k == 4) = false := beq_eq_false_iff_ne.2 (by omega)
    have e11 : (x.k == 11) = false := beq_eq_false_iff_ne.2 (by omega)
    have e12 : (x.k == 12) = false := beq_eq_false_iff_ne.2 (by omega)
    have e10 : (x.k == 10) = true := beq_iff_eq.2 hkk
    have e14 : (x.k == 14) = false := beq_eq_false_iff_ne.2 (by omega)
    have q : (x.r == x.p) = false := beq_eq_false_iff_ne.2 fun e => Q2.out (.inl hkk) e
    clear hkk
    go_wp2_with fail
    clear c4 c5 c6 c7 c8 c9 c10 c11 c12 c13
    have HK := Lib.hid (And.intro hk1 hk2)
    clear hk1 hk2
    refine (rfield_true (c := 83) HK.out.1 HK.out.2 rfl HV.out.s _).mono ?_
    rintro e v0 ⟨rfl, hx0⟩
    have row0 := (hx0.block w.heap.size hbl).trans hrow
    have hb0' := hb.trans (hx0.mono hb.size)
    have bl0 : w.heap.size < v0.heap.size := (Array.getElem?_eq_some_iff.1 row0).1
    clear hx0 hrow hb hbl
    obtain ⟨_, _, _, _, _, _, _, _, _, k9, k10, k11, k12, k13⟩ := fcAt_row row0
    rw [Nat.zero_add] at k9 k10 k11 k12 k13
    go_wp2_with fail
    clear k9 k10 k11 k12 k13
    refine (rfield_true (c := 84) HK.out.1 HK.out.2 rfl HV.out.e _).mono ?_
    rintro e v1 ⟨rfl, hx1⟩
    have row1 := (hx1.block w.heap.size bl0).trans row0
    have hb1' := hb0'.trans (hx1.mono hb0'.size)
    have bl1 : w.heap.size < v1.heap.size := (Array.getElem?_eq_some_iff.1 row1).1
    clear hx1 row0 hb0' bl0
    obtain ⟨_, _, _, _, _, _, _, _, _, k9, k10, k11, k12, k13⟩ := fcAt_row row1
    rw [Nat.zero_add] at k9 k10 k11 k12 k13
    go_wp2_with fail
    clear k9 k10 k11 k12 k13
    refine (rfield_true (c := 72) HK.out.1 HK.out.2 rfl HV.out.h _).mono ?_
    rintro e v2 ⟨rfl, hx2⟩
    have row2 := (hx2.block w.heap.size bl1).trans row1
    have hb2' := hb1'.trans (hx2.mono hb1'.size)
    have bl2 : w.heap.size < v2.heap.size := (Array.getElem?_eq_some_iff.1 row2).1
    clear hx2 row1 hb1' bl1
    obtain ⟨_, _, _, _, _, _, _, _, _, k9, k10, k11, k12, k13⟩ := fcAt_row row2
    rw [Nat.zero_add] at k9 k10 k11 k12 k13
    go_wp2_with fail
    clear k9 k10 k11 k12 k13
    refine (rfield_true (c := 67) HK.out.1 HK.out.2 rfl HV.out.c _).mono ?_
    rintro e v3 ⟨rfl, hx3⟩
    have row3 := (hx3.block w.heap.size bl2).trans row2
    have hb3' := hb2'.trans (hx3.mono hb2'.size)
    have bl3 : w.heap.size < v3.heap.size := (Array.getElem?_eq_some_iff.1 row3).1
    clear hx3 row2 hb2' bl2
    obtain ⟨_, _, _, _, _, _, _, _, _, k9, k10, k11, k12, k13⟩ := fcAt_row row3
    rw [Nat.zero_add] at k9 k10 k11 k12 k13
    go_wp2_with fail
    clear k9 k10 k11 k12 k13
    refine (rfield_true (c := 65) HK.out.1 HK.out.2 rfl HV.out.a _).mono ?_
    rintro e v4 ⟨rfl, hx4⟩
    have row4 := (hx4.block w.heap.size bl3).trans row3
    have hb4' := hb3'.trans (hx4.mono hb3'.size)
    have bl4 : w.heap.size < v4.heap.size := (Array.getElem?_eq_some_iff.1 row4).1
    clear hx4 row3 hb3' bl3
    obtain ⟨_, _, _, _, _, _, _, _, _, k9, k10, k11, k12, k13⟩ := fcAt_row row4
    rw [Nat.zero_add] at k9 k10 k11 k12 k13
    go_wp2_with fail
    clear k9 k10 k11 k12 k13
    refine (rfield_true (c := 82) HK.out.1 HK.out.2 rfl HV.out.r _).mono ?_
    rintro e v5 ⟨rfl, hx5⟩
    have row5 := (hx5.block w.heap.size bl4).trans row4
    have hb5' := hb4'.trans (hx5.mono hb4'.size)
    have bl5 : w.heap.size < v5.heap.size := (Array.getElem?_eq_some_iff.1 row5).1
    clear hx5 row4 hb4' bl4
    go_wp2_with fail
    go_ret
    exact ⟨rfl, hb5'⟩
  · have e4 : (x.k == 4) = false := beq_eq_false_iff_ne.2 (by omega)
    have e11 : (x.k == 11) = false := beq_eq_false_iff_ne.2 (by omega)
    have e12 : (x.k == 12) = false := beq_eq_false_iff_ne.2 (by omega)
    have e10 : (x.k == 10) = false := beq_eq_false_iff_ne.2 (by omega)
    have e14 : (x.k == 14) = true := beq_iff_eq.2 hkk
    have q : (x.r == x.p) = false := beq_eq_false_iff_ne.2 fun e => Q2.out (.inr hkk) e
    clear hkk
    go_wp2_with fail
    clear c4 c5 c6 c7 c8 c9 c10 c11 c12 c13
    have HK := Lib.hid (And.intro hk1 hk2)
    clear hk1 hk2
    refine (rfield_true (c := 83) HK.out.1 HK.out.2 rfl HV.out.s _).mono ?_
    rintro e v0 ⟨rfl, hx0⟩
    have row0 := (hx0.block w.heap.size hbl).trans hrow
    have hb0' := hb.trans (hx0.mono hb.size)
    have bl0 : w.heap.size < v0.heap.size := (Array.getElem?_eq_some_iff.1 row0).1
    clear hx0 hrow hb hbl
    obtain ⟨_, _, _, _, _, _, _, _, _, k9, k10, k11, k12, k13⟩ := fcAt_row row0
    rw [Nat.zero_add] at k9 k10 k11 k12 k13
    go_wp2_with fail
    clear k9 k10 k11 k12 k13
    refine (rfield_true (c := 84) HK.out.1 HK.out.2 rfl HV.out.e _).mono ?_
    rintro e v1 ⟨rfl, hx1⟩
    have row1 := (hx1.block w.heap.size bl0).trans row0
    have hb1' := hb0'.trans (hx1.mono hb0'.size)
    have bl1 : w.heap.size < v1.heap.size := (Array.getElem?_eq_some_iff.1 row1).1
    clear hx1 row0 hb0' bl0
    obtain ⟨_, _, _, _, _, _, _, _, _, k9, k10, k11, k12, k13⟩ := fcAt_row row1
    rw [Nat.zero_add] at k9 k10 k11 k12 k13
    go_wp2_with fail
    clear k9 k10 k11 k12 k13
    refine (rfield_true (c := 72) HK.out.1 HK.out.2 rfl HV.out.h _).mono ?_
    rintro e v2 ⟨rfl, hx2⟩
    have row2 := (hx2.block w.heap.size bl1).trans row1
    have hb2' := hb1'.trans (hx2.mono hb1'.size)
    have bl2 : w.heap.size < v2.heap.size := (Array.getElem?_eq_some_iff.1 row2).1
    clear hx2 row1 hb1' bl1
    obtain ⟨_, _, _, _, _, _, _, _, _, k9, k10, k11, k12, k13⟩ := fcAt_row row2
    rw [Nat.zero_add] at k9 k10 k11 k12 k13
    go_wp2_with fail
    clear k9 k10 k11 k12 k13
    refine (rfield_true (c := 67) HK.out.1 HK.out.2 rfl HV.out.c _).mono ?_
    rintro e v3 ⟨rfl, hx3⟩
    have row3 := (hx3.block w.heap.size bl2).trans row2
    have hb3' := hb2'.trans (hx3.mono hb2'.size)
    have bl3 : w.heap.size < v3.heap.size := (Array.getElem?_eq_some_iff.1 row3).1
    clear hx3 row2 hb2' bl2
    obtain ⟨_, _, _, _, _, _, _, _, _, k9, k10, k11, k12, k13⟩ := fcAt_row row3
    rw [Nat.zero_add] at k9 k10 k11 k12 k13
    go_wp2_with fail
    clear k9 k10 k11 k12 k13
    refine (rfield_true (c := 65) HK.out.1 HK.out.2 rfl HV.out.a _).mono ?_
    rintro e v4 ⟨rfl, hx4⟩
    have row4 := (hx4.block w.heap.size bl3).trans row3
    have hb4' := hb3'.trans (hx4.mono hb3'.size)
    have bl4 : w.heap.size < v4.heap.size := (Array.getElem?_eq_some_iff.1 row4).1
    clear hx4 row3 hb3' bl3
    obtain ⟨_, _, _, _, _, _, _, _, _, k9, k10, k11, k12, k13⟩ := fcAt_row row4
    rw [Nat.zero_add] at k9 k10 k11 k12 k13
    go_wp2_with fail
    clear k9 k10 k11 k12 k13
    refine (rfield_true (c := 82) HK.out.1 HK.out.2 rfl HV.out.r _).mono ?_
    rintro e v5 ⟨rfl, hx5⟩
    have row5 := (hx5.block w.heap.size bl4).trans row4
    have hb5' := hb4'.trans (hx5.mono hb4'.size)
    have bl5 : w.heap.size < v5.heap.size := (Array.getElem?_eq_some_iff.1 row5).1
    clear hx5 row4 hb4' bl4
    go_wp2_with fail
    go_ret
    exact ⟨rfl, hb5'⟩
  · have e4 : (x.k == 4) = false := beq_eq_false_iff_ne.2 (by omega)
    have e11 : (x.k == 11) = false := beq_eq_false_iff_ne.2 (by omega)
    have e12 : (x.k == 12) = false := beq_eq_false_iff_ne.2 (by omega)
    have e10 : (x.k == 10) = false := beq_eq_false_iff_ne.2 (by omega)
    have e14 : (x.k == 14) = false := beq_eq_false_iff_ne.2 (by omega)
    clear hkk
    go_wp2_with fail
    clear c4 c5 c6 c7 c8 c9 c10 c11 c12 c13
    have HK := Lib.hid (And.intro hk1 hk2)
    clear hk1 hk2
    refine (rfield_true (c := 83) HK.out.1 HK.out.2 rfl HV.out.s _).mono ?_
    rintro e v0 ⟨rfl, hx0⟩
    have row0 := (hx0.block w.heap.size hbl).trans hrow
    have hb0' := hb.trans (hx0.mono hb.size)
    have bl0 : w.heap.size < v0.heap.size := (Array.getElem?_eq_some_iff.1 row0).1
    clear hx0 hrow hb hbl
    obtain ⟨_, _, _, _, _, _, _, _, _, k9, k10, k11, k12, k13⟩ := fcAt_row row0
    rw [Nat.zero_add] at k9 k10 k11 k12 k13
    go_wp2_with fail
    clear k9 k10 k11 k12 k13
    refine (rfield_true (c := 84) HK.out.1 HK.out.2 rfl HV.out.e _).mono ?_
    rintro e v1 ⟨rfl, hx1⟩
    have row1 := (hx1.block w.heap.size bl0).trans row0
    have hb1' := hb0'.trans (hx1.mono hb0'.size)
    have bl1 : w.heap.size < v1.heap.size := (Array.getElem?_eq_some_iff.1 row1).1
    clear hx1 row0 hb0' bl0
    obtain ⟨_, _, _, _, _, _, _, _, _, k9, k10, k11, k12, k13⟩ := fcAt_row row1
    rw [Nat.zero_add] at k9 k10 k11 k12 k13
    go_wp2_with fail
    clear k9 k10 k11 k12 k13
    refine (rfield_true (c := 72) HK.out.1 HK.out.2 rfl HV.out.h _).mono ?_
    rintro e v2 ⟨rfl, hx2⟩
    have row2 := (hx2.block w.heap.size bl1).trans row1
    have hb2' := hb1'.trans (hx2.mono hb1'.size)
    have bl2 : w.heap.size < v2.heap.size := (Array.getElem?_eq_some_iff.1 row2).1
    clear hx2 row1 hb1' bl1
    obtain ⟨_, _, _, _, _, _, _, _, _, k9, k10, k11, k12, k13⟩ := fcAt_row row2
    rw [Nat.zero_add] at k9 k10 k11 k12 k13
    go_wp2_with fail
    clear k9 k10 k11 k12 k13
    refine (rfield_true (c := 67) HK.out.1 HK.out.2 rfl HV.out.c _).mono ?_
    rintro e v3 ⟨rfl, hx3⟩
    have row3 := (hx3.block w.heap.size bl2).trans row2
    have hb3' := hb2'.trans (hx3.mono hb2'.size)
    have bl3 : w.heap.size < v3.heap.size := (Array.getElem?_eq_some_iff.1 row3).1
    clear hx3 row2 hb2' bl2
    obtain ⟨_, _, _, _, _, _, _, _, _, k9, k10, k11, k12, k13⟩ := fcAt_row row3
    rw [Nat.zero_add] at k9 k10 k11 k12 k13
    go_wp2_with fail
    clear k9 k10 k11 k12 k13
    refine (rfield_true (c := 65) HK.out.1 HK.out.2 rfl HV.out.a _).mono ?_
    rintro e v4 ⟨rfl, hx4⟩
    have row4 := (hx4.block w.heap.size bl3).trans row3
    have hb4' := hb3'.trans (hx4.mono hb3'.size)
    have bl4 : w.heap.size < v4.heap.size := (Array.getElem?_eq_some_iff.1 row4).1
    clear hx4 row3 hb3' bl3
    obtain ⟨_, _, _, _, _, _, _, _, _, k9, k10, k11, k12, k13⟩ := fcAt_row row4
    rw [Nat.zero_add] at k9 k10 k11 k12 k13
    go_wp2_with fail
    clear k9 k10 k11 k12 k13
    refine (rfield_true (c := 82) HK.out.1 HK.out.2 rfl HV.out.r _).mono ?_
    rintro e v5 ⟨rfl, hx5⟩
    have row5 := (hx5.block w.heap.size bl4).trans row4
    have hb5' := hb4'.trans (hx5.mono hb4'.size)
    have bl5 : w.heap.size < v5.heap.size := (Array.getElem?_eq_some_iff.1 row5).1
    clear hx5 row4 hb4' bl4
    go_wp2_with fail
    go_ret
    exact ⟨rfl, hb5'⟩
end Go.Proofs.Ytbogmkhoppffgaa
