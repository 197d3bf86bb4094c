/- within, valid and Check of the program. -/
import Derived.Test.YthncjohekjnjaaaTrA
import Derived.Test.YthncjohekjnjaaaTreatyQ
import Derived.Test.YthncjohekjnjaaaKept
namespace Go.Proofs.Ythncjohekjnjaaa
open Go.RowKit

theorem within_any (x h : Int) (w : World) : Calls Try.prog 40 #[.int .i64 x, .int .i64 h] w fun e w' => e = .returned (.bool (decide (0 ≤ x) && decide (x ≤ h))) ∧ w = w' := by
  by_cases h1 : 0 ≤ x
  · have d1 : decide (0 ≤ x) = true := decide_eq_true h1
    by_cases h2 : x ≤ h
    · have d2 : decide (x ≤ h) = true := decide_eq_true h2
      go_enter Try.func40, Try.ntmps40
      go_wp2
      go_ret
      exact ⟨ret_bool (by simp <;> omega), rfl⟩
    · have d2 : decide (x ≤ h) = false := decide_eq_false h2
      go_enter Try.func40, Try.ntmps40
      go_wp2
      go_ret
      exact ⟨ret_bool (by simp <;> omega), rfl⟩
  · have d1 : decide (0 ≤ x) = false := decide_eq_false h1
    go_enter Try.func40, Try.ntmps40
    go_wp2
    go_ret
    exact ⟨ret_bool (by simp <;> omega), rfl⟩
theorem okR_parts (r : Ru) : okR r = (isD r.f && (decide (0 ≤ r.d) && decide (r.d ≤ 73049)) && (decide (0 ≤ r.p) && decide (r.p ≤ 73049)) && (decide (0 ≤ r.b) && decide (r.b ≤ 100)) && okM (-1) r.m) := by
  unfold okR
  rw [Bool.eq_iff_iff]
  simp only [Bool.and_eq_true, decide_eq_true_eq, isD_iff]
  constructor
  · rintro ⟨h, h2⟩
    exact ⟨⟨⟨⟨by omega, by omega⟩, by omega⟩, by omega⟩, h2⟩
  · rintro ⟨⟨⟨⟨h1, h2⟩, h3⟩, h4⟩, h5⟩
    exact ⟨by omega, h5⟩

set_option maxRecDepth 100000 in
set_option maxHeartbeats 4000000 in
theorem tok_any (x : Rv) {w : World} (hm : Rd w w.heap.size 1 x.a x.r.m.length (ints x.r.m)) (hml : x.r.m.length ≤ maxLen) :
    Calls Try.prog 31 #[x.agg] w fun e w' => e = .returned (.bool (okR x.r)) ∧ Below w.heap.size w w' := by
  obtain ⟨⟨f, d, p, b, m⟩, a, c⟩ := x
  have hp := okR_parts ⟨f, d, p, b, m⟩
  dsimp only at hp
  have HP := Lib.hid hp
  clear hp
  dsimp only [Rv.agg] at hm hml ⊢
  unfold maxLen at hml
  go_enter Try.func31, Try.ntmps31
  go_upto_region 1 with (fail)
  have hrow := heap_alloc_new w (.cells #[.int .i64 f, .int .i64 d, .int .i64 p, .int .i64 b, .slice a m.length c] 27)
  have hbA := (Below.refl w.heap.size w).alloc (Nat.le_refl _) (.cells #[.int .i64 f, .int .i64 d, .int .i64 p, .int .i64 b, .slice a m.length c] 27)
  obtain ⟨W, hW⟩ : ∃ W, W = w.alloc (.cells #[.int .i64 f, .int .i64 d, .int .i64 p, .int .i64 b, .slice a m.length c] 27) := ⟨_, rfl⟩
  rw [← hW] at hrow hbA ⊢
  clear hW
  have x0 : W.cell? ⟨w.heap.size, 0, none⟩ = some (.int .i64 f) := by rw [cell_of_row W _ 0 _ _ _ hrow]; rfl
  have x1 : W.cell? ⟨w.heap.size, 1, none⟩ = some (.int .i64 d) := by rw [cell_of_row W _ 1 _ _ _ hrow]; rfl
  have x2 : W.cell? ⟨w.heap.size, 2, none⟩ = some (.int .i64 p) := by rw [cell_of_row W _ 2 _ _ _ hrow]; rfl
  have x3 : W.cell? ⟨w.heap.size, 3, none⟩ = some (.int .i64 b) := by rw [cell_of_row W _ 3 _ _ _ hrow]; rfl
  have x4 : W.cell? ⟨w.heap.size, 4, none⟩ = some (.slice a m.length c) := by rw [cell_of_row W _ 4 _ _ _ hrow]; rfl
  have hmW := (hm.below hbA).mono hbA.size
  clear hrow hm
  go_wp2_with fail
  refine (tvalid_any f _).mono ?_
  rintro e w' ⟨rfl, rfl⟩
  obtain ⟨t0, hd0⟩ : ∃ t, isD f = t := ⟨_, rfl⟩
  rw [hd0]
  have H0 := Lib.hid hd0
  clear hd0
  cases t0
  · go_wp2_with fail
    go_ret
    exact ⟨ret_bool (by rw [HP.out]; rw [H0.out]; simp), hbA⟩
  go_wp2_with fail
  refine (within_any d 73049 _).mono ?_
  rintro e w' ⟨rfl, rfl⟩
  obtain ⟨t1, hd1⟩ : ∃ t, (decide (0 ≤ d) && decide (d ≤ 73049)) = t := ⟨_, rfl⟩
  rw [hd1]
  have H1 := Lib.hid hd1
  clear hd1
  cases t1
  · go_wp2_with fail
    go_ret
    exact ⟨ret_bool (by rw [HP.out]; rw [H1.out]; simp), hbA⟩
  go_wp2_with fail
  refine (within_any p 73049 _).mono ?_
  rintro e w' ⟨rfl, rfl⟩
  obtain ⟨t2, hd2⟩ : ∃ t, (decide (0 ≤ p) && decide (p ≤ 73049)) = t := ⟨_, rfl⟩
  rw [hd2]
  have H2 := Lib.hid hd2
  clear hd2
  cases t2
  · go_wp2_with fail
    go_ret
    exact ⟨ret_bool (by rw [HP.out]; rw [H2.out]; simp), hbA⟩
  go_wp2_with fail
  refine (within_any b 100 _).mono ?_
  rintro e w' ⟨rfl, rfl⟩
  obtain ⟨t3, hd3⟩ : ∃ t, (decide (0 ≤ b) && decide (b ≤ 100)) = t := ⟨_, rfl⟩
  rw [hd3]
  have H3 := Lib.hid hd3
  clear hd3
  cases t3
  · go_wp2_with fail
    go_ret
    exact ⟨ret_bool (by rw [HP.out]; rw [H3.out]; simp), hbA⟩
  have HOK : Hid (okR ⟨f, d, p, b, m⟩ = okM (-1) m) := Lib.hid (by
    rw [HP.out]
    have h0 := H0.out
    have h1 := H1.out
    have h2 := H2.out
    have h3 := H3.out
    rw [h0, h1, h2, h3]
    rfl)
  clear HP H0 H1 H2 H3 x0 x1 x2 x3
  go_wp2_with fail
  go_loopw [30] (fun i wr => ∃ k : Nat, k ≤ m.length ∧ i = .int .i64 (k : Int) ∧ okM (-1) (m.take k) = true ∧ wr = W) (fun i _ => m.length - (intOf i).toNat)
  case atStart => exact ⟨0, by omega, rfl, rfl, rfl⟩
  case round =>
    obtain ⟨k, hk, rfl, hok, rfl⟩ := hrel
    have HK := Lib.hid hok
    clear hok
    by_cases hlt : k < m.length
    · obtain ⟨y, hy⟩ : ∃ y, m[k]? = some y := ⟨_, List.getElem?_eq_getElem hlt⟩
      obtain ⟨_, g, o, rfl, hgb, q0⟩ := hmW.int hy
      have hst := okM_take (b := -1) hy
      have HST := Lib.hid hst
      have hlo : (0 : Int) ≤ (k : Int) := by omega
      have hhi : (k : Int) < (m.length : Int) := by omega
      clear hst
      go_wp2_with fail
      refine (within_any y 5 _).mono ?_
      rintro e w' ⟨rfl, rfl⟩
      obtain ⟨t, ht⟩ : ∃ t, (decide (0 ≤ y) && decide (y ≤ 5)) = t := ⟨_, rfl⟩
      rw [ht]
      have HT := Lib.hid ht
      clear ht
      cases t
      · have hno : okM (-1) m = false := okM_cut (k := k + 1) (by
          rw [HST.out, HK.out, Bool.true_and, decide_eq_false_iff_not]
          have h1 := okM_ge _ _ HK.out
          have h2 := HT.out
          simp only [Bool.and_eq_false_iff, decide_eq_false_iff_not] at h2
          omega)
        have HNO := Lib.hid hno
        clear hno
        go_wp2_with fail
        go_ret
        exact ⟨ret_bool (by rw [HOK.out, HNO.out]), hbA⟩
      · have hy5 : 0 ≤ y ∧ y ≤ 5 := by have := HT.out; simpa using this
        by_cases hk0 : k = 0
        · subst hk0
          have hd0 : ¬ (0 : Int) < ((0 : Nat) : Int) := by omega
          have hT : okM (-1) (m.take (0 + 1)) = true := by
            rw [HST.out, HK.out, Bool.true_and, decide_eq_true_eq]
            exact ⟨by show (-1 : Int) < y; omega, hy5.2⟩
          have HTT := Lib.hid hT
          clear hT
          go_wp2_with fail
          go_roundw
          case rel => exact ⟨1, by omega, by go_num, HTT.out, trivial⟩
          case measure => simp [intOf]; omega
        · have hd0 : decide ((0 : Int) < (k : Int)) = true := decide_eq_true (by omega)
          have hd1 : (0 : Int) < (k : Int) := by omega
          have hw1 : IntKind.i64.wrap ((k : Int) - 1) = (k : Int) - 1 := IntWalk.i64_in _ (by omega)
          have hlo1 : (0 : Int) ≤ (k : Int) - 1 := by omega
          have hhi1 : (k : Int) - 1 < (m.length : Int) := by omega
          have hk1 : 1 ≤ k := by omega
          have hk2 : (1 : Int) ≤ (k : Int) := by omega
          have hk3 : (k : Int) ≤ (m.length : Int) := by omega
          obtain ⟨z, hz⟩ : ∃ z, m[k - 1]? = some z := ⟨_, List.getElem?_eq_getElem (by omega)⟩
          obtain ⟨_, g', o', hA, _, q1⟩ := hmW.int hz
          injection hA with hA
          injection hA with hA1 hA2
          subst hA1 hA2
          have hlm : lastM (-1) (m.take k) = z := by
            have := lastM_take (b := -1) hz
            rwa [show k - 1 + 1 = k by omega] at this
          have HLM := Lib.hid hlm
          clear hlm hy hz
          by_cases hyz : y ≤ z
          · have dyz : decide (y ≤ z) = true := decide_eq_true hyz
            have hno : okM (-1) m = false := okM_cut (k := k + 1) (by
              rw [HST.out, HK.out, Bool.true_and, decide_eq_false_iff_not, HLM.out]
              omega)
            have HNO := Lib.hid hno
            clear hno
            go_wp2_with fail
            go_ret
            exact ⟨ret_bool (by rw [HOK.out, HNO.out]), hbA⟩
          · have dyz : decide (y ≤ z) = false := decide_eq_false hyz
            have hT : okM (-1) (m.take (k + 1)) = true := by
              rw [HST.out, HK.out, Bool.true_and, decide_eq_true_eq, HLM.out]
              omega
            have HTT := Lib.hid hT
            clear hT
            go_wp2_with fail
            go_roundw
            case rel => exact ⟨k + 1, by omega, by go_num, HTT.out, trivial⟩
            case measure => simp [intOf]; omega
    · have hok : okM (-1) m = true := by
        have := HK.out
        rwa [List.take_of_length_le (by omega)] at this
      have HM := Lib.hid hok
      clear hok
      go_wp2_with fail
      go_ret
      exact ⟨ret_bool (by rw [HOK.out, HM.out]), hbA⟩
end Go.Proofs.Ythncjohekjnjaaa
