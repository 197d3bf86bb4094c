/- The walk of ScheduleDifferenceExplains. -/
import Derived.Test.YtnjloghphkjcoaaScX
import Derived.BigQuiet
namespace Go.Proofs.Ytnjloghphkjcoaa
open Go.RowKit

set_option maxRecDepth 100000 in
set_option maxHeartbeats 4000000 in
theorem walkScheduleDifferenceExplains (A : Option Addr) (n c : Nat) (xs : List Int) (A' : Option Addr) (n' c' : Nat) (ys : List Int) (fr st a b : Int) (w : World) (h : Rd w w.heap.size 3 A n (ints xs)) (hok : ∀ x ∈ xs, I64 x) (_ : n ≤ maxLen)
    (h' : Rd w w.heap.size 3 A' n' (ints ys)) (hok' : ∀ x ∈ ys, I64 x) (_ : n' ≤ maxLen) (_ : I64 fr) (_ : I64 st) (_ : I64 a) (_ : I64 b) :
    Calls Try.prog 11 #[.slice A n c, .slice A' n' c', .int .i64 fr, .int .i64 st, .int .i64 a, .int .i64 b] w fun e w' => e = .returned (.bool true) ∧ Below w.heap.size w w' := by
  go_enter Try.func11, Try.ntmps11
  go_wp2_with fail
  refine (rows_any fr h hok).mono ?_
  rintro e w1 ⟨A1, c1, L, rfl, hown, hv1, ham1, hl12, -, hb1, -⟩
  have hd1 := Dr.ofOwn hown rfl
  have h1' := (h'.below hb1).mono hb1.size
  clear h h' hown
  go_wp2_with fail
  refine (rows_any fr h1' hok').mono ?_
  rintro e w2 ⟨A2, c2, K, rfl, hown, hv2, ham2, hk12, -, hb2, -⟩
  have hk2 := Dr.ofOwn hown rfl
  have hd2 := hd1.below hb2
  have hbb2 := hb1.trans (hb2.mono hb1.size)
  clear hd1 h1' hb1 hb2 hown
  generalize hLn : L.length = n1 at *
  generalize hKn : K.length = n2 at *
  clear hLn hKn
  have hm1 : n1 ≤ maxLen := by unfold maxLen; omega
  have hm2 : n2 ≤ maxLen := by unfold maxLen; omega
  go_wp2_with fail
  have hb_s := mod_bd st 3 (by omega)
  refine (mod_any st 3 _ (by omega) (by omega)).mono ?_
  rintro e wz ⟨rfl, rfl⟩
  generalize st % 3 = s at *
  go_wp2_with fail
  have hb_f := mod_bd fr 2000 (by omega)
  refine (mod_any fr 2000 _ (by omega) (by omega)).mono ?_
  rintro e wz ⟨rfl, rfl⟩
  generalize fr % 2000 = f at *
  go_wp2_with fail
  have hb_x := mod_bd a 40 (by omega)
  refine (mod_any a 40 _ (by omega) (by omega)).mono ?_
  rintro e wz ⟨rfl, rfl⟩
  generalize a % 40 = x at *
  go_wp2_with fail
  have hb_y := mod_bd b 40 (by omega)
  refine (mod_any b 40 _ (by omega) (by omega)).mono ?_
  rintro e wz ⟨rfl, rfl⟩
  generalize b % 40 = y at *
  go_wp2_with fail
  obtain ⟨M, S1, S2, e1, e2, e3, e4, e5, e6, hsum, hs1, hs2, hs3, hs4, hml, hab, hmem, hsrt⟩ := expl (s := s) (f := f + x) (t := f + x + y) hv1 hv2 ham1 ham2 (by omega) (by omega) (by omega) (by omega)
  have E1 := Lib.hid e1
  have E2 := Lib.hid e2
  have E3 := Lib.hid e3
  have E4 := Lib.hid e4
  have E5 := Lib.hid e5
  have E6 := Lib.hid e6
  have HSUM := Lib.hid hsum
  have HAB := Lib.hid hab
  have HMEM := Lib.hid hmem
  have HSRT := Lib.hid hsrt
  clear e1 e2 e3 e4 e5 e6 hsum hab hmem hsrt hv1 hv2 ham1 ham2
  refine (dif_any s (f + x) (f + x + y) hd2 hk2 hm1 hm2).mono ?_
  intro e w3 hr
  rw [E1.out, E2.out] at hr
  obtain ⟨A3, c3, rfl, hc3, hb3⟩ := hr
  have hd3 := hd2.below hb3
  have hk3 := hk2.below hb3
  have hbb3 := hbb2.trans (hb3.mono hbb2.size)
  clear hd2 hk2 hbb2 hb3
  generalize hMl : M.length = m at *
  have HML := Lib.hid hMl
  clear hMl
  go_wp2_with fail
  refine (dif_any s (f + x) (f + x + y) hd3 hd3 hm1 hm1).mono ?_
  intro e w4 hr
  rw [E3.out, E4.out] at hr
  obtain ⟨A4, c4, rfl, -, hb4⟩ := hr
  rw [List.length_nil]
  have hd4 := hd3.below hb4
  have hk4 := hk3.below hb4
  have hc4 := hc3.below hb4
  have hbb4 := hbb3.trans (hb4.mono hbb3.size)
  clear hd3 hk3 hbb3 hb4 hc3
  go_wp2_with fail
  refine (total_any s (f + x) (f + x + y) hd4 hm1 ⟨by omega, by omega⟩).mono ?_
  rintro e w5 ⟨rfl, hb5⟩
  rw [E5.out, pairI_mk]
  have hk5 := hk4.below hb5
  have hc5 := hc4.below hb5
  have hbb5 := hbb4.trans (hb5.mono hbb4.size)
  clear hd4 hk4 hbb4 hb5 hc4
  go_wp2_with fail
  refine (total_any s (f + x) (f + x + y) hk5 hm2 ⟨by omega, by omega⟩).mono ?_
  rintro e w6 ⟨rfl, hb6⟩
  rw [E6.out, pairI_mk]
  have hc6 := hc5.below hb6
  have hbb6 := hbb5.trans (hb6.mono hbb5.size)
  clear hk5 hbb5 hb6 hc5
  go_wp2_with fail
  refine (awake_any w6).mono ?_
  rintro e w7 ⟨rfl, hb7⟩
  have hc7 := (hc6.below hb7).1
  have hbb7 := hbb6.trans (hb7.mono hbb6.size)
  clear hbb6 hb7 hc6 E1 E2 E3 E4 E5 E6
  obtain ⟨F, hF⟩ : ∃ F, f + x = F := ⟨_, rfl⟩
  rw [hF] at HMEM ⊢
  have hF0 : 0 ≤ F := by omega
  have hF1 : F ≤ 2100 := by omega
  clear hF hb_f hb_x
  go_wp2_with fail
  go_loopw [26, 27] (fun v i wr => ∃ k : Nat, k ≤ m ∧ i = .int .i64 (k : Int) ∧ v = .int .i64 (sumC (M.take k)) ∧ Below w7.heap.size w7 wr) (fun _ i _ => m - (intOf i).toNat)
  case atStart => exact ⟨0, by omega, rfl, rfl, Below.refl _ _⟩
  case round =>
    obtain ⟨k, hk, rfl, rfl, hb⟩ := hrel
    have hab0 := sumC_take HAB.out k
    by_cases hlt : k < m
    · have hkl : k < M.length := by rw [HML.out]; exact hlt
      obtain ⟨⟨xm, xa⟩, hx⟩ : ∃ x, M[k]? = some x := ⟨_, List.getElem?_eq_getElem hkl⟩
      obtain ⟨_, g, o, rfl, hgb, d0, d1⟩ := ch_cells (hc7.below hb) hx
      have d0' : wr.cell? ⟨g, o + k * 2, none⟩ = some (.int .i64 xm) := d0
      have d1' : wr.cell? ⟨g, o + k * 2 + 1, none⟩ = some (.int .i64 xa) := d1
      have hmx := HMEM.out _ (List.mem_of_getElem? hx)
      have hax := HAB.out _ (List.mem_of_getElem? hx)
      simp only at hmx hax
      have hst := sumC_step hx
      have HST := Lib.hid hst
      have g0 : (xa == 0) = false := beq_eq_false_iff_ne.2 hmx.1
      have g1 : decide (xm < F) = false := by simp; omega
      have g2 : decide (F + y < xm) = false := by simp; omega
      have hlo : (0 : Int) ≤ (k : Int) := by omega
      have hhi : (k : Int) < (m : Int) := by omega
      generalize sumC (M.take k) = sv at *
      have hwv : IntKind.i64.wrap (sv + xa) = sv + xa := IntWalk.i64_in _ (by omega)
      clear d0 d1 hst
      by_cases hk0 : k = 0
      · have hd0 : decide (0 < k) = false := by simp [hk0]
        have hd1 : ¬ (0 : Int) < (k : Int) := by omega
        clear hx hk0
        go_wp2_with fail
        go_quiet (fail)
        go_wp2_with fail
        go_roundw
        case rel => exact ⟨k + 1, by omega, by go_num, by rw [HST.out], below_drewN hb nq⟩
        case measure => simp [intOf]; omega
      · have hd0 : decide (0 < k) = true := by simp; omega
        have hd1 : (0 : Int) < (k : Int) := by omega
        have hw1 : IntKind.i64.wrap ((k : Int) - 1) = (k : Int) - 1 := IntWalk.i64_in _ (by omega)
        have hlo1 : (0 : Int) ≤ (k : Int) - 1 := by omega
        have hhi1 : (k : Int) - 1 < (m : Int) := by omega
        have hk1 : 1 ≤ k := by omega
        have hk2 : (1 : Int) ≤ (k : Int) := by omega
        have hk3 : (k : Int) ≤ (m : Int) := by omega
        obtain ⟨⟨pm, pa⟩, hp⟩ : ∃ p, M[k - 1]? = some p := ⟨_, List.getElem?_eq_getElem (by omega)⟩
        obtain ⟨_, g', o', hA, hgb', q0, q1⟩ := ch_cells (hc7.below hb) hp
        injection hA with hA
        injection hA with hA1 hA2
        subst hA1 hA2
        have q0' : wr.cell? ⟨g, o + (k - 1) * 2, none⟩ = some (.int .i64 pm) := q0
        have hpx : pm < xm := by
          have h1 := (List.getElem?_eq_some_iff.1 hp)
          have h2 := (List.getElem?_eq_some_iff.1 hx)
          have := List.pairwise_iff_getElem.1 HSRT.out (k - 1) k h1.1 h2.1 (by omega)
          rw [h1.2, h2.2] at this
          exact this
        have g3 : decide (xm ≤ pm) = false := by simp; omega
        clear hx hp q0 q1 hk0
        go_wp2_with fail
        go_quiet (fail)
        go_wp2_with fail
        go_roundw
        case rel => exact ⟨k + 1, by omega, by go_num, by rw [HST.out], below_drewN hb nq⟩
        case measure => simp [intOf]; omega
    · obtain rfl : m = k := by omega
      have hfin : sumC (M.take m) = S2 - S1 := by rw [List.take_of_length_le (by rw [HML.out]; omega)]; exact HSUM.out
      rw [hfin]
      clear hab0
      go_wp2_with fail
      go_ret
      exact ⟨rfl, hbb7.trans (hb.mono hbb7.size)⟩
end Go.Proofs.Ytnjloghphkjcoaa
