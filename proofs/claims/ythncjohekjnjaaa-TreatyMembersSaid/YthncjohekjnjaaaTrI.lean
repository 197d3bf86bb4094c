/- Check of the reference. -/
import Derived.Test.YthncjohekjnjaaaTrH
import Derived.Test.YthncjohekjnjaaaSpRefA
import Derived.Test.YthncjohekjnjaaaSpComb
namespace Go.Proofs.Ythncjohekjnjaaa
open Go.RowKit

theorem vday_to {n : Int} {v : Bool} (h : isD n = v) (w : World) : Calls Try.prog 23 #[.int .i64 n] w fun e w' => e = .returned (.bool v) ∧ w = w' := by
  rw [← h]
  exact vday_any n w

set_option maxRecDepth 100000 in
set_option maxHeartbeats 4000000 in
theorem rcheck_any {A : Option Addr} {n c : Nat} {X : List Rv} {w : World} (hX : Rus w w.heap.size A n X) (hn : n ≤ maxLen) (hml : ∀ x ∈ X, x.r.m.length ≤ maxLen) :
    Calls Try.prog 19 #[.slice A n c] w fun e w' => e = .returned (.int .i64 (chkT (X.map Rv.r))) ∧ Below w.heap.size w w' := by
  have hXl : (X.map Rv.r).length = n := by rw [List.length_map]; exact hX.2.1
  have HXL := Lib.hid hXl
  have HML := Lib.hid hml
  clear hml hXl
  unfold maxLen at hn
  by_cases h8 : 8 < n
  · have h8' : (8 : Int) < (n : Int) := by omega
    have hv : chkT (X.map Rv.r) = 7 := by unfold chkT; rw [if_pos (by rw [HXL.out]; exact h8)]
    have HV := Lib.hid hv
    clear hv
    go_enter Try.func19, Try.ntmps19
    go_wp2_with fail
    go_ret
    exact ⟨ret_int HV.out.symm, Below.refl _ _⟩
  have h8' : ¬ (8 : Int) < (n : Int) := by omega
  by_cases h0 : n = 0
  · subst h0
    have hv : chkT (X.map Rv.r) = 1 := by rw [List.eq_nil_of_length_eq_zero HXL.out]; rfl
    have HV := Lib.hid hv
    clear hv
    go_enter Try.func19, Try.ntmps19
    go_wp2_with fail
    go_ret
    exact ⟨ret_int HV.out.symm, Below.refl _ _⟩
  have h0' : ((n : Int) == 0) = false := beq_eq_false_iff_ne.2 (by omega)
  have h0'' : ¬ (n : Int) = 0 := by omega
  obtain ⟨y, hy⟩ : ∃ y, X[0]? = some y := ⟨_, List.getElem?_eq_getElem (by rw [hX.2.1]; omega)⟩
  obtain ⟨_, g0, o0, rfl, hg0, q0, _⟩ := rv_cells hX hy
  have q0' : w.cell? ⟨g0, o0, none⟩ = some (.int .i64 y.r.f) := by simpa using q0
  have hlo0 : (0 : Int) < (n : Int) := by omega
  have hX0 : ∃ T, X.map Rv.r = y.r :: T := by
    cases hXX : X with
    | nil => rw [hXX] at hy; simp at hy
    | cons a T => rw [hXX] at hy; simp at hy; exact ⟨T.map Rv.r, by rw [List.map_cons, hy]⟩
  obtain ⟨T, hT⟩ := hX0
  have hck : chkT (X.map Rv.r) = if y.r.f = 0 then if okT (-1) (X.map Rv.r) = true then 0 else 1 else 1 := by
    have h9 : ¬ 8 < (X.map Rv.r).length := by rw [HXL.out]; exact h8
    unfold chkT
    rw [if_neg h9, hT]
  have HCK := Lib.hid hck
  clear hy q0 hT hck
  by_cases hf0 : y.r.f = 0
  · have hf1 : (y.r.f == 0) = true := beq_iff_eq.2 hf0
    rw [hf0] at q0'
    have HC2 : Hid (chkT (X.map Rv.r) = if okT (-1) (X.map Rv.r) = true then 0 else 1) := Lib.hid (by rw [HCK.out, if_pos hf0])
    clear HCK hf0 hf1
    go_enter Try.func19, Try.ntmps19
    go_wp2_with fail
    go_loopw [3] (fun i wr => ∃ k : Nat, k ≤ n ∧ i = .int .i64 (k : Int) ∧ okT (-1) ((X.map Rv.r).take k) = true ∧ Below w.heap.size w wr) (fun i _ => n - (intOf i).toNat)
    case atStart => exact ⟨0, by omega, rfl, rfl, Below.refl _ _⟩
    case round =>
      obtain ⟨k, hk, rfl, hok, hb⟩ := hrel
      have HK := Lib.hid hok
      have hwz := hb.size
      clear hok q0'
      by_cases hlt : k < n
      · obtain ⟨x, hx⟩ : ∃ x, X[k]? = some x := ⟨_, List.getElem?_eq_getElem (by rw [hX.2.1]; exact hlt)⟩
        obtain ⟨_, g, o, hA, hgb, e0, e1, e2, e3, e4, hm⟩ := rv_cells (hX.below hb) hx
        injection hA with hA
        injection hA with hA1 hA2
        subst hA1 hA2
        have hml2 := HML.out x (List.mem_of_getElem? hx)
        unfold maxLen at hml2
        have hst := okT_take (b := -1) (show (X.map Rv.r)[k]? = some x.r by rw [List.getElem?_map, hx]; rfl)
        have HST : Hid (okT (-1) ((X.map Rv.r).take (k + 1)) = (okR x.r && decide (lastT (-1) ((X.map Rv.r).take k) < x.r.f))) := Lib.hid (by rw [hst, HK.out, Bool.true_and])
        have HBAD : Hid ((okR x.r && decide (lastT (-1) ((X.map Rv.r).take k) < x.r.f)) = false → chkT (X.map Rv.r) = 1) := Lib.hid fun hno => by
          rw [HC2.out, okT_cut (k := k + 1) (by rw [HST.out, hno])]
          rfl
        have HPX := Lib.hid (okR_parts x.r)
        have hlo : (0 : Int) ≤ (k : Int) := by omega
        have hhi : (k : Int) < (n : Int) := by omega
        clear hst
        go_upto_region 9 with (fail)
        have hrow := heap_alloc_new wr (.cells #[.int .i64 x.r.f, .int .i64 x.r.d, .int .i64 x.r.p, .int .i64 x.r.b, .slice x.a x.r.m.length x.c] 27)
        have hbx := (Below.refl wr.heap.size wr).alloc (Nat.le_refl _) (.cells #[.int .i64 x.r.f, .int .i64 x.r.d, .int .i64 x.r.p, .int .i64 x.r.b, .slice x.a x.r.m.length x.c] 27)
        obtain ⟨V, hV⟩ : ∃ V, V = wr.alloc (.cells #[.int .i64 x.r.f, .int .i64 x.r.d, .int .i64 x.r.p, .int .i64 x.r.b, .slice x.a x.r.m.length x.c] 27) := ⟨_, rfl⟩
        rw [← hV] at hrow hbx ⊢
        clear hV e0 e1 e2 e3 e4
        have hbV := hb.trans (hbx.mono hwz)
        have hzV := hbV.size
        have hboxl : wr.heap.size < V.heap.size := (Array.getElem?_eq_some_iff.1 hrow).1
        have hmV : Rd V V.heap.size 1 x.a x.r.m.length (ints x.r.m) := (hm.below (hbx.mono hwz)).mono hzV
        have x0 : V.cell? ⟨wr.heap.size, 0, none⟩ = some (.int .i64 x.r.f) := by rw [cell_of_row V _ 0 _ _ _ hrow]; rfl
        have x1 : V.cell? ⟨wr.heap.size, 1, none⟩ = some (.int .i64 x.r.d) := by rw [cell_of_row V _ 1 _ _ _ hrow]; rfl
        have x2 : V.cell? ⟨wr.heap.size, 2, none⟩ = some (.int .i64 x.r.p) := by rw [cell_of_row V _ 2 _ _ _ hrow]; rfl
        have x3 : V.cell? ⟨wr.heap.size, 3, none⟩ = some (.int .i64 x.r.b) := by rw [cell_of_row V _ 3 _ _ _ hrow]; rfl
        have x4 : V.cell? ⟨wr.heap.size, 4, none⟩ = some (.slice x.a x.r.m.length x.c) := by rw [cell_of_row V _ 4 _ _ _ hrow]; rfl
        clear hrow hm
        by_cases hk0 : k = 0
        · have hg0 : decide (0 < k) = false := decide_eq_false (by omega)
          have hlast : lastT (-1) ((X.map Rv.r).take k) = -1 := by rw [hk0]; rfl
          cases hd0 : isD x.r.f with
          | false =>
            have HV := Lib.hid hd0
            have HNO := Lib.hid (HBAD.out (by rw [HPX.out, hd0]; simp))
            go_quiet ((go_at_call 23; with_reducible exact quiet_left (vday_to HV.out _)))
            go_wp2_with fail
            go_ret
            exact ⟨ret_int HNO.out.symm, below_drewN hbV nq⟩
          | true =>
            have HD0 := Lib.hid hd0
            have HV := Lib.hid hd0
            have HLT : Hid (decide (lastT (-1) ((X.map Rv.r).take k) < x.r.f) = true) := Lib.hid (by
              have := (isD_iff _).1 hd0
              rw [hlast, decide_eq_true_eq]
              omega)
            clear hlast hx
            by_cases c0 : x.r.d < 0
            · have d0 : decide (x.r.d < 0) = true := decide_eq_true c0
              have HNO := Lib.hid (HBAD.out (by rw [HPX.out, show (decide (0 ≤ x.r.d) && decide (x.r.d ≤ 73049)) = false by simp only [Bool.and_eq_false_iff, decide_eq_false_iff_not]; omega]; simp))
              go_quiet ((go_at_call 23; with_reducible exact quiet_left (vday_to HV.out _)))
              go_wp2_with fail
              go_ret
              exact ⟨ret_int HNO.out.symm, below_drewN hbV nq⟩
            have d0 : decide (x.r.d < 0) = false := decide_eq_false c0
            by_cases c1 : 73049 < x.r.d
            · have d1 : decide (73049 < x.r.d) = true := decide_eq_true c1
              have HNO := Lib.hid (HBAD.out (by rw [HPX.out, show (decide (0 ≤ x.r.d) && decide (x.r.d ≤ 73049)) = false by simp only [Bool.and_eq_false_iff, decide_eq_false_iff_not]; omega]; simp))
              go_quiet ((go_at_call 23; with_reducible exact quiet_left (vday_to HV.out _)))
              go_wp2_with fail
              go_ret
              exact ⟨ret_int HNO.out.symm, below_drewN hbV nq⟩
            have d1 : decide (73049 < x.r.d) = false := decide_eq_false c1
            by_cases c2 : x.r.p < 0
            · have d2 : decide (x.r.p < 0) = true := decide_eq_true c2
              have HNO := Lib.hid (HBAD.out (by rw [HPX.out, show (decide (0 ≤ x.r.p) && decide (x.r.p ≤ 73049)) = false by simp only [Bool.and_eq_false_iff, decide_eq_false_iff_not]; omega]; simp))
              go_quiet ((go_at_call 23; with_reducible exact quiet_left (vday_to HV.out _)))
              go_wp2_with fail
              go_ret
              exact ⟨ret_int HNO.out.symm, below_drewN hbV nq⟩
            have d2 : decide (x.r.p < 0) = false := decide_eq_false c2
            by_cases c3 : 73049 < x.r.p
            · have d3 : decide (73049 < x.r.p) = true := decide_eq_true c3
              have HNO := Lib.hid (HBAD.out (by rw [HPX.out, show (decide (0 ≤ x.r.p) && decide (x.r.p ≤ 73049)) = false by simp only [Bool.and_eq_false_iff, decide_eq_false_iff_not]; omega]; simp))
              go_quiet ((go_at_call 23; with_reducible exact quiet_left (vday_to HV.out _)))
              go_wp2_with fail
              go_ret
              exact ⟨ret_int HNO.out.symm, below_drewN hbV nq⟩
            have d3 : decide (73049 < x.r.p) = false := decide_eq_false c3
            by_cases c4 : x.r.b < 0
            · have d4 : decide (x.r.b < 0) = true := decide_eq_true c4
              have HNO := Lib.hid (HBAD.out (by rw [HPX.out, show (decide (0 ≤ x.r.b) && decide (x.r.b ≤ 100)) = false by simp only [Bool.and_eq_false_iff, decide_eq_false_iff_not]; omega]; simp))
              go_quiet ((go_at_call 23; with_reducible exact quiet_left (vday_to HV.out _)))
              go_wp2_with fail
              go_ret
              exact ⟨ret_int HNO.out.symm, below_drewN hbV nq⟩
            have d4 : decide (x.r.b < 0) = false := decide_eq_false c4
            by_cases c5 : 100 < x.r.b
            · have d5 : decide (100 < x.r.b) = true := decide_eq_true c5
              have HNO := Lib.hid (HBAD.out (by rw [HPX.out, show (decide (0 ≤ x.r.b) && decide (x.r.b ≤ 100)) = false by simp only [Bool.and_eq_false_iff, decide_eq_false_iff_not]; omega]; simp))
              go_quiet ((go_at_call 23; with_reducible exact quiet_left (vday_to HV.out _)))
              go_wp2_with fail
              go_ret
              exact ⟨ret_int HNO.out.symm, below_drewN hbV nq⟩
            have d5 : decide (100 < x.r.b) = false := decide_eq_false c5
            have HRM : Hid ((okR x.r && decide (lastT (-1) ((X.map Rv.r).take k) < x.r.f)) = okM (-1) x.r.m) := Lib.hid (by
              rw [HPX.out, HD0.out, HLT.out, show (decide (0 ≤ x.r.d) && decide (x.r.d ≤ 73049)) = true by simp; omega, show (decide (0 ≤ x.r.p) && decide (x.r.p ≤ 73049)) = true by simp; omega, show (decide (0 ≤ x.r.b) && decide (x.r.b ≤ 100)) = true by simp; omega]
              simp)
            go_quiet ((go_at_call 23; with_reducible exact quiet_left (vday_to HV.out _)))
            go_wp2_with fail
            have hbQ := below_drewN hbV nq
            have hbQ2 := below_drewN (Below.refl V.heap.size V) nq
            obtain ⟨W2, hW2⟩ : ∃ W2, W2 = V.drewN nq := ⟨_, rfl⟩
            have x4' : W2.cell? ⟨wr.heap.size, 4, none⟩ = some (.slice x.a x.r.m.length x.c) := by rw [hW2]; exact x4
            have hmQ : Rd W2 W2.heap.size 1 x.a x.r.m.length (ints x.r.m) := by rw [hW2]; exact hmV
            have hbxl2 : wr.heap.size < W2.heap.size := by rw [hW2]; exact hboxl
            rw [← hW2] at hbQ ⊢
            obtain ⟨B, hBe⟩ : ∃ B, B = wr.heap.size := ⟨_, rfl⟩
            rw [← hBe] at x4' hbxl2 ⊢
            clear hBe hW2 hbQ2 x0 x1 x2 x3 x4 hmV c0 c1 c2 c3 c4 c5 d0 d1 d2 d3 d4 d5 hbV hbx HPX HD0 HLT hboxl hzV
            go_loopw [5] (fun i wn => ∃ j : Nat, j ≤ x.r.m.length ∧ i = .int .i64 (j : Int) ∧ okM (-1) (x.r.m.take j) = true ∧ Below W2.heap.size W2 wn) (fun i _ => x.r.m.length - (intOf i).toNat)
            case atStart => exact ⟨0, by omega, rfl, rfl, Below.refl _ _⟩
            case round =>
              obtain ⟨j, hj, rfl, hok, hbn⟩ := hrel
              have HJ := Lib.hid hok
              have hbT := hbQ.trans (hbn.mono hbQ.size)
              have b4 : wr.cell? ⟨B, 4, none⟩ = some (.slice x.a x.r.m.length x.c) := (hbn.cell (p := ⟨B, 4, none⟩) hbxl2).trans x4'
              clear hok
              by_cases hlt2 : j < x.r.m.length
              · obtain ⟨y, hy⟩ : ∃ y, x.r.m[j]? = some y := ⟨_, List.getElem?_eq_getElem hlt2⟩
                obtain ⟨_, g9, o9, hA9, hg9, q9⟩ := (hmQ.below hbn).int hy
                have hst2 := okM_take (b := -1) hy
                have HST2 : Hid (okM (-1) (x.r.m.take (j + 1)) = decide (lastM (-1) (x.r.m.take j) < y ∧ y ≤ 5)) := Lib.hid (by rw [hst2, HJ.out, Bool.true_and])
                have hge := okM_ge _ _ HJ.out
                have HBD2 : Hid (¬ (lastM (-1) (x.r.m.take j) < y ∧ y ≤ 5) → chkT (X.map Rv.r) = 1) := Lib.hid fun hno => HBAD.out (HRM.out.trans (okM_cut (k := j + 1) (by rw [HST2.out]; exact decide_eq_false hno)))
                rw [hA9] at b4
                have HA9 := Lib.hid hA9
                clear hA9
                have hlo9 : (0 : Int) ≤ (j : Int) := by omega
                have hhi9 : (j : Int) < (x.r.m.length : Int) := by omega
                clear hst2
                by_cases cy0 : y < 0
                · have dy0 : decide (y < 0) = true := decide_eq_true cy0
                  have HNO := Lib.hid (HBD2.out (by omega))
                  clear hge hy
                  go_wp2_with fail
                  go_quiet (fail)
                  go_wp2_with fail
                  go_ret
                  exact ⟨ret_int HNO.out.symm, below_drewN hbT nq⟩
                have dy0 : decide (y < 0) = false := decide_eq_false cy0
                by_cases cy1 : 6 ≤ y
                · have dy1 : decide (6 ≤ y) = true := decide_eq_true cy1
                  have HNO := Lib.hid (HBD2.out (by omega))
                  clear hge hy
                  go_wp2_with fail
                  go_quiet (fail)
                  go_wp2_with fail
                  go_ret
                  exact ⟨ret_int HNO.out.symm, below_drewN hbT nq⟩
                have dy1 : decide (6 ≤ y) = false := decide_eq_false cy1
                by_cases hj0 : j = 0
                · have hgj : decide (0 < j) = false := decide_eq_false (by omega)
                  have HGO : Hid (okM (-1) (x.r.m.take (j + 1)) = true) := Lib.hid (by
                    rw [HST2.out, decide_eq_true_eq, hj0]
                    exact ⟨by show (-1 : Int) < y; omega, by omega⟩)
                  clear hge hy hj0
                  go_wp2_with fail
                  go_quiet (fail)
                  go_wp2_with fail
                  go_roundw
                  case rel => exact ⟨j + 1, by omega, by go_num, HGO.out, below_drewN hbn nq⟩
                  case measure => simp [intOf]; omega
                · have hgj : decide (0 < j) = true := decide_eq_true (by omega)
                  have hwj : IntKind.i64.wrap ((j : Int) - 1) = (j : Int) - 1 := IntWalk.i64_in _ (by omega)
                  have hl1 : (0 : Int) ≤ (j : Int) - 1 := by omega
                  have hh1 : (j : Int) - 1 < (x.r.m.length : Int) := by omega
                  have hj1 : 1 ≤ j := by omega
                  have hj2 : (1 : Int) ≤ (j : Int) := by omega
                  have hj3 : (j : Int) ≤ (x.r.m.length : Int) := by omega
                  obtain ⟨z9, hz9⟩ : ∃ z, x.r.m[j - 1]? = some z := ⟨_, List.getElem?_eq_getElem (by omega)⟩
                  obtain ⟨_, g8, o8, hA8, _, q8⟩ := (hmQ.below hbn).int hz9
                  rw [HA9.out] at hA8
                  injection hA8 with hA8
                  injection hA8 with hA81 hA82
                  subst hA81 hA82
                  have hlm9 : lastM (-1) (x.r.m.take j) = z9 := by
                    have := lastM_take (b := -1) hz9
                    rwa [show j - 1 + 1 = j by omega] at this
                  have HLM9 := Lib.hid hlm9
                  clear hlm9 hz9 hge hy
                  by_cases hyz : y ≤ z9
                  · have dyz : decide (y ≤ z9) = true := decide_eq_true hyz
                    have HNO := Lib.hid (HBD2.out (by rw [HLM9.out]; omega))
                    go_wp2_with fail
                    go_quiet (fail)
                    go_wp2_with fail
                    go_ret
                    exact ⟨ret_int HNO.out.symm, below_drewN hbT nq⟩
                  · have dyz : decide (y ≤ z9) = false := decide_eq_false hyz
                    have HGO : Hid (okM (-1) (x.r.m.take (j + 1)) = true) := Lib.hid (by
                      rw [HST2.out, decide_eq_true_eq, HLM9.out]
                      omega)
                    go_wp2_with fail
                    go_quiet (fail)
                    go_wp2_with fail
                    go_roundw
                    case rel => exact ⟨j + 1, by omega, by go_num, HGO.out, below_drewN hbn nq⟩
                    case measure => simp [intOf]; omega
              · have HGO : Hid (okT (-1) ((X.map Rv.r).take (k + 1)) = true) := Lib.hid (by
                  have := HJ.out
                  rw [List.take_of_length_le (by omega)] at this
                  rw [HST.out, HRM.out, this])
                go_wp2_with fail
                go_roundw
                case rel => exact ⟨k + 1, by omega, by go_num, HGO.out, hbT⟩
                case measure => simp [intOf]; omega
        · have hg0 : decide (0 < k) = true := decide_eq_true (by omega)
          have hwk : IntKind.i64.wrap ((k : Int) - 1) = (k : Int) - 1 := IntWalk.i64_in _ (by omega)
          have hlo1 : (0 : Int) ≤ (k : Int) - 1 := by omega
          have hhi1 : (k : Int) - 1 < (n : Int) := by omega
          have hk1 : 1 ≤ k := by omega
          have hk2 : (1 : Int) ≤ (k : Int) := by omega
          have hk3 : (k : Int) ≤ (n : Int) := by omega
          obtain ⟨z, hz⟩ : ∃ z, X[k - 1]? = some z := ⟨_, List.getElem?_eq_getElem (by rw [hX.2.1]; omega)⟩
          obtain ⟨_, g', o', hA, _, z0, _⟩ := rv_cells (hX.below hbV) hz
          injection hA with hA
          injection hA with hA1 hA2
          subst hA1 hA2
          have hlm : lastT (-1) ((X.map Rv.r).take k) = z.r.f := by
            have := lastT_take (b := -1) (show (X.map Rv.r)[k - 1]? = some z.r by rw [List.getElem?_map, hz]; rfl)
            rwa [show k - 1 + 1 = k by omega] at this
          have HLM := Lib.hid hlm
          clear hlm hz hx
          cases hd0 : isD x.r.f with
          | false =>
            have HV := Lib.hid hd0
            have HNO := Lib.hid (HBAD.out (by rw [HPX.out, hd0]; simp))
            go_quiet ((go_at_call 23; with_reducible exact quiet_left (vday_to HV.out _)))
            go_wp2_with fail
            go_ret
            exact ⟨ret_int HNO.out.symm, below_drewN hbV nq⟩
          | true =>
            have HD0 := Lib.hid hd0
            have HV := Lib.hid hd0
            by_cases hyz0 : x.r.f ≤ z.r.f
            · have dyz0 : decide (x.r.f ≤ z.r.f) = true := decide_eq_true hyz0
              have HNO := Lib.hid (HBAD.out (by rw [HLM.out, decide_eq_false (show ¬ z.r.f < x.r.f by omega), Bool.and_false]))
              go_quiet ((go_at_call 23; with_reducible exact quiet_left (vday_to HV.out _)))
              go_wp2_with fail
              go_ret
              exact ⟨ret_int HNO.out.symm, below_drewN hbV nq⟩
            have dyz0 : decide (x.r.f ≤ z.r.f) = false := decide_eq_false hyz0
            have HLT : Hid (decide (lastT (-1) ((X.map Rv.r).take k) < x.r.f) = true) := Lib.hid (by
              rw [HLM.out, decide_eq_true_eq]
              omega)
            by_cases c0 : x.r.d < 0
            · have d0 : decide (x.r.d < 0) = true := decide_eq_true c0
              have HNO := Lib.hid (HBAD.out (by rw [HPX.out, show (decide (0 ≤ x.r.d) && decide (x.r.d ≤ 73049)) = false by simp only [Bool.and_eq_false_iff, decide_eq_false_iff_not]; omega]; simp))
              go_quiet ((go_at_call 23; with_reducible exact quiet_left (vday_to HV.out _)))
              go_wp2_with fail
              go_ret
              exact ⟨ret_int HNO.out.symm, below_drewN hbV nq⟩
            have d0 : decide (x.r.d < 0) = false := decide_eq_false c0
            by_cases c1 : 73049 < x.r.d
            · have d1 : decide (73049 < x.r.d) = true := decide_eq_true c1
              have HNO := Lib.hid (HBAD.out (by rw [HPX.out, show (decide (0 ≤ x.r.d) && decide (x.r.d ≤ 73049)) = false by simp only [Bool.and_eq_false_iff, decide_eq_false_iff_not]; omega]; simp))
              go_quiet ((go_at_call 23; with_reducible exact quiet_left (vday_to HV.out _)))
              go_wp2_with fail
              go_ret
              exact ⟨ret_int HNO.out.symm, below_drewN hbV nq⟩
            have d1 : decide (73049 < x.r.d) = false := decide_eq_false c1
            by_cases c2 : x.r.p < 0
            · have d2 : decide (x.r.p < 0) = true := decide_eq_true c2
              have HNO := Lib.hid (HBAD.out (by rw [HPX.out, show (decide (0 ≤ x.r.p) && decide (x.r.p ≤ 73049)) = false by simp only [Bool.and_eq_false_iff, decide_eq_false_iff_not]; omega]; simp))
              go_quiet ((go_at_call 23; with_reducible exact quiet_left (vday_to HV.out _)))
              go_wp2_with fail
              go_ret
              exact ⟨ret_int HNO.out.symm, below_drewN hbV nq⟩
            have d2 : decide (x.r.p < 0) = false := decide_eq_false c2
            by_cases c3 : 73049 < x.r.p
            · have d3 : decide (73049 < x.r.p) = true := decide_eq_true c3
              have HNO := Lib.hid (HBAD.out (by rw [HPX.out, show (decide (0 ≤ x.r.p) && decide (x.r.p ≤ 73049)) = false by simp only [Bool.and_eq_false_iff, decide_eq_false_iff_not]; omega]; simp))
              go_quiet ((go_at_call 23; with_reducible exact quiet_left (vday_to HV.out _)))
              go_wp2_with fail
              go_ret
              exact ⟨ret_int HNO.out.symm, below_drewN hbV nq⟩
            have d3 : decide (73049 < x.r.p) = false := decide_eq_false c3
            by_cases c4 : x.r.b < 0
            · have d4 : decide (x.r.b < 0) = true := decide_eq_true c4
              have HNO := Lib.hid (HBAD.out (by rw [HPX.out, show (decide (0 ≤ x.r.b) && decide (x.r.b ≤ 100)) = false by simp only [Bool.and_eq_false_iff, decide_eq_false_iff_not]; omega]; simp))
              go_quiet ((go_at_call 23; with_reducible exact quiet_left (vday_to HV.out _)))
              go_wp2_with fail
              go_ret
              exact ⟨ret_int HNO.out.symm, below_drewN hbV nq⟩
            have d4 : decide (x.r.b < 0) = false := decide_eq_false c4
            by_cases c5 : 100 < x.r.b
            · have d5 : decide (100 < x.r.b) = true := decide_eq_true c5
              have HNO := Lib.hid (HBAD.out (by rw [HPX.out, show (decide (0 ≤ x.r.b) && decide (x.r.b ≤ 100)) = false by simp only [Bool.and_eq_false_iff, decide_eq_false_iff_not]; omega]; simp))
              go_quiet ((go_at_call 23; with_reducible exact quiet_left (vday_to HV.out _)))
              go_wp2_with fail
              go_ret
              exact ⟨ret_int HNO.out.symm, below_drewN hbV nq⟩
            have d5 : decide (100 < x.r.b) = false := decide_eq_false c5
            have HRM : Hid ((okR x.r && decide (lastT (-1) ((X.map Rv.r).take k) < x.r.f)) = okM (-1) x.r.m) := Lib.hid (by
              rw [HPX.out, HD0.out, HLT.out, show (decide (0 ≤ x.r.d) && decide (x.r.d ≤ 73049)) = true by simp; omega, show (decide (0 ≤ x.r.p) && decide (x.r.p ≤ 73049)) = true by simp; omega, show (decide (0 ≤ x.r.b) && decide (x.r.b ≤ 100)) = true by simp; omega]
              simp)
            go_quiet ((go_at_call 23; with_reducible exact quiet_left (vday_to HV.out _)))
            go_wp2_with fail
            have hbQ := below_drewN hbV nq
            have hbQ2 := below_drewN (Below.refl V.heap.size V) nq
            obtain ⟨W2, hW2⟩ : ∃ W2, W2 = V.drewN nq := ⟨_, rfl⟩
            have x4' : W2.cell? ⟨wr.heap.size, 4, none⟩ = some (.slice x.a x.r.m.length x.c) := by rw [hW2]; exact x4
            have hmQ : Rd W2 W2.heap.size 1 x.a x.r.m.length (ints x.r.m) := by rw [hW2]; exact hmV
            have hbxl2 : wr.heap.size < W2.heap.size := by rw [hW2]; exact hboxl
            rw [← hW2] at hbQ ⊢
            obtain ⟨B, hBe⟩ : ∃ B, B = wr.heap.size := ⟨_, rfl⟩
            rw [← hBe] at x4' hbxl2 ⊢
            clear hBe hW2 hbQ2 x0 x1 x2 x3 x4 hmV c0 c1 c2 c3 c4 c5 d0 d1 d2 d3 d4 d5 hbV hbx HPX HD0 HLT hboxl hzV
            go_loopw [5] (fun i wn => ∃ j : Nat, j ≤ x.r.m.length ∧ i = .int .i64 (j : Int) ∧ okM (-1) (x.r.m.take j) = true ∧ Below W2.heap.size W2 wn) (fun i _ => x.r.m.length - (intOf i).toNat)
            case atStart => exact ⟨0, by omega, rfl, rfl, Below.refl _ _⟩
            case round =>
              obtain ⟨j, hj, rfl, hok, hbn⟩ := hrel
              have HJ := Lib.hid hok
              have hbT := hbQ.trans (hbn.mono hbQ.size)
              have b4 : wr.cell? ⟨B, 4, none⟩ = some (.slice x.a x.r.m.length x.c) := (hbn.cell (p := ⟨B, 4, none⟩) hbxl2).trans x4'
              clear hok
              by_cases hlt2 : j < x.r.m.length
              · obtain ⟨y, hy⟩ : ∃ y, x.r.m[j]? = some y := ⟨_, List.getElem?_eq_getElem hlt2⟩
                obtain ⟨_, g9, o9, hA9, hg9, q9⟩ := (hmQ.below hbn).int hy
                have hst2 := okM_take (b := -1) hy
                have HST2 : Hid (okM (-1) (x.r.m.take (j + 1)) = decide (lastM (-1) (x.r.m.take j) < y ∧ y ≤ 5)) := Lib.hid (by rw [hst2, HJ.out, Bool.true_and])
                have hge := okM_ge _ _ HJ.out
                have HBD2 : Hid (¬ (lastM (-1) (x.r.m.take j) < y ∧ y ≤ 5) → chkT (X.map Rv.r) = 1) := Lib.hid fun hno => HBAD.out (HRM.out.trans (okM_cut (k := j + 1) (by rw [HST2.out]; exact decide_eq_false hno)))
                rw [hA9] at b4
                have HA9 := Lib.hid hA9
                clear hA9
                have hlo9 : (0 : Int) ≤ (j : Int) := by omega
                have hhi9 : (j : Int) < (x.r.m.length : Int) := by omega
                clear hst2
                by_cases cy0 : y < 0
                · have dy0 : decide (y < 0) = true := decide_eq_true cy0
                  have HNO := Lib.hid (HBD2.out (by omega))
                  clear hge hy
                  go_wp2_with fail
                  go_quiet (fail)
                  go_wp2_with fail
                  go_ret
                  exact ⟨ret_int HNO.out.symm, below_drewN hbT nq⟩
                have dy0 : decide (y < 0) = false := decide_eq_false cy0
                by_cases cy1 : 6 ≤ y
                · have dy1 : decide (6 ≤ y) = true := decide_eq_true cy1
                  have HNO := Lib.hid (HBD2.out (by omega))
                  clear hge hy
                  go_wp2_with fail
                  go_quiet (fail)
                  go_wp2_with fail
                  go_ret
                  exact ⟨ret_int HNO.out.symm, below_drewN hbT nq⟩
                have dy1 : decide (6 ≤ y) = false := decide_eq_false cy1
                by_cases hj0 : j = 0
                · have hgj : decide (0 < j) = false := decide_eq_false (by omega)
                  have HGO : Hid (okM (-1) (x.r.m.take (j + 1)) = true) := Lib.hid (by
                    rw [HST2.out, decide_eq_true_eq, hj0]
                    exact ⟨by show (-1 : Int) < y; omega, by omega⟩)
                  clear hge hy hj0
                  go_wp2_with fail
                  go_quiet (fail)
                  go_wp2_with fail
                  go_roundw
                  case rel => exact ⟨j + 1, by omega, by go_num, HGO.out, below_drewN hbn nq⟩
                  case measure => simp [intOf]; omega
                · have hgj : decide (0 < j) = true := decide_eq_true (by omega)
                  have hwj : IntKind.i64.wrap ((j : Int) - 1) = (j : Int) - 1 := IntWalk.i64_in _ (by omega)
                  have hl1 : (0 : Int) ≤ (j : Int) - 1 := by omega
                  have hh1 : (j : Int) - 1 < (x.r.m.length : Int) := by omega
                  have hj1 : 1 ≤ j := by omega
                  have hj2 : (1 : Int) ≤ (j : Int) := by omega
                  have hj3 : (j : Int) ≤ (x.r.m.length : Int) := by omega
                  obtain ⟨z9, hz9⟩ : ∃ z, x.r.m[j - 1]? = some z := ⟨_, List.getElem?_eq_getElem (by omega)⟩
                  obtain ⟨_, g8, o8, hA8, _, q8⟩ := (hmQ.below hbn).int hz9
                  rw [HA9.out] at hA8
                  injection hA8 with hA8
                  injection hA8 with hA81 hA82
                  subst hA81 hA82
                  have hlm9 : lastM (-1) (x.r.m.take j) = z9 := by
                    have := lastM_take (b := -1) hz9
                    rwa [show j - 1 + 1 = j by omega] at this
                  have HLM9 := Lib.hid hlm9
                  clear hlm9 hz9 hge hy
                  by_cases hyz : y ≤ z9
                  · have dyz : decide (y ≤ z9) = true := decide_eq_true hyz
                    have HNO := Lib.hid (HBD2.out (by rw [HLM9.out]; omega))
                    go_wp2_with fail
                    go_quiet (fail)
                    go_wp2_with fail
                    go_ret
                    exact ⟨ret_int HNO.out.symm, below_drewN hbT nq⟩
                  · have dyz : decide (y ≤ z9) = false := decide_eq_false hyz
                    have HGO : Hid (okM (-1) (x.r.m.take (j + 1)) = true) := Lib.hid (by
                      rw [HST2.out, decide_eq_true_eq, HLM9.out]
                      omega)
                    go_wp2_with fail
                    go_quiet (fail)
                    go_wp2_with fail
                    go_roundw
                    case rel => exact ⟨j + 1, by omega, by go_num, HGO.out, below_drewN hbn nq⟩
                    case measure => simp [intOf]; omega
              · have HGO : Hid (okT (-1) ((X.map Rv.r).take (k + 1)) = true) := Lib.hid (by
                  have := HJ.out
                  rw [List.take_of_length_le (by omega)] at this
                  rw [HST.out, HRM.out, this])
                go_wp2_with fail
                go_roundw
                case rel => exact ⟨k + 1, by omega, by go_num, HGO.out, hbT⟩
                case measure => simp [intOf]; omega
      · have hok : okT (-1) (X.map Rv.r) = true := by
          have := HK.out
          rwa [List.take_of_length_le (by rw [HXL.out]; omega)] at this
        have HNO : Hid (chkT (X.map Rv.r) = 0) := Lib.hid (by rw [HC2.out, hok]; rfl)
        clear hok
        go_wp2_with fail
        go_ret
        exact ⟨ret_int HNO.out.symm, hb⟩
  · have hf1 : (y.r.f == 0) = false := beq_eq_false_iff_ne.2 hf0
    have HNO : Hid (chkT (X.map Rv.r) = 1) := Lib.hid (by rw [HCK.out, if_neg hf0])
    clear HCK
    go_enter Try.func19, Try.ntmps19
    go_wp2_with fail
    go_ret
    exact ⟨ret_int HNO.out.symm, Below.refl _ _⟩
end Go.Proofs.Ythncjohekjnjaaa
