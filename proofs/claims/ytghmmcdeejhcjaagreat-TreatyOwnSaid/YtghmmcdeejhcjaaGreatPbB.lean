/- validVersion, walked. -/
import Derived.Test.YtghmmcdeejhcjaaGreatPbA
namespace Go.Proofs.YtghmmcdeejhcjaaGreat
open Go.RowKit

set_option maxRecDepth 100000 in
set_option maxHeartbeats 16000000 in
theorem vver_any {w : World} {C : Vc} (h : VRd w C) : Calls Tryz.prog 43 #[.agg C.cells.toArray] w (RetBb w) := by
  obtain ⟨f, m, q, ⟨A1, c1, l1⟩, ⟨A2, c2, l2⟩, ⟨A3, c3, l3⟩, ⟨A4, c4, l4⟩, ⟨A5, c5, l5⟩⟩ := C
  dsimp only [Vc.cells]
  go_enter Tryz.func43, Tryz.ntmps43
  go_upto_region 1 with (fail)
  obtain ⟨W, hW, hrow, hz, hbW⟩ : ∃ W, W = w.alloc (.cells #[.int .i64 f, .int .i64 m, .int .i64 q, .slice A1 l1.length c1, .slice A2 l2.length c2, .slice A3 l3.length c3, .slice A4 l4.length c4, .slice A5 l5.length c5] 78) ∧ W.heap[w.heap.size]? = some (.cells #[.int .i64 f, .int .i64 m, .int .i64 q, .slice A1 l1.length c1, .slice A2 l2.length c2, .slice A3 l3.length c3, .slice A4 l4.length c4, .slice A5 l5.length c5] 78 (0, 0)) ∧ W.heap.size = w.heap.size + 1 ∧ Below w.heap.size w W :=
    ⟨_, rfl, heap_alloc_new w _, by simp, (Below.refl _ _).alloc (Nat.le_refl _) _⟩
  rw [← hW]
  clear hW
  have hv := h.to hbW
  clear h
  have y0 : W.cell? ⟨w.heap.size, 0, none⟩ = some (.int .i64 f) := by rw [cell_of_row _ _ _ _ _ _ hrow]; rfl
  have y1 : W.cell? ⟨w.heap.size, 1, none⟩ = some (.int .i64 m) := by rw [cell_of_row _ _ _ _ _ _ hrow]; rfl
  have y2 : W.cell? ⟨w.heap.size, 2, none⟩ = some (.int .i64 q) := by rw [cell_of_row _ _ _ _ _ _ hrow]; rfl
  go_wp2_with fail
  refine (vday_any f _).mono ?_
  rintro e w1 ⟨rfl, rfl⟩
  obtain ⟨k1, hk1⟩ : ∃ b, isD f = b := ⟨_, rfl⟩
  rw [hk1]
  clear hk1
  cases k1
  · go_wp2_with fail
    go_ret
    exact ⟨_, rfl, hbW⟩
  go_wp2_with fail
  refine (vround_any m q _).mono ?_
  rintro e w2 ⟨k2, rfl, hb2⟩
  have hrow2 := (hb2.block w.heap.size (by omega)).trans hrow
  have hbb := hbW.trans (hb2.mono (by omega))
  have hv2 := hv.to hb2
  have hz2 : w.heap.size < w2.heap.size := by have := hb2.size; omega
  clear hrow hbW hb2 hv y0 y1 y2 hz
  cases k2
  · go_wp2_with fail
    go_ret
    exact ⟨_, rfl, hbb⟩
  have y3 : w2.cell? ⟨w.heap.size, 3, none⟩ = some (.slice A1 l1.length c1) := by rw [cell_of_row _ _ _ _ _ _ hrow2]; rfl
  have y4 : w2.cell? ⟨w.heap.size, 4, none⟩ = some (.slice A2 l2.length c2) := by rw [cell_of_row _ _ _ _ _ _ hrow2]; rfl
  have y5 : w2.cell? ⟨w.heap.size, 5, none⟩ = some (.slice A3 l3.length c3) := by rw [cell_of_row _ _ _ _ _ _ hrow2]; rfl
  have y6 : w2.cell? ⟨w.heap.size, 6, none⟩ = some (.slice A4 l4.length c4) := by rw [cell_of_row _ _ _ _ _ _ hrow2]; rfl
  have y7 : w2.cell? ⟨w.heap.size, 7, none⟩ = some (.slice A5 l5.length c5) := by rw [cell_of_row _ _ _ _ _ _ hrow2]; rfl
  by_cases g1 : (6 : Int) < (l1.length : Int)
  · have e1 : decide ((6 : Int) < (l1.length : Int)) = true := decide_eq_true g1
    go_wp2_with fail
    go_ret
    exact ⟨_, rfl, hbb⟩
  have e1 : decide ((6 : Int) < (l1.length : Int)) = false := decide_eq_false g1
  by_cases g2 : (20 : Int) < (l2.length : Int)
  · have e2 : decide ((20 : Int) < (l2.length : Int)) = true := decide_eq_true g2
    go_wp2_with fail
    go_ret
    exact ⟨_, rfl, hbb⟩
  have e2 : decide ((20 : Int) < (l2.length : Int)) = false := decide_eq_false g2
  by_cases g3 : (10 : Int) < (l3.length : Int)
  · have e3 : decide ((10 : Int) < (l3.length : Int)) = true := decide_eq_true g3
    go_wp2_with fail
    go_ret
    exact ⟨_, rfl, hbb⟩
  have e3 : decide ((10 : Int) < (l3.length : Int)) = false := decide_eq_false g3
  by_cases g4 : (5 : Int) < (l4.length : Int)
  · have e4 : decide ((5 : Int) < (l4.length : Int)) = true := decide_eq_true g4
    go_wp2_with fail
    go_ret
    exact ⟨_, rfl, hbb⟩
  have e4 : decide ((5 : Int) < (l4.length : Int)) = false := decide_eq_false g4
  by_cases g5 : (5 : Int) < (l5.length : Int)
  · have e5 : decide ((5 : Int) < (l5.length : Int)) = true := decide_eq_true g5
    go_wp2_with fail
    go_ret
    exact ⟨_, rfl, hbb⟩
  have e5 : decide ((5 : Int) < (l5.length : Int)) = false := decide_eq_false g5
  go_wp2_with fail
  clear y3 y4 y5 y6 y7 e1 e2 e3 e4 e5
  go_loopw [3] (fun i wr => ∃ k : Nat, k ≤ l1.length ∧ i = .int .i64 (k : Int) ∧ Below w2.heap.size w2 wr) (fun i _ => l1.length - (intOf i).toNat)
  case atStart => exact ⟨0, by omega, rfl, Below.refl _ _⟩
  case round =>
    obtain ⟨k, hkl, rfl, hbr⟩ := hrel
    have hsz := hbr.size
    have hrR := (hbr.block w.heap.size hz2).trans hrow2
    have hvR := hv2.to hbr
    have hbR := hbb.trans (hbr.mono hbb.size)
    have hzR : w.heap.size < wr.heap.size := Nat.lt_of_lt_of_le hz2 hsz
    have y3 : wr.cell? ⟨w.heap.size, 3, none⟩ = some (.slice A1 l1.length c1) := by rw [cell_of_row _ _ _ _ _ _ hrR]; rfl
    by_cases hlt : k < l1.length
    · obtain ⟨x, hx⟩ : ∃ x, l1[k]? = some x := ⟨_, List.getElem?_eq_getElem hlt⟩
      obtain ⟨a, b⟩ := x
      obtain ⟨g, p, hA, hgw, x0, x1⟩ := cr_cells hvR hx
      dsimp only at hA x0 x1
      subst hA
      clear hx
      go_wp2_with fail
      refine (wordof1_any a _).mono ?_
      rintro e w3 ⟨s, rfl, hb3⟩
      have x1' : w3.cell? ⟨g, p + k * 2 + 1, none⟩ = some (.int .i64 b) := (hb3.cell (by simp; omega)).trans x1
      have y3' : w3.cell? ⟨w.heap.size, 3, none⟩ = some (.slice (some ⟨g, p, none⟩) l1.length c1) := (hb3.cell (by simp; omega)).trans y3
      obtain ⟨b1, hb1⟩ := sbeq s
      obtain ⟨b2, hb2⟩ : ∃ t, decide (b < 0) = t := ⟨_, rfl⟩
      obtain ⟨b4, hb4⟩ : ∃ t, decide (73049 < b) = t := ⟨_, rfl⟩
      cases b1
      · cases b2
        · cases b4
          ·
            go_wp2_with fail
            go_roundw
            case rel => exact ⟨k + 1, by omega, by go_num, hbr.trans (hb3.mono hsz)⟩
            case measure => simp [intOf]; omega
          · go_wp2_with fail
            go_ret
            exact ⟨_, rfl, hbR.trans (hb3.mono hbR.size)⟩
        · go_wp2_with fail
          go_ret
          exact ⟨_, rfl, hbR.trans (hb3.mono hbR.size)⟩
      · go_wp2_with fail
        go_ret
        exact ⟨_, rfl, hbR.trans (hb3.mono hbR.size)⟩
    · clear hbr
      go_wp2_with fail
      clear y3 hlt
      obtain ⟨W1, hW1⟩ : ∃ W, W = wr := ⟨_, rfl⟩
      rw [← hW1] at hrR hvR hbR hzR ⊢
      clear hW1 hsz
      have hr1 := hrR
      have hv1' := hvR
      have hbb1 := hbR
      have hzz1 := hzR
      clear hrR hvR hbR hzR
      go_loopw [4, 5, 6] (fun i _ _ wr => ∃ k : Nat, k ≤ l2.length ∧ i = .int .i64 (k : Int) ∧ Below W1.heap.size W1 wr) (fun i _ _ _ => l2.length - (intOf i).toNat)
      case atStart => exact ⟨0, by omega, rfl, Below.refl _ _⟩
      case round =>
        obtain ⟨k, hkl, rfl, hbr⟩ := hrel
        have hsz := hbr.size
        have hrR := (hbr.block w.heap.size hzz1).trans hr1
        have hvR := hv1'.to hbr
        have hbR := hbb1.trans (hbr.mono hbb1.size)
        have hzR : w.heap.size < wr.heap.size := Nat.lt_of_lt_of_le hzz1 hsz
        have y4 : wr.cell? ⟨w.heap.size, 4, none⟩ = some (.slice A2 l2.length c2) := by rw [cell_of_row _ _ _ _ _ _ hrR]; rfl
        by_cases hlt : k < l2.length
        · obtain ⟨x, hx⟩ : ∃ x, l2[k]? = some x := ⟨_, List.getElem?_eq_getElem hlt⟩
          obtain ⟨a, n, d⟩ := x
          obtain ⟨hf, g, p, hA, hgw, x0, x1, x2⟩ := ix_cells hvR hx
          dsimp only at hf hA x0 x1 x2
          subst hA
          clear hx
          go_wp2_with fail
          refine (fdec_any n d 2 hf _).mono ?_
          rintro e w3 ⟨s, b0, rfl, hb3⟩
          have x0' : w3.cell? ⟨g, p + k * 3, none⟩ = some (.int .i64 a) := (hb3.cell (by simp; omega)).trans x0
          have x1' : w3.cell? ⟨g, p + k * 3 + 1, none⟩ = some (.int .i64 n) := (hb3.cell (by simp; omega)).trans x1
          have y4' : w3.cell? ⟨w.heap.size, 4, none⟩ = some (.slice (some ⟨g, p, none⟩) l2.length c2) := (hb3.cell (by simp; omega)).trans y4
          obtain ⟨b1, hb1⟩ : ∃ t, decide (a < 1900) = t := ⟨_, rfl⟩
          obtain ⟨b2, hb2⟩ : ∃ t, decide (2099 < a) = t := ⟨_, rfl⟩
          obtain ⟨b4, hb4⟩ : ∃ t, decide (n < 1) = t := ⟨_, rfl⟩
          cases b1
          · cases b2
            · cases b0
              · go_wp2_with fail
                go_ret
                exact ⟨_, rfl, hbR.trans (hb3.mono hbR.size)⟩
              · cases b4
                ·
                  go_wp2_with fail
                  go_roundw
                  case rel => exact ⟨k + 1, by omega, by go_num, hbr.trans (hb3.mono hsz)⟩
                  case measure => simp [intOf]; omega
                · go_wp2_with fail
                  go_ret
                  exact ⟨_, rfl, hbR.trans (hb3.mono hbR.size)⟩
            · go_wp2_with fail
              go_ret
              exact ⟨_, rfl, hbR.trans (hb3.mono hbR.size)⟩
          · go_wp2_with fail
            go_ret
            exact ⟨_, rfl, hbR.trans (hb3.mono hbR.size)⟩
        · clear hbr
          go_wp2_with fail
          clear y4 hlt
          obtain ⟨W2, hW2⟩ : ∃ W, W = wr := ⟨_, rfl⟩
          rw [← hW2] at hrR hvR hbR hzR ⊢
          clear hW2 hsz
          have hr2 := hrR
          have hv2' := hvR
          have hbb2 := hbR
          have hzz2 := hzR
          clear hrR hvR hbR hzR
          go_loopw [7] (fun i wr => ∃ k : Nat, k ≤ l3.length ∧ i = .int .i64 (k : Int) ∧ Below W2.heap.size W2 wr) (fun i _ => l3.length - (intOf i).toNat)
          case atStart => exact ⟨0, by omega, rfl, Below.refl _ _⟩
          case round =>
            obtain ⟨k, hkl, rfl, hbr⟩ := hrel
            have hsz := hbr.size
            have hrR := (hbr.block w.heap.size hzz2).trans hr2
            have hvR := hv2'.to hbr
            have hbR := hbb2.trans (hbr.mono hbb2.size)
            have hzR : w.heap.size < wr.heap.size := Nat.lt_of_lt_of_le hzz2 hsz
            have y5 : wr.cell? ⟨w.heap.size, 5, none⟩ = some (.slice A3 l3.length c3) := by rw [cell_of_row _ _ _ _ _ _ hrR]; rfl
            by_cases hlt : k < l3.length
            · obtain ⟨x, hx⟩ : ∃ x, l3[k]? = some x := ⟨_, List.getElem?_eq_getElem hlt⟩
              obtain ⟨a, ⟨o, n, d, mm, s, B, c, r⟩⟩ := x
              obtain ⟨ha, hx1, g, p, hA, hgw, x0, x1, x2, x3, x4, x5, x6⟩ := le_cells hvR hx
              dsimp only at hA
              subst hA
              clear hx
              go_wp2_with fail
              refine (isname_any a ha _).mono ?_
              rintro e w3 ⟨b0, rfl, rfl⟩
              cases b0
              · go_wp2_with fail
                go_ret
                exact ⟨_, rfl, hbR⟩
              go_wp2_with fail
              refine (validx_any hx1).mono ?_
              rintro e w4 ⟨b1, rfl, hb4⟩
              cases b1
              · go_wp2_with fail
                go_ret
                exact ⟨_, rfl, hbR.trans (hb4.mono hbR.size)⟩
              go_wp2_with fail
              go_roundw
              case rel => exact ⟨k + 1, by omega, by go_num, hbr.trans (hb4.mono hsz)⟩
              case measure => simp [intOf]; omega
            · clear hbr
              go_wp2_with fail
              clear y5 hlt
              obtain ⟨W3, hW3⟩ : ∃ W, W = wr := ⟨_, rfl⟩
              rw [← hW3] at hrR hvR hbR hzR ⊢
              clear hW3 hsz
              have hr3 := hrR
              have hv3' := hvR
              have hbb3 := hbR
              have hzz3 := hzR
              clear hrR hvR hbR hzR
              go_loopw [8] (fun i wr => ∃ k : Nat, k ≤ l4.length ∧ i = .int .i64 (k : Int) ∧ Below W3.heap.size W3 wr) (fun i _ => l4.length - (intOf i).toNat)
              case atStart => exact ⟨0, by omega, rfl, Below.refl _ _⟩
              case round =>
                obtain ⟨k, hkl, rfl, hbr⟩ := hrel
                have hsz := hbr.size
                have hrR := (hbr.block w.heap.size hzz3).trans hr3
                have hvR := hv3'.to hbr
                have hbR := hbb3.trans (hbr.mono hbb3.size)
                have hzR : w.heap.size < wr.heap.size := Nat.lt_of_lt_of_le hzz3 hsz
                have y6 : wr.cell? ⟨w.heap.size, 6, none⟩ = some (.slice A4 l4.length c4) := by rw [cell_of_row _ _ _ _ _ _ hrR]; rfl
                by_cases hlt : k < l4.length
                · obtain ⟨x, hx⟩ : ∃ x, l4[k]? = some x := ⟨_, List.getElem?_eq_getElem hlt⟩
                  obtain ⟨a, ⟨o, n, d, mm, s, B, c, r⟩, ⟨o2, n2, d2, m2, s2, B2, c2', r2⟩⟩ := x
                  obtain ⟨hx1, hx2, g, p, hA, hgw, x0, x1, x2, x3, x4, x5, x6, x7, x8, x9, x10, x11, x12⟩ := gr_cells hvR hx
                  dsimp only at hA
                  subst hA
                  clear hx
                  go_wp2_with fail
                  refine (wordof2_any a _).mono ?_
                  rintro e w3 ⟨s', rfl, hb3⟩
                  have hx1' := hx1.bel hb3
                  have hx2' := hx2.bel hb3
                  have x1' := (hb3.cell (p := ⟨g, p + k * 13 + 1, none⟩) (by simp; omega)).trans x1
                  have x2' := (hb3.cell (p := ⟨g, p + k * 13 + 2, none⟩) (by simp; omega)).trans x2
                  have x3' := (hb3.cell (p := ⟨g, p + k * 13 + 3, none⟩) (by simp; omega)).trans x3
                  have x4' := (hb3.cell (p := ⟨g, p + k * 13 + 4, none⟩) (by simp; omega)).trans x4
                  have x5' := (hb3.cell (p := ⟨g, p + k * 13 + 5, none⟩) (by simp; omega)).trans x5
                  have x6' := (hb3.cell (p := ⟨g, p + k * 13 + 6, none⟩) (by simp; omega)).trans x6
                  have x7' := (hb3.cell (p := ⟨g, p + k * 13 + 7, none⟩) (by simp; omega)).trans x7
                  have x8' := (hb3.cell (p := ⟨g, p + k * 13 + 8, none⟩) (by simp; omega)).trans x8
                  have x9' := (hb3.cell (p := ⟨g, p + k * 13 + 9, none⟩) (by simp; omega)).trans x9
                  have x10' := (hb3.cell (p := ⟨g, p + k * 13 + 10, none⟩) (by simp; omega)).trans x10
                  have x11' := (hb3.cell (p := ⟨g, p + k * 13 + 11, none⟩) (by simp; omega)).trans x11
                  have x12' := (hb3.cell (p := ⟨g, p + k * 13 + 12, none⟩) (by simp; omega)).trans x12
                  have y6' : w3.cell? ⟨w.heap.size, 6, none⟩ = some (.slice (some ⟨g, p, none⟩) l4.length c4) := (hb3.cell (by simp; omega)).trans y6
                  have hz3 := hb3.size
                  have hb3R := hbR.trans (hb3.mono hbR.size)
                  have hb3r := hbr.trans (hb3.mono hsz)
                  obtain ⟨b1, hb1⟩ := sbeq s'
                  cases b1
                  · go_wp2_with fail
                    refine (validx_any hx1').mono ?_
                    rintro e w4 ⟨b2, rfl, hb4⟩
                    have hx2'' := hx2'.bel hb4
                    have x7'' := (hb4.cell (p := ⟨g, p + k * 13 + 7, none⟩) (by simp; omega)).trans x7'
                    have x8'' := (hb4.cell (p := ⟨g, p + k * 13 + 8, none⟩) (by simp; omega)).trans x8'
                    have x9'' := (hb4.cell (p := ⟨g, p + k * 13 + 9, none⟩) (by simp; omega)).trans x9'
                    have x10'' := (hb4.cell (p := ⟨g, p + k * 13 + 10, none⟩) (by simp; omega)).trans x10'
                    have x11'' := (hb4.cell (p := ⟨g, p + k * 13 + 11, none⟩) (by simp; omega)).trans x11'
                    have x12'' := (hb4.cell (p := ⟨g, p + k * 13 + 12, none⟩) (by simp; omega)).trans x12'
                    have y6'' : w4.cell? ⟨w.heap.size, 6, none⟩ = some (.slice (some ⟨g, p, none⟩) l4.length c4) := (hb4.cell (by simp; omega)).trans y6'
                    have hb4R := hb3R.trans (hb4.mono hb3R.size)
                    have hb4r := hb3r.trans (hb4.mono hb3r.size)
                    cases b2
                    · go_wp2_with fail
                      go_ret
                      exact ⟨_, rfl, hb4R⟩
                    go_wp2_with fail
                    refine (validx_any hx2'').mono ?_
                    rintro e w5 ⟨b3, rfl, hb5⟩
                    cases b3
                    · go_wp2_with fail
                      go_ret
                      exact ⟨_, rfl, hb4R.trans (hb5.mono hb4R.size)⟩
                    go_wp2_with fail
                    go_roundw
                    case rel => exact ⟨k + 1, by omega, by go_num, hb4r.trans (hb5.mono hb4r.size)⟩
                    case measure => simp [intOf]; omega
                  · go_wp2_with fail
                    go_ret
                    exact ⟨_, rfl, hb3R⟩
                · clear hbr
                  go_wp2_with fail
                  clear y6 hlt
                  obtain ⟨W4, hW4⟩ : ∃ W, W = wr := ⟨_, rfl⟩
                  rw [← hW4] at hrR hvR hbR hzR ⊢
                  clear hW4 hsz
                  have hr4 := hrR
                  have hv4' := hvR
                  have hbb4 := hbR
                  have hzz4 := hzR
                  clear hrR hvR hbR hzR
                  go_loopw [9] (fun i wr => ∃ k : Nat, k ≤ l5.length ∧ i = .int .i64 (k : Int) ∧ Below W4.heap.size W4 wr) (fun i _ => l5.length - (intOf i).toNat)
                  case atStart => exact ⟨0, by omega, rfl, Below.refl _ _⟩
                  case round =>
                    obtain ⟨k, hkl, rfl, hbr⟩ := hrel
                    have hsz := hbr.size
                    have hrR := (hbr.block w.heap.size hzz4).trans hr4
                    have hvR := hv4'.to hbr
                    have hbR := hbb4.trans (hbr.mono hbb4.size)
                    have hzR : w.heap.size < wr.heap.size := Nat.lt_of_lt_of_le hzz4 hsz
                    have y7 : wr.cell? ⟨w.heap.size, 7, none⟩ = some (.slice A5 l5.length c5) := by rw [cell_of_row _ _ _ _ _ _ hrR]; rfl
                    by_cases hlt : k < l5.length
                    · obtain ⟨x, hx⟩ : ∃ x, l5[k]? = some x := ⟨_, List.getElem?_eq_getElem hlt⟩
                      obtain ⟨a, ⟨o, n, d, mm, s, B, c, r⟩⟩ := x
                      obtain ⟨hx1, g, p, hA, hgw, x0, x1, x2, x3, x4, x5, x6⟩ := re_cells hvR hx
                      dsimp only at hA
                      subst hA
                      clear hx
                      go_wp2_with fail
                      refine (wordof2_any a _).mono ?_
                      rintro e w3 ⟨s', rfl, hb3⟩
                      have hx1' := hx1.bel hb3
                      have x1' := (hb3.cell (p := ⟨g, p + k * 7 + 1, none⟩) (by simp; omega)).trans x1
                      have x2' := (hb3.cell (p := ⟨g, p + k * 7 + 2, none⟩) (by simp; omega)).trans x2
                      have x3' := (hb3.cell (p := ⟨g, p + k * 7 + 3, none⟩) (by simp; omega)).trans x3
                      have x4' := (hb3.cell (p := ⟨g, p + k * 7 + 4, none⟩) (by simp; omega)).trans x4
                      have x5' := (hb3.cell (p := ⟨g, p + k * 7 + 5, none⟩) (by simp; omega)).trans x5
                      have x6' := (hb3.cell (p := ⟨g, p + k * 7 + 6, none⟩) (by simp; omega)).trans x6
                      have y7' : w3.cell? ⟨w.heap.size, 7, none⟩ = some (.slice (some ⟨g, p, none⟩) l5.length c5) := (hb3.cell (by simp; omega)).trans y7
                      have hz3 := hb3.size
                      have hb3R := hbR.trans (hb3.mono hbR.size)
                      have hb3r := hbr.trans (hb3.mono hsz)
                      obtain ⟨b1, hb1⟩ := sbeq s'
                      cases b1
                      · go_wp2_with fail
                        refine (validx_any hx1').mono ?_
                        rintro e w4 ⟨b2, rfl, hb4⟩
                        have hb4R := hb3R.trans (hb4.mono hb3R.size)
                        have hb4r := hb3r.trans (hb4.mono hb3r.size)
                        cases b2
                        · go_wp2_with fail
                          go_ret
                          exact ⟨_, rfl, hb4R⟩
                        go_wp2_with fail
                        go_roundw
                        case rel => exact ⟨k + 1, by omega, by go_num, hb4r⟩
                        case measure => simp [intOf]; omega
                      · go_wp2_with fail
                        go_ret
                        exact ⟨_, rfl, hb3R⟩
                    · clear hbr
                      go_wp2_with fail
                      go_ret
                      exact ⟨_, rfl, hbR⟩
end Go.Proofs.YtghmmcdeejhcjaaGreat
