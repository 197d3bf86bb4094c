/- rules of the laws of chapter 14: rules that may be read. -/
import Derived.Test.YthncjohekjnjaaaTrK
import Derived.Test.YthncjohekjnjaaaTrG
namespace Go.Proofs.Ythncjohekjnjaaa
open Go.RowKit

theorem pick_toT (n k a : Int) (w : World) (hk : k ≤ 4611686018427387904) (h : pick n k = a) : Calls Try.prog 7 #[.int .i64 n, .int .i64 k] w fun e w' => e = .returned (.int .i64 a) ∧ w = w' := by
  rw [← h]
  exact pick_any n k w hk
theorem pick_exT (n k : Int) (w : World) (hk0 : 1 ≤ k) (hk : k ≤ 20000) : Calls Try.prog 7 #[.int .i64 n, .int .i64 k] w fun e w' => ∃ y : Int, 0 ≤ y ∧ y ≤ 20000 ∧ e = .returned (.int .i64 y) ∧ w = w' := by
  refine (pick_any n k w (by omega)).mono ?_
  rintro e w' ⟨rfl, rfl⟩
  have := pick_bd n k hk0
  exact ⟨_, by omega, by omega, rfl, rfl⟩
theorem pick_nat (n : Int) (k : Nat) (w : World) (hk0 : 1 ≤ k) (hk : k ≤ 20000) : Calls Try.prog 7 #[.int .i64 n, .int .i64 (k : Int)] w fun e w' => ∃ p : Nat, p < k ∧ e = .returned (.int .i64 (p : Int)) ∧ w = w' := by
  refine (pick_any n k w (by omega)).mono ?_
  rintro e w' ⟨rfl, rfl⟩
  have := pick_bd n k (by omega)
  exact ⟨(pick n k).toNat, by omega, by rw [Int.toNat_of_nonneg this.1], rfl⟩
theorem set_len {Y : List Rv} {M p : Nat} {x' : Rv} (h : ∀ x ∈ Y, x.r.m.length ≤ 6) (h' : x'.r.m.length ≤ 7) (h7 : 7 ≤ M) : ∀ x ∈ Y.set p x', x.r.m.length ≤ M := by
  intro x hx
  rcases List.mem_or_eq_of_mem_set hx with hx | rfl
  · have := h x hx
    omega
  · omega

set_option maxRecDepth 100000 in
set_option maxHeartbeats 8000000 in
theorem rules_any {A : Option Addr} {n c M : Nat} {X : List Rv} (mood : Int) {w : World} (hX : Rus w w.heap.size A n X) (hn : n ≤ 12) (hM : ∀ x ∈ X, x.r.m.length ≤ M) (h7 : 7 ≤ M) :
    Calls Try.prog 6 #[.slice A n c, .int .i64 mood] w (RetRu w 12 M) := by
  obtain ⟨i0, hi0, hz0, hz1, hz2⟩ := info_parts info_rules
  obtain ⟨i1, hi1, hy0, hy1, hy2⟩ := info_parts info_int
  obtain ⟨b9, hb9⟩ : ∃ b, (mood.tmod 9 == 0) = b := ⟨_, rfl⟩
  cases b9 with
  | true =>
    have HM := Lib.hid hM
    clear hM
    go_enter Try.func6, Try.ntmps6
    go_wp2_with fail
    go_ret
    exact ⟨A, n, c, X, rfl, hX, hn, HM.out, Below.refl _ _⟩
  | false =>
    clear hM
    have HN := Lib.hid hX.2.1
    go_enter Try.func6, Try.ntmps6
    go_wp2_with fail
    go_loopw [5, 6, 7] (fun v dv i wr => ∃ (k : Nat) (d : Int) (Y : List Rv), k ≤ 6 ∧ k ≤ n ∧ i = .int .i64 (k : Int) ∧ dv = .int .i64 d ∧ 0 ≤ d ∧ d ≤ 20001 * k ∧ Y.length = k ∧ (∀ x ∈ Y, x.r.m.length ≤ 6) ∧ Rws wr w.heap.size v Y ∧ Below w.heap.size w wr) (fun _ _ i _ => n - (intOf i).toNat)
    case atStart => exact ⟨0, 0, [], by omega, by omega, rfl, rfl, by omega, by omega, rfl, by simp, Rws.nil _ _, Below.refl _ _⟩
    case round =>
      obtain ⟨k, d, Y, hk6, hk, rfl, rfl, hd0, hd1, hYl, hYm, hrw, hbr⟩ := hrel
      have hwsz := hbr.size
      have hrw1 := hrw.1
      rw [hYl] at hrw1
      have HYL := Lib.hid hYl
      have HYM := Lib.hid hYm
      clear hYl hYm
      obtain ⟨A2, c2, rfl, _, _, hA2⟩ := own_form hrw1
      by_cases hlt : k < n ∧ k < 6
      · obtain ⟨hlt1, hlt2⟩ := hlt
        clear hA2
        obtain ⟨x, hx⟩ : ∃ x, X[k]? = some x := ⟨_, List.getElem?_eq_getElem (by rw [HN.out]; exact hlt1)⟩
        obtain ⟨_, g, o, rfl, hgb, z0, _⟩ := rv_cells hX hx
        obtain ⟨_, g', o', hA, _, e0, e1, e2, e3, e4, _⟩ := rv_cells (hX.below hbr) hx
        injection hA with hA
        injection hA with hA1 hA2
        subst hA1 hA2
        have hlo : (0 : Int) ≤ (k : Int) := by omega
        have hhi : (k : Int) < (n : Int) := by omega
        have hhi6 : (k : Int) < 6 := by omega
        have Z0 := Lib.hid z0
        clear hx z0
        go_upto_region 8 with (fail)
        obtain ⟨a, ha⟩ : ∃ a, pick x.r.d 900 = a := ⟨_, rfl⟩
        obtain ⟨b, hb4⟩ : ∃ a, pick x.r.p 900 = a := ⟨_, rfl⟩
        obtain ⟨r, hr⟩ : ∃ a, pick x.r.b 101 = a := ⟨_, rfl⟩
        have HA := Lib.hid ha
        have HB := Lib.hid hb4
        have HR := Lib.hid hr
        clear ha hb4 hr
        go_region_held3 (fun w' => w'.cell? ⟨g, o + k * 5 + 1, none⟩ = some (.int .i64 x.r.d) ∧ w'.cell? ⟨g, o + k * 5 + 2, none⟩ = some (.int .i64 x.r.p) ∧ w'.cell? ⟨g, o + k * 5 + 3, none⟩ = some (.int .i64 x.r.b)) (go_keep)
          (first
            | (go_at_call 7; ((with_reducible refine (pick_toT x.r.d 900 a _ (by omega) HA.out).mono ?_)); rintro e w' ⟨rfl, rfl⟩)
            | (go_at_call 7; ((with_reducible refine (pick_toT x.r.p 900 b _ (by omega) HB.out).mono ?_)); rintro e w' ⟨rfl, rfl⟩)
            | (go_at_call 7; ((with_reducible refine (pick_toT x.r.b 101 r _ (by omega) HR.out).mono ?_)); rintro e w' ⟨rfl, rfl⟩))
        all_goals
          have hrow : (wr.alloc (.cells #[.int .i64 d, .int .i64 a, .int .i64 b, .int .i64 r, .slice none 0 0] 27)).drew.heap[wr.heap.size]? = some (.cells #[.int .i64 d, .int .i64 a, .int .i64 b, .int .i64 r, .slice none 0 0] 27 (0, 0)) := heap_alloc_new wr _
          have hbA := ((Below.refl wr.heap.size wr).alloc (Nat.le_refl _) (.cells #[.int .i64 d, .int .i64 a, .int .i64 b, .int .i64 r, .slice none 0 0] 27)).drew
          have hgl : g < wr.heap.size := by omega
          obtain ⟨W, hW⟩ : ∃ W, W = (wr.alloc (.cells #[.int .i64 d, .int .i64 a, .int .i64 b, .int .i64 r, .slice none 0 0] 27)).drew := ⟨_, rfl⟩
          rw [← hW] at hrow hbA ⊢
          clear hW e1 e2 e3 e4 HA HB HR
          have E0 := Lib.hid e0
          clear e0
          go_wp2_with fail
          go_loopw [9] (fun i wn => ∃ (j : Nat) (A8 : Option Addr) (c8 : Nat) (L8 : List Int), j ≤ 6 ∧ i = .int .i64 (j : Int) ∧ L8.length ≤ j ∧ wn.heap[wr.heap.size]? = some (.cells #[.int .i64 d, .int .i64 a, .int .i64 b, .int .i64 r, .slice A8 L8.length c8] 27 (0, 0)) ∧ wn.ownsRow wr.heap.size 3 1 (.slice A8 L8.length c8) L8.length (ints L8) ∧ Below wr.heap.size wr wn) (fun i _ => 6 - (intOf i).toNat)
          case atStart => exact ⟨0, none, 0, [], by omega, rfl, by simp, hrow, World.ownsRow_nil _ _ _ _, hbA⟩
          case round =>
            clear hrow hbA
            obtain ⟨wo, rfl⟩ : ∃ wo : World, wo = wr := ⟨_, rfl⟩
            obtain ⟨j, A8, c8, L8, hj, rfl, hL8l, hbox, hown8, hb8⟩ := hrel
            have hoz := hb8.size
            have hboxl : wr.heap.size < wo.heap.size := (Array.getElem?_eq_some_iff.1 hbox).1
            have f0 : wo.cell? ⟨g, o + k * 5, none⟩ = some (.int .i64 x.r.f) := (hb8.cell (p := ⟨g, o + k * 5, none⟩) hgl).trans E0.out
            have b0 : wo.cell? ⟨wr.heap.size, 0, none⟩ = some (.int .i64 d) := by rw [cell_of_row wo _ 0 _ _ _ hbox]; rfl
            have b1 : wo.cell? ⟨wr.heap.size, 1, none⟩ = some (.int .i64 a) := by rw [cell_of_row wo _ 1 _ _ _ hbox]; rfl
            have b2 : wo.cell? ⟨wr.heap.size, 2, none⟩ = some (.int .i64 b) := by rw [cell_of_row wo _ 2 _ _ _ hbox]; rfl
            have b3 : wo.cell? ⟨wr.heap.size, 3, none⟩ = some (.int .i64 r) := by rw [cell_of_row wo _ 3 _ _ _ hbox]; rfl
            have b4 : wo.cell? ⟨wr.heap.size, 4, none⟩ = some (.slice A8 L8.length c8) := by rw [cell_of_row wo _ 4 _ _ _ hbox]; rfl
            have bf := frozen_of_row wo wr.heap.size 4 _ _ hbox
            by_cases hlj : j < 6
            · clear b0 b1 b2 b3
              have hlo3 : (0 : Int) ≤ (j : Int) := by omega
              have hhi3 : (j : Int) < 6 := by omega
              go_wp2_with fail
              refine (pick_exT _ 2 _ (by omega) (by omega)).mono ?_
              rintro e w' ⟨y, hya, hyb, rfl, rfl⟩
              obtain ⟨t, ht⟩ : ∃ t, (y == 1) = t := ⟨_, rfl⟩
              cases t with
              | false =>
                go_wp2_with fail
                go_roundw
                case rel => exact ⟨j + 1, A8, c8, L8, by omega, by go_num, by omega, hbox, hown8, hb8⟩
                case measure => simp [intOf]; omega
              | true =>
                have hno := own_ne hown8 hbox (by decide)
                go_wp2_with (at_builtin; go_loud (refine wpList_append_rd (by rfl) (.tmp 63) (.tmp 65) 25 (by rfl) wr.heap.size 3 i1 _ 1 8 Try.underlying25 hi1 hy0 hy1 hy2 rfl (by omega) _ L8.length (ints L8) (by rfl) (hown8.alloc _) (wo.heap.size + 1) (some ⟨wo.heap.size, 0, none⟩) 1 1 [.int .i64 (j : Int)] (by rfl) (Rd.built (heap_alloc_new wo _) (by omega) rfl) (by intro u hu; simp at hu; rcases hu with rfl; rfl) (by unfold maxLen; omega) (by omega) (by simp; omega) ?_); intro v4 w4 hown4 hg4 hat4
                             obtain ⟨A4, c4, rfl, hnc4, hcm4, hA4⟩ := own_form hown4
                             have hbox4 := (hg4.block wr.heap.size (by simp; omega) (fun e => hno e.symm)).trans ((Below.heap_alloc _ _ _ (by omega)).trans hbox)
                             have d4 : w4.cell? ⟨wr.heap.size, 4, none⟩ = some (.slice A8 L8.length c8) := by rw [cell_of_row w4 _ 4 _ _ _ hbox4]; rfl
                             have f4 := frozen_of_row w4 wr.heap.size 4 _ _ hbox4)
                have el : (L8 ++ [(j : Int)]).length = L8.length + 1 := by simp
                have hb11 := (hb8.alloc hb8.size (.cells #[.int .i64 (j : Int)] 3)).grown hg4 (by have := hb8.size; simp; omega) (fun g e => (hown8.lt g e).1)
                have hno4 := own_ne hown4 hbox4 (by decide)
                have hfin := heap_setCell_same w4 wr.heap.size 4 _ _ (.slice A4 (L8.length + 1) c4) hbox4
                refine ⟨⟨j + 1, A4, c4, L8 ++ [(j : Int)], by omega, by go_num, by omega, ?_, ?_, hb11.setCell (Nat.le_refl _) _⟩, by simp [intOf]; omega⟩
                · rw [el]
                  exact hfin
                · rw [el, ints_append]
                  exact ownsRow_setCell_ne (p := ⟨wr.heap.size, 4, none⟩) hown4 hno4 _
            · have hrw8 := hrw.under hb8
              have hrw81 := hrw8.1
              rw [HYL.out] at hrw81
              have hbb8 := hbr.trans (hb8.mono hwsz)
              have hj6 : L8.length ≤ 6 := by omega
              go_wp2_with (at_builtin; go_loud (refine wpList_append_rd (by rfl) (.tmp 68) (.tmp 70) 22 (by rfl) w.heap.size 27 i0 _ 5 56 Try.underlying22 hi0 hz0 hz1 hz2 rfl (by omega) _ k (flat Rv.cells Y) (by rfl) (hrw81.alloc _) (wo.heap.size + 1) (some ⟨wo.heap.size, 0, none⟩) 1 1 [.int .i64 d, .int .i64 a, .int .i64 b, .int .i64 r, .slice A8 L8.length c8] (by rfl) (Rd.built (heap_alloc_new wo _) (by omega) rfl) (by intro u hu; simp at hu; rcases hu with rfl | rfl | rfl | rfl | rfl <;> rfl) (by unfold maxLen; omega) (by omega) (by simp; omega) ?_); intro v4 w4 hown4 hg4 hat4
                           have hbf := (hbb8.alloc hbb8.size (.cells #[.int .i64 d, .int .i64 a, .int .i64 b, .int .i64 r, .slice A8 L8.length c8] 27)).grown hg4 (by have := hbb8.size; simp; omega) (fun g e => (hrw81.lt g e).1)
                           have z4 : w4.cell? ⟨g, o + k * 5, none⟩ = some (.int .i64 x.r.f) := (hbf.cell (p := ⟨g, o + k * 5, none⟩) hgb).trans Z0.out)
              refine (pick_exT x.r.f 15000 _ (by omega) (by omega)).mono ?_
              rintro e w' ⟨q, hq1, hq2, rfl, rfl⟩
              have hba : Below wo.heap.size wo (wo.alloc (.cells #[.int .i64 d, .int .i64 a, .int .i64 b, .int .i64 r, .slice A8 L8.length c8] 27)) := (Below.refl _ _).alloc (Nat.le_refl _) _
              have hfin := Rws.grown (W := wr) (x := ⟨⟨d, a, b, r, L8⟩, A8, c8⟩) hrw.2.1 (hrw8.under hba) (own_under hown8 hba) hwsz hg4 (by rw [HYL.out]; exact hown4)
              clear hg4 hown4 hrw8 hrw81 hrw1 hrw hown8 hbox hba b0 b1 b2 b3 b4 bf f0
              go_wp2_with fail
              go_roundw
              case rel =>
                refine ⟨k + 1, _, Y ++ [⟨⟨d, a, b, r, L8⟩, A8, c8⟩], by omega, by omega, by go_num, rfl, by omega, by omega, by rw [List.length_append, HYL.out]; rfl, fun x hx => ?_, hfin, hbf⟩
                rcases List.mem_append.1 hx with hx | hx
                · exact HYM.out x hx
                · rw [List.mem_singleton.1 hx]
                  exact hj6
              case measure => simp [intOf]; omega
      · have hk12 : k ≤ 12 := by omega
        by_cases h1 : k < n
        all_goals
          by_cases hk0 : k = 0
          · first
              | (exfalso; omega)
              | (have hkn : ¬ (0 : Int) < (k : Int) := by omega
                 clear hk0
                 go_wp2_with fail
                 go_ret
                 exact ⟨A2, k, c2, Y, rfl, hrw.rus HYL.out, by omega, fun x hx => by have := HYM.out x hx; omega, hbr⟩)
          · have hkp : (0 : Int) < (k : Int) := by omega
            have hk2 : 1 ≤ k := by omega
            obtain ⟨g2, rfl, hg2⟩ := hA2 (by omega)
            have hg2b := (hrw1.lt g2 rfl).1
            have hfrz := fun i => hrw1.frozenAt i
            go_wp2_with fail
            refine (pick_nat _ k _ (by omega) (by omega)).mono ?_
            rintro e w' ⟨p, hp, rfl, rfl⟩
            obtain ⟨x, hx⟩ : ∃ x, Y[p]? = some x := ⟨_, List.getElem?_eq_getElem (by rw [HYL.out]; exact hp)⟩
            have HX := Lib.hid hx
            go_wp2_with fail
            refine (pick_exT _ 16 _ (by omega) (by omega)).mono ?_
            rintro e w' ⟨y, hy1', hy2', rfl, rfl⟩
            obtain ⟨b1, hb1⟩ : ∃ b, (y == 1) = b := ⟨_, rfl⟩
            obtain ⟨b2, hb2⟩ : ∃ b, (y == 2) = b := ⟨_, rfl⟩
            obtain ⟨b3, hb3⟩ : ∃ b, (y == 3) = b := ⟨_, rfl⟩
            obtain ⟨b4, hb4⟩ : ∃ b, (y == 4) = b := ⟨_, rfl⟩
            obtain ⟨b5, hb5⟩ : ∃ b, (y == 5) = b := ⟨_, rfl⟩
            have hplo : (0 : Int) ≤ (p : Int) := by omega
            have hphi : (p : Int) < (k : Int) := by omega
            have hxm := HYM.out x (List.mem_of_getElem? HX.out)
            obtain ⟨_, g', o', hA, _, e0, e1, e2, e3, e4, _⟩ := rv_cells (hrw.rus HYL.out) HX.out
            injection hA with hA
            injection hA with hA1 hA2
            subst hA1 hA2
            rw [Nat.zero_add] at e0 e1 e2 e3 e4
            have z0 := hfrz (p * 5)
            have z1 := hfrz (p * 5 + 1)
            have z2 := hfrz (p * 5 + 2)
            have z3 := hfrz (p * 5 + 3)
            have z4 := hfrz (p * 5 + 4)
            clear hx hrw1
            cases b1 with
            | true =>
              clear e1 e2 e3 e4 z1 z2 z3 z4
              go_wp2_with fail
              go_ret
              exact ⟨_, k, c2, _, rfl, Rus.setInt (i := 0) (x' := ⟨⟨mood, x.r.d, x.r.p, x.r.b, x.r.m⟩, x.a, x.c⟩) hrw HYL.out HX.out (by omega) rfl rfl rfl, hk12, set_len HYM.out (by show x.r.m.length ≤ 7; omega) h7, hbr.setCell hg2b _⟩
            | false =>
            cases b2 with
            | true =>
              clear e0 e2 e3 e4 z0 z2 z3 z4
              go_wp2_with fail
              go_ret
              exact ⟨_, k, c2, _, rfl, Rus.setInt (i := 1) (x' := ⟨⟨x.r.f, mood.tmod 100000, x.r.p, x.r.b, x.r.m⟩, x.a, x.c⟩) hrw HYL.out HX.out (by omega) rfl rfl rfl, hk12, set_len HYM.out (by show x.r.m.length ≤ 7; omega) h7, hbr.setCell hg2b _⟩
            | false =>
            cases b3 with
            | true =>
              clear e0 e1 e3 e4 z0 z1 z3 z4
              go_wp2_with fail
              go_ret
              exact ⟨_, k, c2, _, rfl, Rus.setInt (i := 2) (x' := ⟨⟨x.r.f, x.r.d, mood.tmod 100000, x.r.b, x.r.m⟩, x.a, x.c⟩) hrw HYL.out HX.out (by omega) rfl rfl rfl, hk12, set_len HYM.out (by show x.r.m.length ≤ 7; omega) h7, hbr.setCell hg2b _⟩
            | false =>
            cases b4 with
            | true =>
              clear e0 e1 e2 e4 z0 z1 z2 z4
              go_wp2_with fail
              go_ret
              exact ⟨_, k, c2, _, rfl, Rus.setInt (i := 3) (x' := ⟨⟨x.r.f, x.r.d, x.r.p, mood.tmod 130, x.r.m⟩, x.a, x.c⟩) hrw HYL.out HX.out (by omega) rfl rfl rfl, hk12, set_len HYM.out (by show x.r.m.length ≤ 7; omega) h7, hbr.setCell hg2b _⟩
            | false =>
            cases b5 with
            | true =>
              clear e0 e1 e2 e3 z0 z1 z2 z3
              have hmo : wr.ownsRow w.heap.size 3 1 (.slice x.a x.r.m.length x.c) x.r.m.length (ints x.r.m) := hrw.2.1 x (List.mem_of_getElem? HX.out)
              have hro := hrw.1
              rw [HYL.out] at hro
              have hap := own_apart hro hmo (by decide)
              have hget : (flat Rv.cells Y)[p * 5 + 4]? = some (.slice x.a x.r.m.length x.c) := by rw [flat_get rv_len Y p 4 x HX.out (by omega)]; rfl
              have HG := Lib.hid hget
              clear hget
              go_wp2_with (at_builtin; go_loud (refine wpList_append_rd (by rfl) (.tmp 131) (.tmp 134) 25 (by rfl) w.heap.size 3 i1 _ 1 8 Try.underlying25 hi1 hy0 hy1 hy2 rfl (by omega) _ x.r.m.length (ints x.r.m) (by rfl) (hmo.alloc _) (wr.heap.size + 1) (some ⟨wr.heap.size, 0, none⟩) 1 1 [.int .i64 (mood.tmod 8)] (by rfl) (Rd.built (heap_alloc_new wr _) (by omega) rfl) (by intro u hu; simp at hu; rcases hu with rfl; rfl) (by unfold maxLen; omega) (by omega) (by simp; omega) ?_); intro v4 w4 hown4 hg4 hat4
                           obtain ⟨A4, c4, rfl, hnc4, hcm4, hA4⟩ := own_form hown4
                           have hro4 := (hro.alloc (.cells #[.int .i64 (mood.tmod 8)] 3)).kept hg4 hap
                           have d4 : w4.cell? ⟨g2, p * 5 + 4, none⟩ = some (.slice x.a x.r.m.length x.c) := by
                             have := hro4.cells (g := g2) rfl (p * 5 + 4) _ HG.out
                             rwa [addAt, Nat.zero_add] at this
                           have f4 := hro4.frozenAt (p * 5 + 4))
              go_ret
              have el : (x.r.m ++ [mood.tmod 8]).length = x.r.m.length + 1 := by simp
              have hg5 : wr.grownBy w4 x.v.ownBlock := grownBy_trans (World.grownBy_alloc wr (.cells #[.int .i64 (mood.tmod 8)] 3) _) hg4
              have hown5 : w4.ownsRow w.heap.size 3 1 (.slice A4 (x.r.m ++ [mood.tmod 8]).length c4) (x.r.m ++ [mood.tmod 8]).length (ints (x.r.m ++ [mood.tmod 8])) := by
                rw [el, ints_append]
                exact hown4
              have hb4 := (hbr.alloc hbr.size (.cells #[.int .i64 (mood.tmod 8)] 3)).grown hg4 (by have := hbr.size; simp; omega) (fun g e => (hmo.lt g e).1)
              have hfin := Rus.setMem hrw HYL.out HX.out hg5 hown5
              rw [el] at hfin
              exact ⟨_, k, c2, _, rfl, hfin, hk12, set_len HYM.out (by show (x.r.m ++ [mood.tmod 8]).length ≤ 7; rw [el]; omega) h7, hb4.setCell hg2b _⟩
            | false =>
              clear e0 e1 e2 e3 e4 z0 z1 z2 z3 z4
              go_wp2_with fail
              go_ret
              exact ⟨_, k, c2, Y, rfl, hrw.rus HYL.out, hk12, fun x hx => by have := HYM.out x hx; omega, hbr⟩
end Go.Proofs.Ythncjohekjnjaaa
