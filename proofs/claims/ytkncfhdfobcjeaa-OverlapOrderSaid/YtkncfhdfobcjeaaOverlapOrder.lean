/- The walk of OverlapOrder. -/
import Derived.Test.YtkncfhdfobcjeaaOvP
import Derived.Test.YtkncfhdfobcjeaaOvY2
import Derived.Test.YtkncfhdfobcjeaaSpChain
import Derived.Deep.CutRange
import Derived.BigRegion
namespace Go.Proofs.Ytkncfhdfobcjeaa
open Go.RowKit

set_option maxRecDepth 100000 in
set_option maxHeartbeats 40000000 in
theorem walkOverlapOrder (A : Option Addr) (n c : Nat) (l : List Pr) (sc : Int) (Ao : Option Addr) (no co : Nat) (lo : List Int) (at2 cu : Int) (w : World) (h : Rd w w.heap.size 4 A n (flat Pr.cells l)) (hn : l.length = n) (hok : ∀ p ∈ l, p.ok) (_ : n ≤ maxLen) (_ : I64 sc) (ho : Rd w w.heap.size 1 Ao no (ints lo)) (hno : lo.length = no) (_ : ∀ p ∈ lo, I64 p) (_ : no ≤ maxLen) (_ : I64 at2) (_ : I64 cu) :
    Calls Try.prog 8 #[.slice A n c, .int .i64 sc, .slice Ao no co, .int .i64 at2, .int .i64 cu] w fun e w' => e = .returned (.bool true) ∧ Below w.heap.size w w' := by
  by_cases hbig : 30 < n
  · have hbig2 : (30 : Int) < (n : Int) := by omega
    go_enter Try.func8, Try.ntmps8
    go_wp2_with fail
    go_ret
    exact ⟨rfl, Below.refl _ _⟩
  have hbig2 : ¬ (30 : Int) < (n : Int) := by omega
  have HN := Lib.hid hn
  clear hn
  by_cases hbigo : 60 < no
  · have hbigo2 : (60 : Int) < (no : Int) := by omega
    go_enter Try.func8, Try.ntmps8
    go_wp2_with fail
    go_ret
    exact ⟨rfl, Below.refl _ _⟩
  have hbigo2 : ¬ (60 : Int) < (no : Int) := by omega
  go_enter Try.func8, Try.ntmps8
  go_wp2_with fail
  refine (claims_any sc h HN.out hok (by omega)).mono ?_
  rintro e w1 ⟨A1, c1, C, rfl, h1, hl1, ho1, hb1⟩
  have HL := Lib.hid hl1
  have HO := Lib.hid ho1
  have hb1z := hb1.size
  clear h hl1 ho1 HN hok
  obtain ⟨i0, hi0, hz0, hz1, hz2⟩ := info_parts info_period
  have ho1 := (ho.below hb1).mono hb1z
  clear ho
  have HON := Lib.hid hno
  clear hno
  go_wp2_with (at_builtin; go_loud (refine wpList_append_rd (by rfl) (.const (.slice none 0 0)) (.tmp 30) 41 (by rfl) w1.heap.size 50 i0 _ 4 32 Try.underlying41 hi0 hz0 hz1 hz2 rfl (by omega) (.slice none 0 0) 0 [] (by rfl) (World.ownsRow_nil _ _ _ _) w1.heap.size A1 n c1 (flat Pr.cells C) (by rfl) h1 (pr_one C) (by unfold maxLen; omega) (by omega) (Nat.le_refl _) ?_); intro v4 w4 hown4 hg4 hat4)
  rw [Nat.zero_add, List.nil_append] at hown4
  have hb4 : Below w1.heap.size w1 w4 := (Below.refl _ _).grown hg4 (Nat.le_refl _) (fun g e => by cases e)
  obtain ⟨A2, c2, rfl, hnc2, hcm2, hA2⟩ := own_form hown4
  clear hg4 hat4
  rcases Nat.eq_zero_or_pos n with hz | hn0
  · have hCn : C = [] := List.eq_nil_of_length_eq_zero (by rw [HL.out]; exact hz)
    subst hz
    go_loopw [13] (fun i wr => i = .int .i64 0 ∧ wr.ownsRow w1.heap.size 50 4 (.slice A2 0 c2) 0 (flat Pr.cells C) ∧ Below w1.heap.size w1 wr) (fun i _ => no - (intOf i).toNat)
    case atStart => exact ⟨rfl, hown4, hb4⟩
    case round =>
      obtain ⟨rfl, hown, hb⟩ := hrel
      clear hown4 hb4 hA2
      by_cases hlt : (0 : Int) < (no : Int)
      · have d0 : decide ((0 : Int) < (no : Int)) = true := decide_eq_true hlt
        have hDR := Rd.ofOwn hown
        have h1x := (h1.below hb).mono hb.size
        have hbx := hb1.trans (hb.mono hb1z)
        have HDL2 : Hid (C.length = 0) := Lib.hid (HL.out)
        go_wp2_with fail
        refine (awk_any wr).mono ?_
        rintro e wa ⟨rfl, hba⟩
        have hDa := (hDR.below hba).mono hba.size
        have h1a := (h1x.below hba).mono hba.size
        have hbba := hbx.trans (hba.mono hbx.size)
        clear hDR h1x hbx hba
        go_wp2_with fail
        refine (resolve_any h1a HL.out (by omega)).mono ?_
        intro e w5 hr
        obtain ⟨A5, c5, R, rfl, hR, -, hRl, h5, hb5⟩ := hr.open (n := 40) (by have := HL.out; omega)
        have hD5 := (hDa.below hb5).mono hb5.size
        have hbb5 := hbba.trans (hb5.mono hbba.size)
        have HR := Lib.hid hR
        clear hr hR hDa h1a hbba hb5
        go_wp2_with fail
        refine (resolve_any hD5 HDL2.out (by omega)).mono ?_
        intro e w6 hr
        obtain ⟨A6, c6, R6, rfl, hR6, -, hRl6, h6, hb6⟩ := hr.open (n := 40) (by have := HDL2.out; omega)
        have h56 := (h5.below hb6).mono hb6.size
        have hbb6 := hbb5.trans (hb6.mono hbb5.size)
        have HE := Lib.hid (res_unique HR.out (res_congr (fun _ _ _ => rfl) hR6))
        clear hr hR6 hD5 h5 hbb5 hb6 HR
        go_wp2_with fail
        refine (samect_any h56 h6 (by rw [List.length_map]) (by rw [List.length_map]) (by omega) (by rw [HE.out])).mono ?_
        rintro e w7 ⟨rfl, hb7⟩
        go_wp2_with fail
        go_ret
        exact ⟨rfl, hbb6.trans (hb7.mono hbb6.size)⟩
      · have d0 : decide ((0 : Int) < (no : Int)) = false := decide_eq_false hlt
        have hDR := Rd.ofOwn hown
        have h1x := (h1.below hb).mono hb.size
        have hbx := hb1.trans (hb.mono hb1z)
        have HDL2 : Hid (C.length = 0) := Lib.hid (HL.out)
        go_wp2_with fail
        refine (awk_any wr).mono ?_
        rintro e wa ⟨rfl, hba⟩
        have hDa := (hDR.below hba).mono hba.size
        have h1a := (h1x.below hba).mono hba.size
        have hbba := hbx.trans (hba.mono hbx.size)
        clear hDR h1x hbx hba
        go_wp2_with fail
        refine (resolve_any h1a HL.out (by omega)).mono ?_
        intro e w5 hr
        obtain ⟨A5, c5, R, rfl, hR, -, hRl, h5, hb5⟩ := hr.open (n := 40) (by have := HL.out; omega)
        have hD5 := (hDa.below hb5).mono hb5.size
        have hbb5 := hbba.trans (hb5.mono hbba.size)
        have HR := Lib.hid hR
        clear hr hR hDa h1a hbba hb5
        go_wp2_with fail
        refine (resolve_any hD5 HDL2.out (by omega)).mono ?_
        intro e w6 hr
        obtain ⟨A6, c6, R6, rfl, hR6, -, hRl6, h6, hb6⟩ := hr.open (n := 40) (by have := HDL2.out; omega)
        have h56 := (h5.below hb6).mono hb6.size
        have hbb6 := hbb5.trans (hb6.mono hbb5.size)
        have HE := Lib.hid (res_unique HR.out (res_congr (fun _ _ _ => rfl) hR6))
        clear hr hR6 hD5 h5 hbb5 hb6 HR
        go_wp2_with fail
        refine (samect_any h56 h6 (by rw [List.length_map]) (by rw [List.length_map]) (by omega) (by rw [HE.out])).mono ?_
        rintro e w7 ⟨rfl, hb7⟩
        go_wp2_with fail
        go_ret
        exact ⟨rfl, hbb6.trans (hb7.mono hbb6.size)⟩
  have hn0' : (0 : Int) < (n : Int) := by omega
  obtain ⟨g, rfl, hgl4⟩ := hA2 hn0
  go_loopw [13] (fun i wr => ∃ (j : Nat) (D : List Pr), j ≤ no ∧ i = .int .i64 (j : Int) ∧ D.length = n ∧ (∀ p, p ∈ D ↔ p ∈ C) ∧ wr.ownsRow w1.heap.size 50 4 (.slice (some ⟨g, 0, none⟩) n c2) n (flat Pr.cells D) ∧ Below w1.heap.size w1 wr) (fun i _ => no - (intOf i).toNat)
  case atStart => exact ⟨0, C, by omega, rfl, HL.out, fun _ => Iff.rfl, hown4, hb4⟩
  case round =>
    obtain ⟨j, D, hj, rfl, hDl, hDm, hown, hb⟩ := hrel
    have hwz := hb.size
    have HDL := Lib.hid hDl
    have HDM := Lib.hid hDm
    have hgl : g < wr.heap.size := (hown.lt g rfl).2
    clear hown4 hb4 hDl hDm
    by_cases hlt : j < no
    · skip
      obtain ⟨y, hy⟩ : ∃ y, lo[j]? = some y := ⟨_, List.getElem?_eq_getElem (by rw [HON.out]; exact hlt)⟩
      obtain ⟨_, b, oo, rfl, hbb, q0⟩ := (ho1.below hb).int hy
      have hlo : (0 : Int) ≤ (j : Int) := by omega
      have hhi : (j : Int) < (no : Int) := by omega
      have hnz : ((n : Int) == 0) = false := beq_eq_false_iff_ne.2 (by omega)
      have hnz2 : ¬ (n : Int) = 0 := by omega
      clear hy
      go_upto_region 8 with (fail)
      go_cut [14, 15] from 32 to 67 (fun a b wx => (∃ k m : Nat, k < n ∧ m < n ∧ a = .int .i64 (k : Int) ∧ b = .int .i64 (m : Int)) ∧ ∃ nq, wx = wr.drewN nq)
      case first =>
        go_quiet ((go_at_call 15; with_reducible exact quiet_left (pick_any y (n : Int) _ (by omega))))
        go_wp2_with fail
        go_meet
        obtain ⟨hk0, hk1⟩ := pick_bd y (n : Int) (by omega)
        refine ⟨⟨(pick y (n : Int)).toNat, j % n, by omega, Nat.mod_lt _ hn0, by rw [Int.toNat_of_nonneg hk0], by simp⟩, _, rfl⟩
      case rest =>
        obtain ⟨⟨k, m, hk, hm, rfl, rfl⟩, nq, rfl⟩ := hcut
        have hownq : (wr.drewN nq).ownsRow w1.heap.size 50 4 (.slice (some ⟨g, 0, none⟩) n c2) n (flat Pr.cells D) := hown
        have hbq := below_drewN hb nq
        obtain ⟨W, hW⟩ : ∃ W, W = wr.drewN nq := ⟨_, rfl⟩
        rw [← hW] at hownq hbq ⊢
        clear hW hown hb q0
        have hgw : w1.heap.size ≤ g := (hownq.lt g rfl).1
        obtain ⟨xk, hxk⟩ : ∃ x, D[k]? = some x := ⟨_, List.getElem?_eq_getElem (by rw [HDL.out]; exact hk)⟩
        obtain ⟨xm, hxm⟩ : ∃ x, D[m]? = some x := ⟨_, List.getElem?_eq_getElem (by rw [HDL.out]; exact hm)⟩
        have hkl : k < D.length := by rw [HDL.out]; exact hk
        have hml : m < D.length := by rw [HDL.out]; exact hm
        have ek0 := pcell hownq hxk 0 _ rfl
        have ek1 := pcell hownq hxk 1 _ rfl
        have ek2 := pcell hownq hxk 2 _ rfl
        have ek3 := pcell hownq hxk 3 _ rfl
        have em0 := pcell hownq hxm 0 _ rfl
        have em1 := pcell hownq hxm 1 _ rfl
        have em2 := pcell hownq hxm 2 _ rfl
        have em3 := pcell hownq hxm 3 _ rfl
        rw [Nat.add_zero] at ek0 em0
        have fk0 := hownq.frozenAt (k * 4)
        have fk1 := hownq.frozenAt (k * 4 + 1)
        have fk2 := hownq.frozenAt (k * 4 + 2)
        have fk3 := hownq.frozenAt (k * 4 + 3)
        have fm0 := hownq.frozenAt (m * 4)
        have fm1 := hownq.frozenAt (m * 4 + 1)
        have fm2 := hownq.frozenAt (m * 4 + 2)
        have fm3 := hownq.frozenAt (m * 4 + 3)
        have hk0 : (0 : Int) ≤ (k : Int) := by omega
        have hk1 : (k : Int) < (n : Int) := by omega
        have hm0 : (0 : Int) ≤ (m : Int) := by omega
        have hm1 : (m : Int) < (n : Int) := by omega
        have hkx : k = m → xm = xk := fun e => by subst e; rw [hxk] at hxm; cases hxm; rfl
        have HSWO := swOK (w1 := w1) (C := C) hownq hbq hgw hxk hxm HDM.out HDL.out
        clear hxk hxm hownq hbq HDL HDM HL HO h1 ho1 HON hi0 hz0 hz1 hz2 hb1 hb1z hgw hgl hgl4 hwz hnc2 hcm2 hbb hnz hnz2 hbig hbig2
        go_upto_region 9 with (fail)
        by_cases hkm : k = m
        · subst hkm
          obtain rfl := hkx rfl
          clear hkx
          apply wp_last
          case h =>
            go_big_region
            all_goals exact ⟨rfl, rfl⟩
          case h2 =>
            go_wp2_with fail
            go_roundw
            case rel => exact ⟨j + 1, _, by omega, by go_num, HSWO.2.1, HSWO.1, HSWO.2.2.1, HSWO.2.2.2⟩
            case measure => simp [intOf]; omega
        · skip
          have n00 : ¬ (k * 4 = m * 4) := by omega
          have q00 : ¬ (m * 4 = k * 4) := by omega
          have n01 : ¬ (k * 4 = m * 4 + 1) := by omega
          have q01 : ¬ (m * 4 + 1 = k * 4) := by omega
          have n02 : ¬ (k * 4 = m * 4 + 2) := by omega
          have q02 : ¬ (m * 4 + 2 = k * 4) := by omega
          have n03 : ¬ (k * 4 = m * 4 + 3) := by omega
          have q03 : ¬ (m * 4 + 3 = k * 4) := by omega
          have n10 : ¬ (k * 4 + 1 = m * 4) := by omega
          have q10 : ¬ (m * 4 = k * 4 + 1) := by omega
          have n11 : ¬ (k * 4 + 1 = m * 4 + 1) := by omega
          have q11 : ¬ (m * 4 + 1 = k * 4 + 1) := by omega
          have n12 : ¬ (k * 4 + 1 = m * 4 + 2) := by omega
          have q12 : ¬ (m * 4 + 2 = k * 4 + 1) := by omega
          have n13 : ¬ (k * 4 + 1 = m * 4 + 3) := by omega
          have q13 : ¬ (m * 4 + 3 = k * 4 + 1) := by omega
          have n20 : ¬ (k * 4 + 2 = m * 4) := by omega
          have q20 : ¬ (m * 4 = k * 4 + 2) := by omega
          have n21 : ¬ (k * 4 + 2 = m * 4 + 1) := by omega
          have q21 : ¬ (m * 4 + 1 = k * 4 + 2) := by omega
          have n22 : ¬ (k * 4 + 2 = m * 4 + 2) := by omega
          have q22 : ¬ (m * 4 + 2 = k * 4 + 2) := by omega
          have n23 : ¬ (k * 4 + 2 = m * 4 + 3) := by omega
          have q23 : ¬ (m * 4 + 3 = k * 4 + 2) := by omega
          have n30 : ¬ (k * 4 + 3 = m * 4) := by omega
          have q30 : ¬ (m * 4 = k * 4 + 3) := by omega
          have n31 : ¬ (k * 4 + 3 = m * 4 + 1) := by omega
          have q31 : ¬ (m * 4 + 1 = k * 4 + 3) := by omega
          have n32 : ¬ (k * 4 + 3 = m * 4 + 2) := by omega
          have q32 : ¬ (m * 4 + 2 = k * 4 + 3) := by omega
          have n33 : ¬ (k * 4 + 3 = m * 4 + 3) := by omega
          have q33 : ¬ (m * 4 + 3 = k * 4 + 3) := by omega
          apply wp_last
          case h =>
            go_big_region
            all_goals exact ⟨rfl, rfl⟩
          case h2 =>
            go_wp2_with fail
            go_roundw
            case rel => exact ⟨j + 1, _, by omega, by go_num, HSWO.2.1, HSWO.1, HSWO.2.2.1, HSWO.2.2.2⟩
            case measure => simp [intOf]; omega
    · obtain ⟨k, hk, hkp⟩ : ∃ k : Nat, k < n ∧ pick at2 (n : Int) = (k : Int) := by
        obtain ⟨a, b⟩ := pick_bd at2 (n : Int) (by omega)
        exact ⟨(pick at2 (n : Int)).toNat, by omega, by rw [Int.toNat_of_nonneg a]⟩
      have HKP := Lib.hid hkp
      clear hkp
      go_upto_region 11 with (fail)
      go_wp2_with fail
      refine (pick_to at2 (n : Int) (k : Int) _ (by omega) HKP.out).mono ?_
      rintro e w' ⟨rfl, rfl⟩
      obtain ⟨y, hy⟩ : ∃ y, D[k]? = some y := ⟨_, List.getElem?_eq_getElem (by rw [HDL.out]; exact hk)⟩
      have y0 := pcell hown hy 0 _ rfl
      have y1 := pcell hown hy 1 _ rfl
      have y2 := pcell hown hy 2 _ rfl
      have y3 := pcell hown hy 3 _ rfl
      rw [Nat.add_zero] at y0
      have hk0 : (0 : Int) ≤ (k : Int) := by omega
      have hk1 : (k : Int) < (n : Int) := by omega
      have hgw : w1.heap.size ≤ g := (hown.lt g rfl).1
      have HY := Lib.hid hy
      clear hy
      go_upto_region 13 with (fail)
      have hrow := heap_alloc_new wr (.cells #[.int .i64 y.s, .int .i64 y.r, .int .i64 y.f, .int .i64 y.t] 50)
      have hbA := (Below.refl wr.heap.size wr).alloc (Nat.le_refl _) (.cells #[.int .i64 y.s, .int .i64 y.r, .int .i64 y.f, .int .i64 y.t] 50)
      obtain ⟨W, hW⟩ : ∃ W, W = wr.alloc (.cells #[.int .i64 y.s, .int .i64 y.r, .int .i64 y.f, .int .i64 y.t] 50) := ⟨_, rfl⟩
      rw [← hW] at hrow hbA ⊢
      have hownW := own_under hown hbA
      have hbW := hb.trans (hbA.mono hwz)
      have hzW : wr.heap.size < W.heap.size := (Array.getElem?_eq_some_iff.1 hrow).1
      have b0 : W.cell? ⟨wr.heap.size, 0, none⟩ = some (.int .i64 y.s) := by rw [cell_of_row W _ 0 _ _ _ hrow]; rfl
      have b1 : W.cell? ⟨wr.heap.size, 1, none⟩ = some (.int .i64 y.r) := by rw [cell_of_row W _ 1 _ _ _ hrow]; rfl
      have b2 : W.cell? ⟨wr.heap.size, 2, none⟩ = some (.int .i64 y.f) := by rw [cell_of_row W _ 2 _ _ _ hrow]; rfl
      have b3 : W.cell? ⟨wr.heap.size, 3, none⟩ = some (.int .i64 y.t) := by rw [cell_of_row W _ 3 _ _ _ hrow]; rfl
      clear hW hbA y0 y1 y2 y3 hown hb
      have hng : g ≠ wr.heap.size := by omega
      by_cases cc0 : 0 ≤ y.f
      · have d0 : decide (0 ≤ y.f) = true := decide_eq_true cc0
        by_cases cc1 : y.t ≤ 73049
        · have d1 : decide (y.t ≤ 73049) = true := decide_eq_true cc1
          by_cases cc2 : y.f < y.t
          · have d2 : decide (y.f < y.t) = true := decide_eq_true cc2
            have hw1 : IntKind.i64.wrap (y.t - y.f) = y.t - y.f := IntWalk.i64_in _ (by omega)
            have hw2 : IntKind.i64.wrap (y.t - y.f + 1) = y.t - y.f + 1 := IntWalk.i64_in _ (by omega)
            obtain ⟨hq0, hq1⟩ := pick_bd cu (y.t - y.f + 1) (by omega)
            obtain ⟨q, hq⟩ : ∃ q, pick cu (y.t - y.f + 1) = q := ⟨_, rfl⟩
            rw [hq] at hq0 hq1
            have hw3 : IntKind.i64.wrap (y.f + q) = y.f + q := IntWalk.i64_in _ (by omega)
            have HQ := Lib.hid hq
            have hqc : y.t - y.f + 1 ≤ 4611686018427387904 := by omega
            clear hq
            go_upto_region 14 with (fail)
            go_quiet ((go_at_call 15; with_reducible exact quiet_left (pick_to cu (y.t - y.f + 1) q _ hqc HQ.out)))
            have hrowV : (W.drewN nq).heap[wr.heap.size]? = some (.cells #[.int .i64 y.s, .int .i64 y.r, .int .i64 y.f, .int .i64 y.t] 50 (0, 0)) := hrow
            have hownV : (W.drewN nq).ownsRow w1.heap.size 50 4 (.slice (some ⟨g, 0, none⟩) n c2) n (flat Pr.cells D) := hownW
            have hbV := below_drewN hbW nq
            go_upto_region 15 with (fail)
            obtain ⟨V, hV⟩ : ∃ V, V = W.drewN nq := ⟨_, rfl⟩
            rw [← hV] at hrowV hownV hbV ⊢
            clear hV b0 b1 b2 b3 hownW hbW hrow hw1 hw2 hw3
            have z3 := pcell hownV HY.out 3 _ rfl
            have zf := hownV.frozenAt (k * 4 + 3)
            go_upto_region 16 with (fail)
            have hrow1 : (V.setCell ⟨g, k * 4 + 3, none⟩ (.int .i64 (y.f + q))).heap[wr.heap.size]? = some (.cells #[.int .i64 y.s, .int .i64 y.r, .int .i64 y.f, .int .i64 y.t] 50 (0, 0)) := (heap_setCell_other V ⟨g, k * 4 + 3, none⟩ wr.heap.size _ (by show wr.heap.size ≠ g; omega)).trans hrowV
            have hown1 := own_setT hownV HY.out (y.f + q)
            have hb2 := hbV.setCell (p := ⟨g, k * 4 + 3, none⟩) hgw (.int .i64 (y.f + q))
            obtain ⟨V1, hV1⟩ : ∃ U, U = V.setCell ⟨g, k * 4 + 3, none⟩ (.int .i64 (y.f + q)) := ⟨_, rfl⟩
            rw [← hV1] at hrow1 hown1 hb2 ⊢
            clear hV1 z3 zf hrowV hownV hbV
            have b2 : V1.cell? ⟨wr.heap.size, 2, none⟩ = some (.int .i64 y.f) := by rw [cell_of_row V1 _ 2 _ _ _ hrow1]; rfl
            have bf := frozen_of_row V1 wr.heap.size 2 _ _ hrow1
            go_upto_region 17 with (fail)
            have hrow2 : (V1.setCell ⟨wr.heap.size, 2, none⟩ (.int .i64 (y.f + q))).heap[wr.heap.size]? = some (.cells #[.int .i64 y.s, .int .i64 y.r, .int .i64 (y.f + q), .int .i64 y.t] 50 (0, 0)) := heap_setCell_same V1 wr.heap.size 2 _ _ (.int .i64 (y.f + q)) hrow1
            have hown2 := ownsRow_setCell_ne (p := ⟨wr.heap.size, 2, none⟩) hown1 (by simp [Value.ownBlock]; omega) (.int .i64 (y.f + q))
            have hb3 := hb2.setCell (p := ⟨wr.heap.size, 2, none⟩) hwz (.int .i64 (y.f + q))
            obtain ⟨V2, hV2⟩ : ∃ U, U = V1.setCell ⟨wr.heap.size, 2, none⟩ (.int .i64 (y.f + q)) := ⟨_, rfl⟩
            rw [← hV2] at hrow2 hown2 hb3 ⊢
            clear hV2 b2 bf hrow1 hown1 hb2
            have hzV2 : wr.heap.size < V2.heap.size := (Array.getElem?_eq_some_iff.1 hrow2).1
            have x0 : V2.cell? ⟨wr.heap.size, 0, none⟩ = some (.int .i64 y.s) := by rw [cell_of_row V2 _ 0 _ _ _ hrow2]; rfl
            have x1 : V2.cell? ⟨wr.heap.size, 1, none⟩ = some (.int .i64 y.r) := by rw [cell_of_row V2 _ 1 _ _ _ hrow2]; rfl
            have x2 : V2.cell? ⟨wr.heap.size, 2, none⟩ = some (.int .i64 (y.f + q)) := by rw [cell_of_row V2 _ 2 _ _ _ hrow2]; rfl
            have x3 : V2.cell? ⟨wr.heap.size, 3, none⟩ = some (.int .i64 y.t) := by rw [cell_of_row V2 _ 3 _ _ _ hrow2]; rfl
            have HDS : Hid (∀ s r x, Dd (D.set k ⟨y.s, y.r, y.f, y.f + q⟩ ++ [⟨y.s, y.r, y.f + q, y.t⟩]) s r x = Dd C s r x) := Lib.hid fun s r x => (dd_split HY.out (by omega) (by omega) s r x).trans (dd_mem HDM.out s r x)
            have HLS : Hid ((D.set k ⟨y.s, y.r, y.f, y.f + q⟩ ++ [(⟨y.s, y.r, y.f + q, y.t⟩ : Pr)]).length = n + 1) := Lib.hid (by rw [List.length_append, List.length_set, HDL.out]; rfl)
            have HEF : Hid (flat Pr.cells (D.set k ⟨y.s, y.r, y.f, y.f + q⟩ ++ [(⟨y.s, y.r, y.f + q, y.t⟩ : Pr)]) = flat Pr.cells (D.set k ⟨y.s, y.r, y.f, y.f + q⟩) ++ [.int .i64 y.s, .int .i64 y.r, .int .i64 (y.f + q), .int .i64 y.t]) := Lib.hid (by rw [flat_append, flat_one]; rfl)
            go_wp2_with (at_builtin; go_loud (refine wpList_append_rd (by rfl) (.tmp 121) (.tmp 123) 41 (by rfl) w1.heap.size 50 i0 _ 4 32 Try.underlying41 hi0 hz0 hz1 hz2 rfl (by omega) (.slice (some ⟨g, 0, none⟩) n c2) n (flat Pr.cells (D.set k ⟨y.s, y.r, y.f, y.f + q⟩)) (by rfl) (hown2.alloc _) (V2.heap.size + 1) (some ⟨V2.heap.size, 0, none⟩) 1 1 [.int .i64 y.s, .int .i64 y.r, .int .i64 (y.f + q), .int .i64 y.t] (by rfl) (Rd.built (heap_alloc_new V2 _) (by omega) rfl) (by intro u hu; simp at hu; rcases hu with rfl | rfl | rfl | rfl <;> rfl) (by unfold maxLen; omega) (by omega) (by simp; omega) ?_); intro v5 w5 hown5 hg5 hat5; obtain ⟨A5, c5, rfl, _, _, _⟩ := own_form hown5)
            have hb5' := (hb3.alloc hb3.size (.cells #[.int .i64 y.s, .int .i64 y.r, .int .i64 (y.f + q), .int .i64 y.t] 50)).grown hg5 (by have := hb3.size; simp; omega) (fun g e => by have := (hown2.lt g e).1; omega)
            have hown6 : w5.ownsRow w1.heap.size 50 4 (.slice A5 (n + 1) c5) (n + 1) (flat Pr.cells (D.set k ⟨y.s, y.r, y.f, y.f + q⟩ ++ [(⟨y.s, y.r, y.f + q, y.t⟩ : Pr)])) := by rw [HEF.out]; exact hown5
            clear hown5 hg5 hat5 hb3 hown2
            generalize hE : D.set k ⟨y.s, y.r, y.f, y.f + q⟩ ++ [(⟨y.s, y.r, y.f + q, y.t⟩ : Pr)] = E at *
            clear hE HEF
            have hDR := Rd.ofOwn hown6
            have h1x := (h1.below hb5').mono hb5'.size
            have hbx := hb1.trans (hb5'.mono hb1z)
            have HDL2 : Hid (E.length = (n + 1)) := Lib.hid (HLS.out)
            go_wp2_with fail
            refine (awk_any w5).mono ?_
            rintro e wa ⟨rfl, hba⟩
            have hDa := (hDR.below hba).mono hba.size
            have h1a := (h1x.below hba).mono hba.size
            have hbba := hbx.trans (hba.mono hbx.size)
            clear hDR h1x hbx hba
            go_wp2_with fail
            refine (resolve_any h1a HL.out (by omega)).mono ?_
            intro e w5 hr
            obtain ⟨A5, c5, R, rfl, hR, -, hRl, h5, hb5⟩ := hr.open (n := 40) (by have := HL.out; omega)
            have hD5 := (hDa.below hb5).mono hb5.size
            have hbb5 := hbba.trans (hb5.mono hbba.size)
            have HR := Lib.hid hR
            clear hr hR hDa h1a hbba hb5
            go_wp2_with fail
            refine (resolve_any hD5 HDL2.out (by omega)).mono ?_
            intro e w6 hr
            obtain ⟨A6, c6, R6, rfl, hR6, -, hRl6, h6, hb6⟩ := hr.open (n := 40) (by have := HDL2.out; omega)
            have h56 := (h5.below hb6).mono hb6.size
            have hbb6 := hbb5.trans (hb6.mono hbb5.size)
            have HE := Lib.hid (res_unique HR.out (res_congr HDS.out hR6))
            clear hr hR6 hD5 h5 hbb5 hb6 HR
            go_wp2_with fail
            refine (samect_any h56 h6 (by rw [List.length_map]) (by rw [List.length_map]) (by omega) (by rw [HE.out])).mono ?_
            rintro e w7 ⟨rfl, hb7⟩
            go_wp2_with fail
            go_ret
            exact ⟨rfl, hbb6.trans (hb7.mono hbb6.size)⟩
          · have d2 : decide (y.f < y.t) = false := decide_eq_false cc2
            have hDR := Rd.ofOwn hownW
            have h1x := (h1.below hbW).mono hbW.size
            have hbx := hb1.trans (hbW.mono hb1z)
            have HDL2 : Hid (D.length = n) := Lib.hid (HDL.out)
            go_wp2_with fail
            refine (awk_any W).mono ?_
            rintro e wa ⟨rfl, hba⟩
            have hDa := (hDR.below hba).mono hba.size
            have h1a := (h1x.below hba).mono hba.size
            have hbba := hbx.trans (hba.mono hbx.size)
            clear hDR h1x hbx hba
            go_wp2_with fail
            refine (resolve_any h1a HL.out (by omega)).mono ?_
            intro e w5 hr
            obtain ⟨A5, c5, R, rfl, hR, -, hRl, h5, hb5⟩ := hr.open (n := 40) (by have := HL.out; omega)
            have hD5 := (hDa.below hb5).mono hb5.size
            have hbb5 := hbba.trans (hb5.mono hbba.size)
            have HR := Lib.hid hR
            clear hr hR hDa h1a hbba hb5
            go_wp2_with fail
            refine (resolve_any hD5 HDL2.out (by omega)).mono ?_
            intro e w6 hr
            obtain ⟨A6, c6, R6, rfl, hR6, -, hRl6, h6, hb6⟩ := hr.open (n := 40) (by have := HDL2.out; omega)
            have h56 := (h5.below hb6).mono hb6.size
            have hbb6 := hbb5.trans (hb6.mono hbb5.size)
            have HE := Lib.hid (res_unique HR.out (res_congr (fun s r x => dd_mem HDM.out s r x) hR6))
            clear hr hR6 hD5 h5 hbb5 hb6 HR
            go_wp2_with fail
            refine (samect_any h56 h6 (by rw [List.length_map]) (by rw [List.length_map]) (by omega) (by rw [HE.out])).mono ?_
            rintro e w7 ⟨rfl, hb7⟩
            go_wp2_with fail
            go_ret
            exact ⟨rfl, hbb6.trans (hb7.mono hbb6.size)⟩
        · have d1 : decide (y.t ≤ 73049) = false := decide_eq_false cc1
          have hDR := Rd.ofOwn hownW
          have h1x := (h1.below hbW).mono hbW.size
          have hbx := hb1.trans (hbW.mono hb1z)
          have HDL2 : Hid (D.length = n) := Lib.hid (HDL.out)
          go_wp2_with fail
          refine (awk_any W).mono ?_
          rintro e wa ⟨rfl, hba⟩
          have hDa := (hDR.below hba).mono hba.size
          have h1a := (h1x.below hba).mono hba.size
          have hbba := hbx.trans (hba.mono hbx.size)
          clear hDR h1x hbx hba
          go_wp2_with fail
          refine (resolve_any h1a HL.out (by omega)).mono ?_
          intro e w5 hr
          obtain ⟨A5, c5, R, rfl, hR, -, hRl, h5, hb5⟩ := hr.open (n := 40) (by have := HL.out; omega)
          have hD5 := (hDa.below hb5).mono hb5.size
          have hbb5 := hbba.trans (hb5.mono hbba.size)
          have HR := Lib.hid hR
          clear hr hR hDa h1a hbba hb5
          go_wp2_with fail
          refine (resolve_any hD5 HDL2.out (by omega)).mono ?_
          intro e w6 hr
          obtain ⟨A6, c6, R6, rfl, hR6, -, hRl6, h6, hb6⟩ := hr.open (n := 40) (by have := HDL2.out; omega)
          have h56 := (h5.below hb6).mono hb6.size
          have hbb6 := hbb5.trans (hb6.mono hbb5.size)
          have HE := Lib.hid (res_unique HR.out (res_congr (fun s r x => dd_mem HDM.out s r x) hR6))
          clear hr hR6 hD5 h5 hbb5 hb6 HR
          go_wp2_with fail
          refine (samect_any h56 h6 (by rw [List.length_map]) (by rw [List.length_map]) (by omega) (by rw [HE.out])).mono ?_
          rintro e w7 ⟨rfl, hb7⟩
          go_wp2_with fail
          go_ret
          exact ⟨rfl, hbb6.trans (hb7.mono hbb6.size)⟩
      · have d0 : decide (0 ≤ y.f) = false := decide_eq_false cc0
        have hDR := Rd.ofOwn hownW
        have h1x := (h1.below hbW).mono hbW.size
        have hbx := hb1.trans (hbW.mono hb1z)
        have HDL2 : Hid (D.length = n) := Lib.hid (HDL.out)
        go_wp2_with fail
        refine (awk_any W).mono ?_
        rintro e wa ⟨rfl, hba⟩
        have hDa := (hDR.below hba).mono hba.size
        have h1a := (h1x.below hba).mono hba.size
        have hbba := hbx.trans (hba.mono hbx.size)
        clear hDR h1x hbx hba
        go_wp2_with fail
        refine (resolve_any h1a HL.out (by omega)).mono ?_
        intro e w5 hr
        obtain ⟨A5, c5, R, rfl, hR, -, hRl, h5, hb5⟩ := hr.open (n := 40) (by have := HL.out; omega)
        have hD5 := (hDa.below hb5).mono hb5.size
        have hbb5 := hbba.trans (hb5.mono hbba.size)
        have HR := Lib.hid hR
        clear hr hR hDa h1a hbba hb5
        go_wp2_with fail
        refine (resolve_any hD5 HDL2.out (by omega)).mono ?_
        intro e w6 hr
        obtain ⟨A6, c6, R6, rfl, hR6, -, hRl6, h6, hb6⟩ := hr.open (n := 40) (by have := HDL2.out; omega)
        have h56 := (h5.below hb6).mono hb6.size
        have hbb6 := hbb5.trans (hb6.mono hbb5.size)
        have HE := Lib.hid (res_unique HR.out (res_congr (fun s r x => dd_mem HDM.out s r x) hR6))
        clear hr hR6 hD5 h5 hbb5 hb6 HR
        go_wp2_with fail
        refine (samect_any h56 h6 (by rw [List.length_map]) (by rw [List.length_map]) (by omega) (by rw [HE.out])).mono ?_
        rintro e w7 ⟨rfl, hb7⟩
        go_wp2_with fail
        go_ret
        exact ⟨rfl, hbb6.trans (hb7.mono hbb6.size)⟩
end Go.Proofs.Ytkncfhdfobcjeaa
