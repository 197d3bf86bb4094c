/- Facts of a person, the first day of current facts of a kind: the program. -/
import Derived.Test.YtbogmkhoppffgaaFcM
namespace Go.Proofs.Ytbogmkhoppffgaa
open Go.RowKit

theorem ofP_take {p : Int} {L : List Fc} {k : Nat} {x : Fc} (h : L[k]? = some x) : ofP p (L.take (k + 1)) = ofP p (L.take k) ++ if (x.p == p) = true then [x] else [] := by
  rw [List.take_add_one, h, Option.toList_some]
  unfold ofP
  rw [List.filter_append, List.filter_cons, List.filter_nil]
theorem ofP_len (p : Int) (L : List Fc) (k : Nat) : (ofP p (L.take k)).length ≤ k := by
  unfold ofP
  have h1 := List.length_filter_le (fun x : Fc => x.p == p) (L.take k)
  rw [List.length_take] at h1
  omega
set_option maxRecDepth 100000 in
set_option maxHeartbeats 4000000 in
theorem of1_any (x : Fc) (p : Int) {b o : Nat} {w : World} (hp : w.cell? ⟨b, o, none⟩ = some (.int .i64 p)) (hlt : b < w.heap.size) :
    Calls Try.prog 42 #[.agg #[.int .i64 x.i, .int .i64 x.n, .int .i64 x.v, .bool x.g, .int .i64 x.p, .int .i64 x.k, .int .i64 x.s, .int .i64 x.f, .int .i64 x.t, .int .i64 x.e, .int .i64 x.h, .int .i64 x.c, .int .i64 x.a, .int .i64 x.r], .pointer (some ⟨b, o, none⟩)] w fun e w' => e = .returned (.bool (x.p == p)) ∧ Below w.heap.size w w' := by
  go_enter Try.func42, Try.ntmps42
  go_upto_region 1 with (fail)
  obtain ⟨W, hW, fx, hzW, hbA, _⟩ := fact_box w x
  rw [← hW] at ⊢
  clear hW
  have hp2 : W.cell? ⟨b, o, none⟩ = some (.int .i64 p) := (hbA.cell (p := ⟨b, o, none⟩) hlt).trans hp
  obtain ⟨t0, t1, t2, t3, t4, t5, t6, t7, t8, t9, t10, t11, t12, t13⟩ := fx.of0
  clear fx hp
  go_wp2_with fail
  go_ret
  exact ⟨rfl, hbA⟩
set_option maxRecDepth 100000 in
set_option maxHeartbeats 4000000 in
theorem filter_any {A : Option Addr} {n c b o : Nat} {L : List Fc} {w : World} (p : Int) (hL : Rd w w.heap.size 14 A n (flat Fc.cells L)) (hl : L.length = n) (hn : n ≤ 900) (hp : w.cell? ⟨b, o, none⟩ = some (.int .i64 p)) (hlt0 : b < w.heap.size) :
    Calls Try.prog 41 #[.slice A n c, .func (.func 42) #[] #[.pointer (some ⟨b, o, none⟩)]] w (RetFs w (ofP p L)) := by
  obtain ⟨i0, hi0, hz0, hz1, hz2⟩ := info_parts info_fact
  have HL := Lib.hid hl
  clear hl
  go_enter Try.func41, Try.ntmps41
  go_wp2_with fail
  go_loopw [5, 10] (fun v i wr => ∃ (k m c1 : Nat) (A1 : Option Addr), k ≤ n ∧ i = .int .i64 (k : Int) ∧ v = .slice A1 m c1 ∧ (ofP p (L.take k)).length = m ∧ wr.ownsRow w.heap.size 40 14 (.slice A1 m c1) m (flat Fc.cells (ofP p (L.take k))) ∧ Below w.heap.size w wr) (fun _ i _ => n - (intOf i).toNat)
  case atStart => exact ⟨0, 0, 0, none, by omega, rfl, rfl, rfl, World.ownsRow_nil _ _ _ _, Below.refl _ _⟩
  case round =>
    obtain ⟨k, m, c1, A1, hk, rfl, rfl, hm, hown, hb⟩ := hrel
    have hwsz := hb.size
    have hml := ofP_len p L k
    rw [hm] at hml
    obtain ⟨_, _, e0, hnc1, hcm1, _⟩ := own_form hown
    injection e0 with ea _ e1
    subst ea e1
    have HM := Lib.hid hm
    have HCM := Lib.hid hcm1
    clear hm hcm1
    by_cases hlt : k < n
    · have hkl : k < L.length := by rw [HL.out]; exact hlt
      obtain ⟨x, hx⟩ : ∃ x, L[k]? = some x := ⟨_, List.getElem?_eq_getElem hkl⟩
      have HST := Lib.hid (ofP_take (p := p) hx)
      obtain ⟨_, g, o2, rfl, hgb, f0⟩ := fc_cells (hL.below hb) hx
      obtain ⟨p0, p1, p2, p3, p4, p5, p6, p7, p8, p9, p10, p11, p12, p13⟩ := f0
      have hlo : (0 : Int) ≤ (k : Int) := by omega
      have hhi : (k : Int) < (n : Int) := by omega
      have hpr : wr.cell? ⟨b, o, none⟩ = some (.int .i64 p) := (hb.cell (p := ⟨b, o, none⟩) hlt0).trans hp
      clear hx hkl
      obtain ⟨O, hO⟩ : ∃ O, O = ofP p (L.take k) := ⟨_, rfl⟩
      rw [← hO] at hown HM HST
      clear hO
      go_upto_region 5 with (fail)
      obtain ⟨W, hW, fx, hzW, hbA, _⟩ := fact_box wr x
      have hownA := own_underF hown hbA
      rw [← hW] at ⊢
      clear hW
      have hbw := hb.trans (hbA.mono hwsz)
      have hzw := hbw.size
      obtain ⟨t0, t1, t2, t3, t4, t5, t6, t7, t8, t9, t10, t11, t12, t13⟩ := fx.of0
      have hpW : W.cell? ⟨b, o, none⟩ = some (.int .i64 p) := (hbA.cell (p := ⟨b, o, none⟩) (show b < wr.heap.size by omega)).trans hpr
      clear p0 p1 p2 p3 p4 p5 p6 p7 p8 p9 p10 p11 p12 p13 hown hb hpr
      go_wp2_with fail
      refine (of1_any x p hpW (by omega)).mono ?_
      rintro e w1 ⟨rfl, hb1⟩
      have fx1 := fx.to hb1 (by omega)
      have hown1 := own_underF hownA hb1
      have hbw1 := hbw.trans (hb1.mono hzw)
      have hy1 := hbw1.size
      have hy2 := hb1.size
      clear t0 t1 t2 t3 t4 t5 t6 t7 t8 t9 t10 t11 t12 t13 fx hownA hb1 hbw hpW
      obtain ⟨t0, t1, t2, t3, t4, t5, t6, t7, t8, t9, t10, t11, t12, t13⟩ := fx1.of0
      cases hc : (x.p == p) with
      | true =>
        have HS2 : Hid (ofP p (L.take (k + 1)) = O ++ [x]) := Lib.hid (by have := HST.out; rw [hc] at this; exact this)
        clear HST hc
        go_wp2_with (at_builtin; go_loud (refine wpList_append_rd (by rfl) (.tmp 17) (.tmp 19) 24 (by rfl) w.heap.size 40 i0 _ 14 112 Try.underlying24 hi0 hz0 hz1 hz2 rfl (by omega) (.slice A1 m c1) m (flat Fc.cells O) (by rfl) (hown1.alloc _) (w1.heap.size + 1) (some ⟨w1.heap.size, 0, none⟩) 1 1 x.cells (by rfl) (Rd.built (cs := x.cells.toArray) (heap_alloc_new w1 _) (by omega) rfl) (by intro u hu; simp only [Fc.cells, List.mem_cons, List.not_mem_nil, or_false] at hu; rcases hu with rfl | rfl | rfl | rfl | rfl | rfl | rfl | rfl | rfl | rfl | rfl | rfl | rfl | rfl <;> rfl) (by unfold maxLen; omega) (by omega) (by simp; omega) ?_); intro v4 w4 hown4 hg4 hat4)
        have hb4 := (hbw1.alloc hy1 (.cells x.cells.toArray 40)).grown hg4 (by simp; omega) (fun g e => (hown1.lt g e).1)
        obtain ⟨A4, c4, rfl, _, _, _⟩ := own_form hown4
        go_roundw
        case rel => exact ⟨k + 1, m + 1, c4, A4, by omega, by go_num, rfl, by rw [HS2.out, List.length_append, HM.out]; rfl, by rw [HS2.out, flat_append, flat_one]; exact hown4, hb4⟩
        case measure => simp [intOf]; omega
      | false =>
        have HS2 : Hid (ofP p (L.take (k + 1)) = O) := Lib.hid (by have := HST.out; rw [hc] at this; rw [this]; exact List.append_nil _)
        clear HST hc
        go_wp2_with fail
        go_roundw
        case rel => exact ⟨k + 1, m, c1, A1, by omega, by go_num, rfl, by rw [HS2.out]; exact HM.out, by rw [HS2.out]; exact hown1, hbw1⟩
        case measure => simp [intOf]; omega
    · have hkN : L.take k = L := List.take_of_length_le (by have := HL.out; omega)
      rw [hkN] at hown HM
      go_wp2_with fail
      go_ret
      exact ⟨A1, m, c1, rfl, HM.out, hown, hb⟩
set_option maxRecDepth 100000 in
set_option maxHeartbeats 4000000 in
theorem tof_any {A : Option Addr} {n c : Nat} {L : List Fc} {w : World} (p : Int) (hL : Rd w w.heap.size 14 A n (flat Fc.cells L)) (hl : L.length = n) (hn : n ≤ 900) :
    Calls Try.prog 26 #[.slice A n c, .int .i64 p] w (RetFs w (ofP p L)) := by
  go_enter Try.func26, Try.ntmps26
  go_upto_region 1 with (fail)
  have hrow := heap_alloc_new w (.cells #[.int .i64 p] 3)
  have hbA := (Below.refl w.heap.size w).alloc (Nat.le_refl _) (.cells #[.int .i64 p] 3)
  obtain ⟨W, hW⟩ : ∃ W, W = w.alloc (.cells #[.int .i64 p] 3) := ⟨_, rfl⟩
  have hzW : W.heap.size = w.heap.size + 1 := by rw [hW]; simp
  rw [← hW] at hrow hbA ⊢
  clear hW
  go_wp2_with fail
  refine (filter_any p ((hL.below hbA).mono hbA.size) hl hn (b := w.heap.size) (o := 0) (by rw [cell_of_row W _ 0 _ _ _ hrow]; rfl) (by omega)).mono ?_
  rintro e w2 hret
  obtain ⟨A4, n4, c4, hl4, rfl, h41, h42, hown4, hb4⟩ := hret.open
  go_wp2_with fail
  go_ret
  exact ⟨A4, n4, c4, rfl, hl4.out, ownsRow_base hown4 hbA.size, hbA.trans (hb4.mono hbA.size)⟩
set_option maxRecDepth 100000 in
set_option maxHeartbeats 4000000 in
theorem cur_any {x : Fc} (hv : Vld x) (w : World) : Calls Try.prog 54 #[.agg #[.int .i64 x.i, .int .i64 x.n, .int .i64 x.v, .bool x.g, .int .i64 x.p, .int .i64 x.k, .int .i64 x.s, .int .i64 x.f, .int .i64 x.t, .int .i64 x.e, .int .i64 x.h, .int .i64 x.c, .int .i64 x.a, .int .i64 x.r]] w fun e w' => e = .returned (.bool (!x.g)) ∧ Below w.heap.size w w' := by
  have HV := Lib.hid hv
  clear hv
  go_enter Try.func54, Try.ntmps54
  go_upto_region 1 with (fail)
  obtain ⟨W, hW, fx, hzW, hbA, _⟩ := fact_box w x
  rw [← hW] at ⊢
  clear hW
  obtain ⟨t0, t1, t2, t3, t4, t5, t6, t7, t8, t9, t10, t11, t12, t13⟩ := fx.of0
  go_wp2_with fail
  refine (tvalidE HV.out _).mono ?_
  rintro e w1 ⟨rfl, hb1⟩
  have fx1 := fx.to hb1 (by omega)
  clear t0 t1 t2 t3 t4 t5 t6 t7 t8 t9 t10 t11 t12 t13 fx
  obtain ⟨t0, t1, t2, t3, t4, t5, t6, t7, t8, t9, t10, t11, t12, t13⟩ := fx1.of0
  go_wp2_with fail
  go_ret
  exact ⟨rfl, hbA.trans (hb1.mono hbA.size)⟩

set_option maxRecDepth 100000 in
set_option maxHeartbeats 8000000 in
theorem first_any {A : Option Addr} {n c : Nat} {L : List Fc} {w : World} (kd : Int) (hL : Rd w w.heap.size 14 A n (flat Fc.cells L)) (hl : L.length = n) (hv : ∀ x ∈ L, Vld x) (hn : n ≤ 900) :
    Calls Try.prog 40 #[.slice A n c, .int .i64 kd] w fun e w' => e = .returned (.tuple #[.int .i64 ((firD kd L).getD 0), .bool (firD kd L).isSome]) ∧ Below w.heap.size w w' := by
  have HL := Lib.hid hl
  have HV := Lib.hid hv
  clear hl hv
  go_enter Try.func40, Try.ntmps40
  go_wp2_with fail
  go_loopw [6, 7, 12] (fun v b i wr => ∃ (j : Nat), j ≤ n ∧ i = .int .i64 (j : Int) ∧ v = .int .i64 ((firD kd (L.take j)).getD 0) ∧ b = .bool (firD kd (L.take j)).isSome ∧ Below w.heap.size w wr) (fun _ _ i _ => n - (intOf i).toNat)
  case atStart => exact ⟨0, by omega, rfl, rfl, rfl, Below.refl _ _⟩
  case round =>
    obtain ⟨j, hk, rfl, rfl, rfl, hb⟩ := hrel
    have hwsz := hb.size
    by_cases hlt : j < n
    · have hkl : j < L.length := by rw [HL.out]; exact hlt
      obtain ⟨x, hx⟩ : ∃ x, L[j]? = some x := ⟨_, List.getElem?_eq_getElem hkl⟩
      have HVX := Lib.hid (HV.out x (List.mem_of_getElem? hx))
      have HST := Lib.hid (firD_take (k := kd) hx)
      obtain ⟨_, g, o2, rfl, hgb, f0⟩ := fc_cells (hL.below hb) hx
      obtain ⟨p0, p1, p2, p3, p4, p5, p6, p7, p8, p9, p10, p11, p12, p13⟩ := f0
      have hlo : (0 : Int) ≤ (j : Int) := by omega
      have hhi : (j : Int) < (n : Int) := by omega
      clear hx hkl
      obtain ⟨F, hF⟩ : ∃ F, F = firD kd (L.take j) := ⟨_, rfl⟩
      rw [← hF] at HST ⊢
      have HF := Lib.hid hF
      clear hF
      go_upto_region 5 with (fail)
      obtain ⟨W, hW, fx, hzW, hbA, _⟩ := fact_box wr x
      rw [← hW] at ⊢
      clear hW
      have hbw := hb.trans (hbA.mono hwsz)
      have hzw := hbw.size
      obtain ⟨t0, t1, t2, t3, t4, t5, t6, t7, t8, t9, t10, t11, t12, t13⟩ := fx.of0
      clear p0 p1 p2 p3 p4 p5 p6 p7 p8 p9 p10 p11 p12 p13 hb
      go_wp2_with fail
      refine (cur_any HVX.out _).mono ?_
      rintro e w1 ⟨rfl, hb1⟩
      have fx1 := fx.to hb1 (by omega)
      have hbw1 := hbw.trans (hb1.mono hzw)
      clear t0 t1 t2 t3 t4 t5 t6 t7 t8 t9 t10 t11 t12 t13 fx hb1 hbw
      obtain ⟨t0, t1, t2, t3, t4, t5, t6, t7, t8, t9, t10, t11, t12, t13⟩ := fx1.of0
      cases hg : x.g with
      | true =>
        have HS2 : Hid (firD kd (L.take (j + 1)) = F) := Lib.hid (by rw [HST.out]; simp [stepD, hg])
        clear HST HF
        go_wp2_with fail
        go_roundw
        case rel => exact ⟨j + 1, by omega, by go_num, by first | (rw [HS2.out]; done) | (rw [HS2.out]; rfl), by first | (rw [HS2.out]; done) | (rw [HS2.out]; rfl), hbw1⟩
        case measure => simp [intOf]; omega
      | false =>
        cases hk2 : (x.k == kd) with
        | false =>
          have HS2 : Hid (firD kd (L.take (j + 1)) = F) := Lib.hid (by rw [HST.out]; simp [stepD, hg, hk2])
          clear HST HF
          go_wp2_with fail
          go_roundw
          case rel => exact ⟨j + 1, by omega, by go_num, by first | (rw [HS2.out]; done) | (rw [HS2.out]; rfl), by first | (rw [HS2.out]; done) | (rw [HS2.out]; rfl), hbw1⟩
          case measure => simp [intOf]; omega
        | true =>
          cases F with
          | none =>
            have HS2 : Hid (firD kd (L.take (j + 1)) = some x.f) := Lib.hid (by rw [HST.out]; simp [stepD, hg, hk2])
            clear HST HF
            go_wp2_with fail
            go_roundw
            case rel => exact ⟨j + 1, by omega, by go_num, by first | (rw [HS2.out]; done) | (rw [HS2.out]; rfl), by first | (rw [HS2.out]; done) | (rw [HS2.out]; rfl), hbw1⟩
            case measure => simp [intOf]; omega
          | some d =>
            by_cases hlt2 : x.f < d
            · have HS2 : Hid (firD kd (L.take (j + 1)) = some x.f) := Lib.hid (by rw [HST.out]; simp [stepD, hg, hk2, hlt2])
              clear HST HF
              have hd2 : decide (x.f < d) = true := decide_eq_true hlt2
              go_wp2_with fail
              go_roundw
              case rel => exact ⟨j + 1, by omega, by go_num, by first | (rw [HS2.out]; done) | (rw [HS2.out]; rfl), by first | (rw [HS2.out]; done) | (rw [HS2.out]; rfl), hbw1⟩
              case measure => simp [intOf]; omega
            · have HS2 : Hid (firD kd (L.take (j + 1)) = some d) := Lib.hid (by rw [HST.out]; simp [stepD, hg, hk2, hlt2])
              clear HST HF
              have hd2 : decide (x.f < d) = false := decide_eq_false hlt2
              go_wp2_with fail
              go_roundw
              case rel => exact ⟨j + 1, by omega, by go_num, by first | (rw [HS2.out]; done) | (rw [HS2.out]; rfl), by first | (rw [HS2.out]; done) | (rw [HS2.out]; rfl), hbw1⟩
              case measure => simp [intOf]; omega
    · have hkN : L.take j = L := List.take_of_length_le (by have := HL.out; omega)
      rw [hkN]
      go_wp2_with fail
      go_ret2
      exact ⟨rfl, hb⟩
set_option maxRecDepth 100000 in
set_option maxHeartbeats 4000000 in
theorem tdeath_any {A : Option Addr} {n c : Nat} {L : List Fc} {w : World} (hL : Rd w w.heap.size 14 A n (flat Fc.cells L)) (hl : L.length = n) (hv : ∀ x ∈ L, Vld x) (hn : n ≤ 900) :
    Calls Try.prog 25 #[.slice A n c] w fun e w' => e = .returned (.tuple #[.int .i64 ((firD 12 L).getD 0), .bool (firD 12 L).isSome]) ∧ Below w.heap.size w w' := by
  go_enter Try.func25, Try.ntmps25
  go_wp2_with fail
  refine (first_any 12 hL hl hv hn).mono ?_
  rintro e w1 ⟨rfl, hb1⟩
  go_wp2_with fail
  go_ret2
  exact ⟨rfl, hb1⟩
end Go.Proofs.Ytbogmkhoppffgaa
