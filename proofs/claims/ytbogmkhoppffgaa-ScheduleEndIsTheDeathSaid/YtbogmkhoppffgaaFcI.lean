/- The order of facts: the program, the reference. -/
import Derived.Test.YtbogmkhoppffgaaFcH
import Derived.Deep.RegionHeld3
namespace Go.Proofs.Ytbogmkhoppffgaa
open Go.RowKit


theorem tvalidE {x : Fc} (hv : Vld x) (w : World) : Calls Try.prog 55 #[.agg #[.int .i64 x.i, .int .i64 x.n, .int .i64 x.v, .bool x.g, .int .i64 x.p, .int .i64 x.k, .int .i64 x.s, .int .i64 x.f, .int .i64 x.t, .int .i64 x.e, .int .i64 x.h, .int .i64 x.c, .int .i64 x.a, .int .i64 x.r]] w fun e w' => e = .returned (.bool true) ∧ Below w.heap.size w w' := tvalidF hv w
theorem rvalidE {x : Fc} (hv : Vld x) (w : World) : Calls Try.prog 16 #[.agg #[.int .i64 x.i, .int .i64 x.n, .int .i64 x.v, .bool x.g, .int .i64 x.p, .int .i64 x.k, .int .i64 x.s, .int .i64 x.f, .int .i64 x.t, .int .i64 x.e, .int .i64 x.h, .int .i64 x.c, .int .i64 x.a, .int .i64 x.r]] w fun e w' => e = .returned (.bool true) ∧ Below w.heap.size w w' := rvalidF hv w
theorem tbytesE {x : Fc} (hv : Vld x) (w : World) : Calls Try.prog 70 #[.agg #[.int .i64 x.i, .int .i64 x.n, .int .i64 x.v, .bool x.g, .int .i64 x.p, .int .i64 x.k, .int .i64 x.s, .int .i64 x.f, .int .i64 x.t, .int .i64 x.e, .int .i64 x.h, .int .i64 x.c, .int .i64 x.a, .int .i64 x.r]] w (RetF w x) := tbytesF hv w
theorem rbytesE {x : Fc} (hv : Vld x) (w : World) : Calls Try.prog 33 #[.agg #[.int .i64 x.i, .int .i64 x.n, .int .i64 x.v, .bool x.g, .int .i64 x.p, .int .i64 x.k, .int .i64 x.s, .int .i64 x.f, .int .i64 x.t, .int .i64 x.e, .int .i64 x.h, .int .i64 x.c, .int .i64 x.a, .int .i64 x.r]] w (RetF w x) := rbytesF hv w
theorem RetF.open {w w' : World} {x : Fc} {e : Ending} (h : RetF w x e w') : ∃ A n c, Hid (n = (bysL x).length) ∧ e = .returned (.slice A n c) ∧ Rd w' w'.heap.size 1 A n (bys (bysL x)) ∧ Below w.heap.size w w' := by
  obtain ⟨A, n, c, he, hn, _, ho, hb⟩ := h
  exact ⟨A, n, c, hn, he, Rd.ofOwn ho, hb⟩
theorem Rd.toF {w w' : World} {sz n : Nat} {A : Option Addr} {zs : List Value} (h : Rd w w.heap.size sz A n zs) (hb : Below w.heap.size w w') : Rd w' w'.heap.size sz A n zs := (h.below hb).mono hb.size
theorem FcAt.to {w w' : World} {b o : Nat} {x : Fc} (h : FcAt w b o x) (hb : Below w.heap.size w w') (hlt : b < w.heap.size) : FcAt w' b o x := h.below hb hlt
theorem FcAt.of0 {w : World} {b : Nat} {x : Fc} (h : FcAt w b 0 x) : w.cell? ⟨b, 0, none⟩ = some (.int .i64 x.i) ∧ w.cell? ⟨b, 1, none⟩ = some (.int .i64 x.n) ∧ w.cell? ⟨b, 2, none⟩ = some (.int .i64 x.v) ∧ w.cell? ⟨b, 3, none⟩ = some (.bool x.g) ∧ w.cell? ⟨b, 4, none⟩ = some (.int .i64 x.p) ∧ w.cell? ⟨b, 5, none⟩ = some (.int .i64 x.k) ∧ w.cell? ⟨b, 6, none⟩ = some (.int .i64 x.s) ∧ w.cell? ⟨b, 7, none⟩ = some (.int .i64 x.f) ∧ w.cell? ⟨b, 8, none⟩ = some (.int .i64 x.t) ∧ w.cell? ⟨b, 9, none⟩ = some (.int .i64 x.e) ∧ w.cell? ⟨b, 10, none⟩ = some (.int .i64 x.h) ∧ w.cell? ⟨b, 11, none⟩ = some (.int .i64 x.c) ∧ w.cell? ⟨b, 12, none⟩ = some (.int .i64 x.a) ∧ w.cell? ⟨b, 13, none⟩ = some (.int .i64 x.r) := by
  obtain ⟨c0, c1, c2, c3, c4, c5, c6, c7, c8, c9, c10, c11, c12, c13⟩ := h
  rw [Nat.zero_add] at c1 c2 c3 c4 c5 c6 c7 c8 c9 c10 c11 c12 c13
  exact ⟨c0, c1, c2, c3, c4, c5, c6, c7, c8, c9, c10, c11, c12, c13⟩
/-- Two facts in boxes. -/
theorem two_boxes (w : World) (x y : Fc) : ∃ V, V = (w.alloc (.cells #[.int .i64 x.i, .int .i64 x.n, .int .i64 x.v, .bool x.g, .int .i64 x.p, .int .i64 x.k, .int .i64 x.s, .int .i64 x.f, .int .i64 x.t, .int .i64 x.e, .int .i64 x.h, .int .i64 x.c, .int .i64 x.a, .int .i64 x.r] 40)).alloc (.cells #[.int .i64 y.i, .int .i64 y.n, .int .i64 y.v, .bool y.g, .int .i64 y.p, .int .i64 y.k, .int .i64 y.s, .int .i64 y.f, .int .i64 y.t, .int .i64 y.e, .int .i64 y.h, .int .i64 y.c, .int .i64 y.a, .int .i64 y.r] 40) ∧ FcAt V w.heap.size 0 x ∧ FcAt V (w.heap.size + 1) 0 y ∧ w.heap.size + 1 < V.heap.size ∧ Below w.heap.size w V := by
  refine ⟨_, rfl, fcAt_row (t := 40) (fr := (0, 0)) ?_, fcAt_row (t := 40) (fr := (0, 0)) ?_, by simp, ((Below.refl _ w).alloc (Nat.le_refl _) _).alloc (by simp) _⟩
  · exact (Below.heap_alloc _ _ _ (by simp)).trans (heap_alloc_new w _)
  · have := heap_alloc_new (w.alloc (.cells x.cells.toArray 40)) (.cells y.cells.toArray 40)
    rw [World.size_alloc] at this
    exact this

set_option maxRecDepth 100000 in
set_option maxHeartbeats 8000000 in
theorem tlessF {x y : Fc} (hx : Vld x) (hy : Vld y) (w : World) : Calls Try.prog 56 #[.agg #[.int .i64 x.i, .int .i64 x.n, .int .i64 x.v, .bool x.g, .int .i64 x.p, .int .i64 x.k, .int .i64 x.s, .int .i64 x.f, .int .i64 x.t, .int .i64 x.e, .int .i64 x.h, .int .i64 x.c, .int .i64 x.a, .int .i64 x.r], .agg #[.int .i64 y.i, .int .i64 y.n, .int .i64 y.v, .bool y.g, .int .i64 y.p, .int .i64 y.k, .int .i64 y.s, .int .i64 y.f, .int .i64 y.t, .int .i64 y.e, .int .i64 y.h, .int .i64 y.c, .int .i64 y.a, .int .i64 y.r]] w fun e w' => e = .returned (.bool (lessF x y)) ∧ Below w.heap.size w w' := by
  have HX := Lib.hid hx
  have HY := Lib.hid hy
  clear hx hy
  go_enter Try.func56, Try.ntmps56
  go_wp2_with fail
  obtain ⟨V, hV, fx, fy, hzV, hbV⟩ := two_boxes w x y
  rw [← hV]
  clear hV
  refine (tvalidE HX.out _).mono ?_
  rintro e V2 ⟨rfl, hb2⟩
  have fx2 := fx.to hb2 (by omega)
  have fy2 := fy.to hb2 (by omega)
  have hz2 := hb2.size
  have hbV2 := hbV.trans (hb2.mono hbV.size)
  clear fx fy hb2 hbV
  obtain ⟨c0, c1, c2, c3, c4, c5, c6, c7, c8, c9, c10, c11, c12, c13⟩ := fy2.of0
  go_wp2_with fail
  refine (tvalidE HY.out _).mono ?_
  rintro e V3 ⟨rfl, hb3⟩
  have fx3 := fx2.to hb3 (by omega)
  have fy3 := fy2.to hb3 (by omega)
  have hz3 := hb3.size
  have hbV3 := hbV2.trans (hb3.mono hbV2.size)
  clear fx2 fy2 hb3 hbV2 c0 c1 c2 c3 c4 c5 c6 c7 c8 c9 c10 c11 c12 c13
  have hx1 : w.heap.size < V3.heap.size := by omega
  have hy1 : w.heap.size + 1 < V3.heap.size := by omega
  go_upto_region 3 with (fail)
  have hx1d : w.heap.size < V3.drew.heap.size := hx1
  have hy1d : w.heap.size + 1 < V3.drew.heap.size := hy1
  have gx : FcAt V3.drew w.heap.size 0 x := fx3
  have gy : FcAt V3.drew (w.heap.size + 1) 0 y := fy3
  obtain ⟨a0, a1, a2, a3, a4, a5, a6, a7, a8, a9, a10, a11, a12, a13⟩ := fx3.of0
  obtain ⟨b0, b1, b2, b3, b4, b5, b6, b7, b8, b9, b10, b11, b12, b13⟩ := fy3.of0
  go_region_held3 (fun w' => (w'.cell? ⟨w.heap.size, 0, none⟩ = some (.int .i64 x.i) ∧ w'.cell? ⟨w.heap.size, 1, none⟩ = some (.int .i64 x.n) ∧ w'.cell? ⟨w.heap.size, 2, none⟩ = some (.int .i64 x.v) ∧ w'.cell? ⟨w.heap.size, 3, none⟩ = some (.bool x.g) ∧ w'.cell? ⟨w.heap.size, 4, none⟩ = some (.int .i64 x.p) ∧ w'.cell? ⟨w.heap.size, 5, none⟩ = some (.int .i64 x.k) ∧ w'.cell? ⟨w.heap.size, 6, none⟩ = some (.int .i64 x.s) ∧ w'.cell? ⟨w.heap.size, 7, none⟩ = some (.int .i64 x.f) ∧ w'.cell? ⟨w.heap.size, 8, none⟩ = some (.int .i64 x.t) ∧ w'.cell? ⟨w.heap.size, 9, none⟩ = some (.int .i64 x.e) ∧ w'.cell? ⟨w.heap.size, 10, none⟩ = some (.int .i64 x.h) ∧ w'.cell? ⟨w.heap.size, 11, none⟩ = some (.int .i64 x.c) ∧ w'.cell? ⟨w.heap.size, 12, none⟩ = some (.int .i64 x.a) ∧ w'.cell? ⟨w.heap.size, 13, none⟩ = some (.int .i64 x.r)) ∧ (w'.cell? ⟨w.heap.size + 1, 0, none⟩ = some (.int .i64 y.i) ∧ w'.cell? ⟨w.heap.size + 1, 1, none⟩ = some (.int .i64 y.n) ∧ w'.cell? ⟨w.heap.size + 1, 2, none⟩ = some (.int .i64 y.v) ∧ w'.cell? ⟨w.heap.size + 1, 3, none⟩ = some (.bool y.g) ∧ w'.cell? ⟨w.heap.size + 1, 4, none⟩ = some (.int .i64 y.p) ∧ w'.cell? ⟨w.heap.size + 1, 5, none⟩ = some (.int .i64 y.k) ∧ w'.cell? ⟨w.heap.size + 1, 6, none⟩ = some (.int .i64 y.s) ∧ w'.cell? ⟨w.heap.size + 1, 7, none⟩ = some (.int .i64 y.f) ∧ w'.cell? ⟨w.heap.size + 1, 8, none⟩ = some (.int .i64 y.t) ∧ w'.cell? ⟨w.heap.size + 1, 9, none⟩ = some (.int .i64 y.e) ∧ w'.cell? ⟨w.heap.size + 1, 10, none⟩ = some (.int .i64 y.h) ∧ w'.cell? ⟨w.heap.size + 1, 11, none⟩ = some (.int .i64 y.c) ∧ w'.cell? ⟨w.heap.size + 1, 12, none⟩ = some (.int .i64 y.a) ∧ w'.cell? ⟨w.heap.size + 1, 13, none⟩ = some (.int .i64 y.r))) (go_keep)
    (first
      | (go_at_call 70; ((with_reducible refine (tbytesE HX.out V3.drew).mono ?_)); intro e u hru; obtain ⟨Au, nu, cu, HNu, rfl, rdu, bwu⟩ := hru.open
         clear hru
         have fxu := gx.to bwu hx1d
         have fyu := gy.to bwu hy1d
         have hzu := bwu.size
         have hxu : w.heap.size < u.heap.size := by omega
         have hyu : w.heap.size + 1 < u.heap.size := by omega
         obtain ⟨a0u, a1u, a2u, a3u, a4u, a5u, a6u, a7u, a8u, a9u, a10u, a11u, a12u, a13u⟩ := fxu.of0
         obtain ⟨b0u, b1u, b2u, b3u, b4u, b5u, b6u, b7u, b8u, b9u, b10u, b11u, b12u, b13u⟩ := fyu.of0)
      | (go_at_call 70; ((with_reducible refine (tbytesE HY.out u).mono ?_)); intro e u2 hru2; obtain ⟨Au2, nu2, cu2, HNu2, rfl, rdu2, bwu2⟩ := hru2.open
         clear hru2
         have fxu2 := fxu.to bwu2 hxu
         have fyu2 := fyu.to bwu2 hyu
         have hzu2 := bwu2.size
         have hxu2 : w.heap.size < u2.heap.size := by omega
         have hyu2 : w.heap.size + 1 < u2.heap.size := by omega
         obtain ⟨a0u2, a1u2, a2u2, a3u2, a4u2, a5u2, a6u2, a7u2, a8u2, a9u2, a10u2, a11u2, a12u2, a13u2⟩ := fxu2.of0
         obtain ⟨b0u2, b1u2, b2u2, b3u2, b4u2, b5u2, b6u2, b7u2, b8u2, b9u2, b10u2, b11u2, b12u2, b13u2⟩ := fyu2.of0
         have rdu2' := rdu.toF bwu2)
      | (go_at_call 70; ((with_reducible refine (tbytesE HY.out V3.drew).mono ?_)); intro e v hrv; obtain ⟨Av, nv, cv, HNv, rfl, rdv, bwv⟩ := hrv.open
         clear hrv
         have fxv := gx.to bwv hx1d
         have fyv := gy.to bwv hy1d
         have hzv := bwv.size
         have hxv : w.heap.size < v.heap.size := by omega
         have hyv : w.heap.size + 1 < v.heap.size := by omega
         obtain ⟨a0v, a1v, a2v, a3v, a4v, a5v, a6v, a7v, a8v, a9v, a10v, a11v, a12v, a13v⟩ := fxv.of0
         obtain ⟨b0v, b1v, b2v, b3v, b4v, b5v, b6v, b7v, b8v, b9v, b10v, b11v, b12v, b13v⟩ := fyv.of0)
      | (go_at_call 70; ((with_reducible refine (tbytesE HX.out v).mono ?_)); intro e v2 hrv2; obtain ⟨Av2, nv2, cv2, HNv2, rfl, rdv2, bwv2⟩ := hrv2.open
         clear hrv2
         have fxv2 := fxv.to bwv2 hxv
         have fyv2 := fyv.to bwv2 hyv
         have hzv2 := bwv2.size
         have hxv2 : w.heap.size < v2.heap.size := by omega
         have hyv2 : w.heap.size + 1 < v2.heap.size := by omega
         obtain ⟨a0v2, a1v2, a2v2, a3v2, a4v2, a5v2, a6v2, a7v2, a8v2, a9v2, a10v2, a11v2, a12v2, a13v2⟩ := fxv2.of0
         obtain ⟨b0v2, b1v2, b2v2, b3v2, b4v2, b5v2, b6v2, b7v2, b8v2, b9v2, b10v2, b11v2, b12v2, b13v2⟩ := fyv2.of0
         have rdv2' := rdv.toF bwv2)
      | (go_at_call 69; ((with_reducible refine (cmpBytes_any rdu2' HNu.out.symm rdu2 HNu2.out.symm).mono ?_)); rintro e w' ⟨rfl, rfl⟩)
      | (go_at_call 69; ((with_reducible refine (cmpBytes_any rdv2 HNv2.out.symm rdv2' HNv.out.symm).mono ?_)); rintro e w' ⟨rfl, rfl⟩))
  all_goals
    go_wp2_with fail
    go_ret
    refine ⟨ret_bool rfl, ?_⟩
    first
      | exact hbV3.drew.trans ((bwu.trans (bwu2.mono hzu)).mono hbV3.drew.size)
      | exact hbV3.drew.trans ((bwv.trans (bwv2.mono hzv)).mono hbV3.drew.size)
end Go.Proofs.Ytbogmkhoppffgaa
