/- The order of facts: the reference. -/
import Derived.Test.YtbogmkhoppffgaaFcI
import Derived.Laws.BytesArg
import Derived.Deep.RegionWith
namespace Go.Proofs.Ytbogmkhoppffgaa
open Go.RowKit

theorem bytesLess_eq : ∀ a b : List UInt8, Op.bytesLess a b = decide (Lib.compareBytes a b < 0)
  | [], [] => rfl
  | [], _ :: _ => rfl
  | _ :: _, [] => rfl
  | a :: l, b :: m => by
    have ih := bytesLess_eq l m
    show _ = decide ((if a < b then (-1 : Int) else if b < a then 1 else Lib.compareBytes l m) < 0)
    unfold Op.bytesLess
    by_cases h1 : a < b
    · simp [h1]
    · by_cases h2 : a = b
      · subst h2
        simp [h1, ih]
      · have h3 : b < a := by
          rw [UInt8.lt_iff_toNat_lt] at h1 ⊢
          have : a.toNat ≠ b.toNat := fun e => h2 (UInt8.toNat_inj.1 e)
          omega
        simp [h1, h2, h3]
theorem bysL_pos (x : Fc) : 0 < (bysL x).length := by
  unfold bysL
  rw [List.length_append, headL_length]
  omega
theorem strNums_less (x y : Fc) : Op.bytesLess (strOfNums (bysL x)).toList (strOfNums (bysL y)).toList = lessF x y := by
  rw [bytesLess_eq, Lib.strOfNums_toList, Lib.strOfNums_toList]
  rfl
theorem conv_rd {w : World} {B n c : Nat} {A : Option Addr} {zs : List Int} (h : Rd w B 1 A n (bys zs)) (hn : zs.length = n) (h0 : 0 < n) : (convert 63 9 (.slice A n c)).run Try.prog w = .ok (.string (strOfNums zs)) w := by
  obtain ⟨b, o, rfl, _, hc⟩ := h.2 h0
  refine run_convert_bytes_arg w 63 5 Try.underlying63 Try.underlying5 b o n c zs hn (fun i hi => ?_) 9 Try.underlying9
  refine hc i _ ?_
  unfold bys
  rw [List.getElem?_map, List.getElem?_eq_getElem (by omega), List.getD_eq_getElem?_getD, List.getElem?_eq_getElem (by omega)]
  rfl
/-- Issuer and number of the reference. -/
def idF (x y : Fc) : Int := if x.i = y.i then x.n - y.n else x.i - y.i
theorem idF_zero (x y : Fc) : idF x y = 0 ↔ cmpF x y = 0 := by
  rw [cmpF_zero]
  unfold idF
  by_cases h : x.i = y.i
  · rw [if_pos h]; omega
  · rw [if_neg h]; omega
theorem idF_pos (x y : Fc) : 0 < idF x y ↔ 0 < cmpF x y := by
  unfold idF cmpF
  by_cases h : x.i = y.i
  · rw [if_pos h, if_neg (by omega), if_neg (by omega)]
    by_cases h1 : x.n < y.n
    · rw [if_pos h1]; omega
    · rw [if_neg h1]
      by_cases h2 : y.n < x.n
      · rw [if_pos h2]; omega
      · rw [if_neg h2]; omega
  · rw [if_neg h]
    by_cases h1 : x.i < y.i
    · rw [if_pos h1]; omega
    · rw [if_neg h1, if_pos (by omega)]; omega
set_option maxRecDepth 100000 in
set_option maxHeartbeats 2000000 in
theorem rid_any {x y : Fc} (hx : 0 ≤ x.i ∧ x.i ≤ 5) (hx2 : 1 ≤ x.n ∧ x.n ≤ 999) (hy : 0 ≤ y.i ∧ y.i ≤ 5) (hy2 : 1 ≤ y.n ∧ y.n ≤ 999) (w : World) : Calls Try.prog 17 #[.agg #[.int .i64 x.i, .int .i64 x.n, .int .i64 x.v, .bool x.g, .int .i64 x.p, .int .i64 x.k, .int .i64 x.s, .int .i64 x.f, .int .i64 x.t, .int .i64 x.e, .int .i64 x.h, .int .i64 x.c, .int .i64 x.a, .int .i64 x.r], .agg #[.int .i64 y.i, .int .i64 y.n, .int .i64 y.v, .bool y.g, .int .i64 y.p, .int .i64 y.k, .int .i64 y.s, .int .i64 y.f, .int .i64 y.t, .int .i64 y.e, .int .i64 y.h, .int .i64 y.c, .int .i64 y.a, .int .i64 y.r]] w fun e w' => e = .returned (.int .i64 (idF x y)) ∧ Below w.heap.size w w' := by
  have hb : Below w.heap.size w ((w.alloc (.cells #[.int .i64 x.i, .int .i64 x.n, .int .i64 x.v, .bool x.g, .int .i64 x.p, .int .i64 x.k, .int .i64 x.s, .int .i64 x.f, .int .i64 x.t, .int .i64 x.e, .int .i64 x.h, .int .i64 x.c, .int .i64 x.a, .int .i64 x.r] 40)).alloc (.cells #[.int .i64 y.i, .int .i64 y.n, .int .i64 y.v, .bool y.g, .int .i64 y.p, .int .i64 y.k, .int .i64 y.s, .int .i64 y.f, .int .i64 y.t, .int .i64 y.e, .int .i64 y.h, .int .i64 y.c, .int .i64 y.a, .int .i64 y.r] 40)) := ((Below.refl _ w).alloc (Nat.le_refl _) _).alloc (by simp) _
  obtain ⟨h1, h2⟩ := hx
  obtain ⟨h3, h4⟩ := hx2
  obtain ⟨h5, h6⟩ := hy
  obtain ⟨h7, h8⟩ := hy2
  by_cases h : x.i = y.i
  · have hd : (x.i != y.i) = false := by simpa using h
    have HE : Hid (idF x y = x.n - y.n) := Lib.hid (by unfold idF; rw [if_pos h])
    clear h
    go_enter Try.func17, Try.ntmps17
    go_wp2_with fail
    go_ret
    exact ⟨ret_int HE.out.symm, hb⟩
  · have hd : (x.i != y.i) = true := by simpa using h
    have HE : Hid (idF x y = x.i - y.i) := Lib.hid (by unfold idF; rw [if_neg h])
    clear h
    go_enter Try.func17, Try.ntmps17
    go_wp2_with fail
    go_ret
    exact ⟨ret_int HE.out.symm, hb⟩
theorem rid_to {x y : Fc} (hx : Vld x) (hy : Vld y) {z : Int} (hz : idF x y = z) (w : World) : Calls Try.prog 17 #[.agg #[.int .i64 x.i, .int .i64 x.n, .int .i64 x.v, .bool x.g, .int .i64 x.p, .int .i64 x.k, .int .i64 x.s, .int .i64 x.f, .int .i64 x.t, .int .i64 x.e, .int .i64 x.h, .int .i64 x.c, .int .i64 x.a, .int .i64 x.r], .agg #[.int .i64 y.i, .int .i64 y.n, .int .i64 y.v, .bool y.g, .int .i64 y.p, .int .i64 y.k, .int .i64 y.s, .int .i64 y.f, .int .i64 y.t, .int .i64 y.e, .int .i64 y.h, .int .i64 y.c, .int .i64 y.a, .int .i64 y.r]] w fun e w' => e = .returned (.int .i64 z) ∧ Below w.heap.size w w' := by
  rw [← hz]
  exact rid_any hx.i hx.n hy.i hy.n w

set_option maxRecDepth 100000 in
set_option maxHeartbeats 8000000 in
theorem rlessF {x y : Fc} (hx : Vld x) (hy : Vld y) (hc : cmpF x y = 0) (w : World) : Calls Try.prog 18 #[.agg #[.int .i64 x.i, .int .i64 x.n, .int .i64 x.v, .bool x.g, .int .i64 x.p, .int .i64 x.k, .int .i64 x.s, .int .i64 x.f, .int .i64 x.t, .int .i64 x.e, .int .i64 x.h, .int .i64 x.c, .int .i64 x.a, .int .i64 x.r], .agg #[.int .i64 y.i, .int .i64 y.n, .int .i64 y.v, .bool y.g, .int .i64 y.p, .int .i64 y.k, .int .i64 y.s, .int .i64 y.f, .int .i64 y.t, .int .i64 y.e, .int .i64 y.h, .int .i64 y.c, .int .i64 y.a, .int .i64 y.r]] w fun e w' => e = .returned (.bool (lessF x y)) ∧ Below w.heap.size w w' := by
  have HX := Lib.hid hx
  have HY := Lib.hid hy
  have HC := Lib.hid hc
  have hlx := bysL_pos x
  have hly := bysL_pos y
  clear hx hy hc
  go_enter Try.func18, Try.ntmps18
  go_wp2_with fail
  obtain ⟨V, hV, fx, fy, hzV, hbV⟩ := two_boxes w x y
  rw [← hV]
  clear hV
  refine (rvalidE HX.out _).mono ?_
  rintro e V2 ⟨rfl, hb2⟩
  have fx2 := fx.to hb2 (by omega)
  have fy2 := fy.to hb2 (by omega)
  have hz2 := hb2.size
  have hbV2 := hbV.trans (hb2.mono hbV.size)
  clear fx fy hb2 hbV
  obtain ⟨c0, c1, c2, c3, c4, c5, c6, c7, c8, c9, c10, c11, c12, c13⟩ := fy2.of0
  go_wp2_with fail
  refine (rvalidE HY.out _).mono ?_
  rintro e V3 ⟨rfl, hb3⟩
  have fx3 := fx2.to hb3 (by omega)
  have fy3 := fy2.to hb3 (by omega)
  have hz3 := hb3.size
  have hbV3 := hbV2.trans (hb3.mono hbV2.size)
  clear fx2 fy2 hb3 hbV2 c0 c1 c2 c3 c4 c5 c6 c7 c8 c9 c10 c11 c12 c13
  obtain ⟨a0, a1, a2, a3, a4, a5, a6, a7, a8, a9, a10, a11, a12, a13⟩ := fx3.of0
  obtain ⟨b0, b1, b2, b3, b4, b5, b6, b7, b8, b9, b10, b11, b12, b13⟩ := fy3.of0
  go_wp2_with fail
  refine (rid_to HX.out HY.out ((idF_zero x y).2 HC.out) _).mono ?_
  rintro e V4 ⟨rfl, hb4⟩
  have fx4 := fx3.to hb4 (by omega)
  have fy4 := fy3.to hb4 (by omega)
  have hz4 := hb4.size
  have hbV4 := hbV3.trans (hb4.mono hbV3.size)
  clear fx3 fy3 hb4 hbV3 a0 a1 a2 a3 a4 a5 a6 a7 a8 a9 a10 a11 a12 a13 b0 b1 b2 b3 b4 b5 b6 b7 b8 b9 b10 b11 b12 b13
  obtain ⟨a0, a1, a2, a3, a4, a5, a6, a7, a8, a9, a10, a11, a12, a13⟩ := fx4.of0
  obtain ⟨b0, b1, b2, b3, b4, b5, b6, b7, b8, b9, b10, b11, b12, b13⟩ := fy4.of0
  by_cases hv : x.v = y.v
  · have hd : (x.v != y.v) = false := by simpa using hv
    clear hv
    have hx1 : w.heap.size < V4.heap.size := by omega
    have hy1 : w.heap.size + 1 < V4.heap.size := by omega
    go_upto_region 8 with (fail)
    have hx1d : w.heap.size < V4.drew.heap.size := hx1
    have hy1d : w.heap.size + 1 < V4.drew.heap.size := hy1
    have gx : FcAt V4.drew w.heap.size 0 x := fx4
    have gy : FcAt V4.drew (w.heap.size + 1) 0 y := fy4
    go_region_with (first
        | (go_at_call 33; ((with_reducible refine (rbytesE HX.out V4.drew).mono ?_)); intro e u hru; obtain ⟨Au, nu, cu, HNu, rfl, rdu, bwu⟩ := hru.open
           clear hru
           have fxu := gx.to bwu hx1d
           have fyu := gy.to bwu hy1d
           have hzu := bwu.size
           have hxu : w.heap.size < u.heap.size := by omega
           have hyu : w.heap.size + 1 < u.heap.size := by omega
           have cvu := conv_rd (c := cu) rdu HNu.out.symm (by rw [HNu.out]; exact hlx)
           obtain ⟨a0u, a1u, a2u, a3u, a4u, a5u, a6u, a7u, a8u, a9u, a10u, a11u, a12u, a13u⟩ := fxu.of0
           obtain ⟨b0u, b1u, b2u, b3u, b4u, b5u, b6u, b7u, b8u, b9u, b10u, b11u, b12u, b13u⟩ := fyu.of0)
        | (go_at_call 33; ((with_reducible refine (rbytesE HY.out u).mono ?_)); intro e u2 hru2; obtain ⟨Au2, nu2, cu2, HNu2, rfl, rdu2, bwu2⟩ := hru2.open
           clear hru2
           have fxu2 := fxu.to bwu2 hxu
           have fyu2 := fyu.to bwu2 hyu
           have hzu2 := bwu2.size
           have hxu2 : w.heap.size < u2.heap.size := by omega
           have hyu2 : w.heap.size + 1 < u2.heap.size := by omega
           have cvu2 := conv_rd (c := cu2) rdu2 HNu2.out.symm (by rw [HNu2.out]; exact hly)
           obtain ⟨a0u2, a1u2, a2u2, a3u2, a4u2, a5u2, a6u2, a7u2, a8u2, a9u2, a10u2, a11u2, a12u2, a13u2⟩ := fxu2.of0
           obtain ⟨b0u2, b1u2, b2u2, b3u2, b4u2, b5u2, b6u2, b7u2, b8u2, b9u2, b10u2, b11u2, b12u2, b13u2⟩ := fyu2.of0
           have rdu2' := rdu.toF bwu2
           have cvu2' := conv_rd (c := cu) rdu2' HNu.out.symm (by rw [HNu.out]; exact hlx))
        | (go_at_call 33; ((with_reducible refine (rbytesE HY.out V4.drew).mono ?_)); intro e v hrv; obtain ⟨Av, nv, cv, HNv, rfl, rdv, bwv⟩ := hrv.open
           clear hrv
           have fxv := gx.to bwv hx1d
           have fyv := gy.to bwv hy1d
           have hzv := bwv.size
           have hxv : w.heap.size < v.heap.size := by omega
           have hyv : w.heap.size + 1 < v.heap.size := by omega
           have cvv := conv_rd (c := cv) rdv HNv.out.symm (by rw [HNv.out]; exact hly)
           obtain ⟨a0v, a1v, a2v, a3v, a4v, a5v, a6v, a7v, a8v, a9v, a10v, a11v, a12v, a13v⟩ := fxv.of0
           obtain ⟨b0v, b1v, b2v, b3v, b4v, b5v, b6v, b7v, b8v, b9v, b10v, b11v, b12v, b13v⟩ := fyv.of0)
        | (go_at_call 33; ((with_reducible refine (rbytesE HX.out v).mono ?_)); intro e v2 hrv2; obtain ⟨Av2, nv2, cv2, HNv2, rfl, rdv2, bwv2⟩ := hrv2.open
           clear hrv2
           have fxv2 := fxv.to bwv2 hxv
           have fyv2 := fyv.to bwv2 hyv
           have hzv2 := bwv2.size
           have hxv2 : w.heap.size < v2.heap.size := by omega
           have hyv2 : w.heap.size + 1 < v2.heap.size := by omega
           have cvv2 := conv_rd (c := cv2) rdv2 HNv2.out.symm (by rw [HNv2.out]; exact hlx)
           obtain ⟨a0v2, a1v2, a2v2, a3v2, a4v2, a5v2, a6v2, a7v2, a8v2, a9v2, a10v2, a11v2, a12v2, a13v2⟩ := fxv2.of0
           obtain ⟨b0v2, b1v2, b2v2, b3v2, b4v2, b5v2, b6v2, b7v2, b8v2, b9v2, b10v2, b11v2, b12v2, b13v2⟩ := fyv2.of0
           have rdv2' := rdv.toF bwv2
           have cvv2' := conv_rd (c := cv) rdv2' HNv.out.symm (by rw [HNv.out]; exact hly)))
    all_goals
      go_wp2_with fail
      go_ret
      refine ⟨ret_bool (strNums_less x y), ?_⟩
      first
        | exact hbV4.drew.trans ((bwu.trans (bwu2.mono hzu)).mono hbV4.drew.size)
        | exact hbV4.drew.trans ((bwv.trans (bwv2.mono hzv)).mono hbV4.drew.size)
  · have hd : (x.v != y.v) = true := by simpa using hv
    have HE := Lib.hid (lessF_v HX.out HY.out HC.out hv)
    clear hv
    go_wp2_with fail
    go_ret
    exact ⟨ret_bool HE.out.symm, hbV4⟩
end Go.Proofs.Ytbogmkhoppffgaa
