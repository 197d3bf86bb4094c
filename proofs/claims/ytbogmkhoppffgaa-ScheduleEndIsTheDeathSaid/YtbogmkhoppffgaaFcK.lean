/- Facts compared by issuer and number, the greater of two: the program. -/
import Derived.Test.YtbogmkhoppffgaaFcI
import Derived.Test.YtbogmkhoppffgaaFcKa
import Derived.Test.YtbogmkhoppffgaaScD
namespace Go.Proofs.Ytbogmkhoppffgaa
open Go.RowKit

def or2 (a b : Int) : Int := if a = 0 then b else a
theorem cmpF_or (x y : Fc) : or2 (cmpI x.i y.i) (cmpI x.n y.n) = cmpF x y := by
  unfold or2 cmpI cmpF
  by_cases h1 : x.i < y.i
  · rw [if_pos h1, if_pos h1]; rfl
  · rw [if_neg h1, if_neg h1]
    by_cases h2 : y.i < x.i
    · rw [if_pos h2, if_pos h2]; rfl
    · rw [if_neg h2, if_neg h2]; rfl
theorem or2_cases (a b : Int) : ((a != 0) = true ∧ or2 a b = a) ∨ ((a != 0) = false ∧ (b != 0) = true ∧ or2 a b = b) ∨ ((a != 0) = false ∧ (b != 0) = false ∧ or2 a b = 0) := by
  unfold or2
  by_cases h1 : a = 0
  · by_cases h2 : b = 0
    · exact .inr (.inr ⟨by simp [h1], by simp [h2], by rw [if_pos h1, h2]⟩)
    · exact .inr (.inl ⟨by simp [h1], by simp [h2], by rw [if_pos h1]⟩)
  · exact .inl ⟨by simp [h1], by rw [if_neg h1]⟩
set_option maxHeartbeats 2000000 in
theorem cmpor2_any (g : Nat) (a b : Int) (w : World) (h0 : w.cell? ⟨g, 0, none⟩ = some (.int .i64 a)) (h1 : w.cell? ⟨g, 1, none⟩ = some (.int .i64 b)) :
    Calls Try.prog 38 #[.slice (some ⟨g, 0, none⟩) 2 2] w fun e w' => e = .returned (.int .i64 (or2 a b)) ∧ w = w' := by
  rcases or2_cases a b with ⟨t1, e1⟩ | ⟨t1, t2, e1⟩ | ⟨t1, t2, e1⟩
  · rw [e1]
    clear e1
    go_enter Try.func38, Try.ntmps38
    go_wp2_with fail
    refine wp_loop_rounds 1 ?_
    rw [rounds_succ]
    go_wp2_with fail
    go_ret
    exact ⟨rfl, rfl⟩
  · rw [e1]
    clear e1
    go_enter Try.func38, Try.ntmps38
    go_wp2_with fail
    refine wp_loop_rounds 2 ?_
    rw [rounds_succ]
    go_wp2_with fail
    rw [rounds_succ]
    go_wp2_with fail
    go_ret
    exact ⟨rfl, rfl⟩
  · rw [e1]
    clear e1
    go_enter Try.func38, Try.ntmps38
    go_wp2_with fail
    refine wp_loop_rounds 3 ?_
    rw [rounds_succ]
    go_wp2_with fail
    rw [rounds_succ]
    go_wp2_with fail
    rw [rounds_succ]
    go_wp2_with fail
    go_ret
    exact ⟨rfl, rfl⟩
set_option maxRecDepth 100000 in
set_option maxHeartbeats 4000000 in
theorem byid_any (x y : Fc) (w : World) : Calls Try.prog 45 #[.agg #[.int .i64 x.i, .int .i64 x.n, .int .i64 x.v, .bool x.g, .int .i64 x.p, .int .i64 x.k, .int .i64 x.s, .int .i64 x.f, .int .i64 x.t, .int .i64 x.e, .int .i64 x.h, .int .i64 x.c, .int .i64 x.a, .int .i64 x.r], .agg #[.int .i64 y.i, .int .i64 y.n, .int .i64 y.v, .bool y.g, .int .i64 y.p, .int .i64 y.k, .int .i64 y.s, .int .i64 y.f, .int .i64 y.t, .int .i64 y.e, .int .i64 y.h, .int .i64 y.c, .int .i64 y.a, .int .i64 y.r]] w fun e w' => e = .returned (.int .i64 (cmpF x y)) ∧ Below w.heap.size w w' := by
  have HC := Lib.hid (cmpF_or x y)
  go_enter Try.func45, Try.ntmps45
  go_upto_region 1 with (fail)
  obtain ⟨V, hV, fx, fy, hzV, hbV⟩ := two_boxes w x y
  rw [← hV]
  clear hV
  obtain ⟨a0, a1, _, _, _, _, _, _, _, _, _, _, _, _⟩ := fx.of0
  obtain ⟨b0, b1, _, _, _, _, _, _, _, _, _, _, _, _⟩ := fy.of0
  clear fx fy
  go_region_held3 (fun w' => w'.cell? ⟨w.heap.size, 0, none⟩ = some (.int .i64 x.i) ∧ w'.cell? ⟨w.heap.size, 1, none⟩ = some (.int .i64 x.n) ∧ w'.cell? ⟨w.heap.size + 1, 0, none⟩ = some (.int .i64 y.i) ∧ w'.cell? ⟨w.heap.size + 1, 1, none⟩ = some (.int .i64 y.n)) (go_keep)
    (first
      | (go_at_call 39; refine (compare_any _ _ _).mono ?_; rintro e w' ⟨rfl, rfl⟩)
      | (go_at_call 38; refine (cmpor2_any V.heap.size (cmpI x.i y.i) (cmpI x.n y.n) _ (by simp [go_sem]) (by simp [go_sem])).mono ?_; rintro e w' ⟨rfl, rfl⟩; rw [HC.out]))
  all_goals
    go_wp2_with fail
    go_ret
    exact ⟨rfl, (hbV.alloc hbV.size _).drew⟩
set_option maxRecDepth 100000 in
set_option maxHeartbeats 4000000 in
theorem greater_any {x y : Fc} (hx : Vld x) (hy : Vld y) (w : World) : Calls Try.prog 46 #[.agg #[.int .i64 x.i, .int .i64 x.n, .int .i64 x.v, .bool x.g, .int .i64 x.p, .int .i64 x.k, .int .i64 x.s, .int .i64 x.f, .int .i64 x.t, .int .i64 x.e, .int .i64 x.h, .int .i64 x.c, .int .i64 x.a, .int .i64 x.r], .agg #[.int .i64 y.i, .int .i64 y.n, .int .i64 y.v, .bool y.g, .int .i64 y.p, .int .i64 y.k, .int .i64 y.s, .int .i64 y.f, .int .i64 y.t, .int .i64 y.e, .int .i64 y.h, .int .i64 y.c, .int .i64 y.a, .int .i64 y.r]] w fun e w' => e = .returned (grF x y).agg ∧ Below w.heap.size w w' := by
  have HX := Lib.hid hx
  have HY := Lib.hid hy
  clear hx hy
  go_enter Try.func46, Try.ntmps46
  go_wp2_with fail
  obtain ⟨V, hV, fx, fy, hzV, hbV⟩ := two_boxes w x y
  rw [← hV]
  have hsz : V.heap.size = w.heap.size + 2 := by rw [hV]; simp
  clear hV
  have hr0 := heap_alloc_new V (.cells #[.int .i64 0, .int .i64 0, .int .i64 0, .bool false, .int .i64 0, .int .i64 0, .int .i64 0, .int .i64 0, .int .i64 0, .int .i64 0, .int .i64 0, .int .i64 0, .int .i64 0, .int .i64 0] 40)
  have hbA := (Below.refl V.heap.size V).alloc (Nat.le_refl _) (.cells #[.int .i64 0, .int .i64 0, .int .i64 0, .bool false, .int .i64 0, .int .i64 0, .int .i64 0, .int .i64 0, .int .i64 0, .int .i64 0, .int .i64 0, .int .i64 0, .int .i64 0, .int .i64 0] 40)
  obtain ⟨U, hU⟩ : ∃ U, U = V.alloc (.cells #[.int .i64 0, .int .i64 0, .int .i64 0, .bool false, .int .i64 0, .int .i64 0, .int .i64 0, .int .i64 0, .int .i64 0, .int .i64 0, .int .i64 0, .int .i64 0, .int .i64 0, .int .i64 0] 40) := ⟨_, rfl⟩
  rw [← hU] at hr0 hbA ⊢
  have hzU : V.heap.size < U.heap.size := by rw [hU]; simp
  clear hU
  rw [hsz] at hr0
  refine (tlessF HX.out HY.out _).mono ?_
  rintro e U2 ⟨rfl, hb2⟩
  have fx2 := (fx.to hbA (by omega)).to hb2 (by omega)
  have fy2 := (fy.to hbA (by omega)).to hb2 (by omega)
  have hr2 := (hb2.block (w.heap.size + 2) (by omega)).trans hr0
  have hbU := hbV.trans ((hbA.trans (hb2.mono hbA.size)).mono hbV.size)
  clear fx fy hr0 hbA hb2 hbV
  obtain ⟨a0, a1, a2, a3, a4, a5, a6, a7, a8, a9, a10, a11, a12, a13⟩ := fx2.of0
  obtain ⟨b0, b1, b2, b3, b4, b5, b6, b7, b8, b9, b10, b11, b12, b13⟩ := fy2.of0
  obtain ⟨b, hb⟩ : ∃ b, lessF x y = b := ⟨_, rfl⟩
  rw [hb]
  have HB := Lib.hid hb
  clear hb
  cases b with
  | true =>
    have HG : Hid (grF x y = y) := Lib.hid (by unfold grF; rw [HB.out]; rfl)
    go_wp2_with (refine wpList_store_whole (by rfl) 40 (.tmp 4) (.tmp 8) (by rfl) (w.heap.size + 2) _ _ y.cells (by rfl) (by rfl) hr2 (by rfl) (by kernel_rfl) (by intro v hv; simp only [Fc.cells, List.mem_cons, List.not_mem_nil, or_false] at hv; rcases hv with rfl | rfl | rfl | rfl | rfl | rfl | rfl | rfl | rfl | rfl | rfl | rfl | rfl | rfl <;> rfl) ?_; intro W' hw' hbw)
    have fr : FcAt W' (w.heap.size + 1 + 1) 0 y := fcAt_row hw'
    obtain ⟨r0, r1, r2, r3, r4, r5, r6, r7, r8, r9, r10, r11, r12, r13⟩ := fr.of0
    exact bodyPost_ret (v := y.agg) (by simp [results, Try.f46, go_sem, r0, r1, r2, r3, r4, r5, r6, r7, r8, r9, r10, r11, r12, r13, Fc.agg]) rfl ⟨by rw [HG.out], hbU.trans (hbw _ (by omega))⟩
  | false =>
    have HG : Hid (grF x y = x) := Lib.hid (by unfold grF; rw [HB.out]; rfl)
    go_wp2_with (refine wpList_store_whole (by rfl) 40 (.tmp 4) (.tmp 9) (by rfl) (w.heap.size + 2) _ _ x.cells (by rfl) (by rfl) hr2 (by rfl) (by kernel_rfl) (by intro v hv; simp only [Fc.cells, List.mem_cons, List.not_mem_nil, or_false] at hv; rcases hv with rfl | rfl | rfl | rfl | rfl | rfl | rfl | rfl | rfl | rfl | rfl | rfl | rfl | rfl <;> rfl) ?_; intro W' hw' hbw)
    have fr : FcAt W' (w.heap.size + 1 + 1) 0 x := fcAt_row hw'
    obtain ⟨r0, r1, r2, r3, r4, r5, r6, r7, r8, r9, r10, r11, r12, r13⟩ := fr.of0
    exact bodyPost_ret (v := x.agg) (by simp [results, Try.f46, go_sem, r0, r1, r2, r3, r4, r5, r6, r7, r8, r9, r10, r11, r12, r13, Fc.agg]) rfl ⟨by rw [HG.out], hbU.trans (hbw _ (by omega))⟩
end Go.Proofs.Ytbogmkhoppffgaa
