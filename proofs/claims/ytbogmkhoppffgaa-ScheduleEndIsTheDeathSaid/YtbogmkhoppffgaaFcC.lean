/- A valid fact is found valid by the program: the walk. -/
import Derived.Test.YtbogmkhoppffgaaFcB
namespace Go.Proofs.Ytbogmkhoppffgaa
open Go.RowKit

theorem useS_full {k : Int} (h1 : 1 ≤ k) (h2 : k ≤ 14) : (useS k).toList.isEmpty = false := by
  rcases kinds h1 h2 with rfl | rfl | rfl | rfl | rfl | rfl | rfl | rfl | rfl | rfl | rfl | rfl | rfl | rfl <;> kernel_rfl
set_option maxRecDepth 100000 in
set_option maxHeartbeats 4000000 in
theorem tvalidF {x : Fc} (hv : Vld x) (w : World) : Calls Try.prog 55 #[x.agg] w fun e w' => e = .returned (.bool true) ∧ Below w.heap.size w w' := by
  have HV := Lib.hid hv
  obtain ⟨hi1, hi2⟩ := hv.i
  obtain ⟨hn1, hn2⟩ := hv.n
  obtain ⟨hv1, hv2⟩ := hv.v
  obtain ⟨hp1, hp2⟩ := hv.p
  obtain ⟨hk1, hk2⟩ := hv.k
  obtain ⟨hf0, hft, ht1⟩ := hv.sp
  have hue := useS_full hk1 hk2
  clear hv
  dsimp only [Fc.agg]
  go_enter Try.func55, Try.ntmps55
  go_wp2_with fail
  refine (tuses_any x.k _ hk1 hk2).mono ?_
  rintro e w' ⟨rfl, rfl⟩
  go_wp2_with fail
  refine (within_true hi1 hi2 _).mono ?_
  rintro e w' ⟨rfl, rfl⟩
  go_wp2_with fail
  refine (within_true hn1 hn2 _).mono ?_
  rintro e w' ⟨rfl, rfl⟩
  go_wp2_with fail
  refine (within_true hv1 hv2 _).mono ?_
  rintro e w' ⟨rfl, rfl⟩
  go_wp2_with fail
  refine (within_true hp1 hp2 _).mono ?_
  rintro e w' ⟨rfl, rfl⟩
  go_upto_region 5 with (fail)
  have hb := ((Below.refl w.heap.size w).alloc (Nat.le_refl _) (.cells x.cells.toArray 40)).alloc (by simp) (.cells #[.string (useS x.k)] 9)
  have hrow : ((w.alloc (.cells x.cells.toArray 40)).alloc (.cells #[.string (useS x.k)] 9)).heap[w.heap.size]? = some (.cells x.cells.toArray 40 (0, 0)) := (Below.heap_alloc _ _ _ (by simp)).trans (heap_alloc_new w _)
  have hstr : ((w.alloc (.cells x.cells.toArray 40)).alloc (.cells #[.string (useS x.k)] 9)).cell? ⟨w.heap.size + 1, 0, none⟩ = some (.string (useS x.k)) := by
    have := heap_alloc_new (w.alloc (.cells x.cells.toArray 40)) (.cells #[.string (useS x.k)] 9)
    rw [World.size_alloc] at this
    rw [cell_of_row _ _ 0 _ _ _ this]
    rfl
  have hz : w.heap.size + 1 < ((w.alloc (.cells x.cells.toArray 40)).alloc (.cells #[.string (useS x.k)] 9)).heap.size := by simp
  obtain ⟨V, hV⟩ : ∃ V, V = (w.alloc (.cells x.cells.toArray 40)).alloc (.cells #[.string (useS x.k)] 9) := ⟨_, rfl⟩
  rw [← hV] at hb hrow hstr hz
  have hV2 : (w.alloc (.cells #[.int .i64 x.i, .int .i64 x.n, .int .i64 x.v, .bool x.g, .int .i64 x.p, .int .i64 x.k, .int .i64 x.s, .int .i64 x.f, .int .i64 x.t, .int .i64 x.e, .int .i64 x.h, .int .i64 x.c, .int .i64 x.a, .int .i64 x.r] 40)).alloc (.cells #[.string (useS x.k)] 9) = V := hV.symm
  rw [hV2]
  clear hV hV2
  obtain ⟨c0, c1, c2, c3, c4, c5, c6, c7, c8, c9, c10, c11, c12, c13⟩ := fcAt_row hrow
  rw [Nat.zero_add] at c1 c2 c3 c4 c5 c6 c7 c8 c9 c10 c11 c12 c13
  have hbl : w.heap.size < V.heap.size := by omega
  have f4 : ∀ u : Kw V, u.1.cell? ⟨w.heap.size, 4, none⟩ = some (.int .i64 x.p) := fun u => u.cell (p := ⟨w.heap.size, 4, none⟩) hbl c4
  have f5 : ∀ u : Kw V, u.1.cell? ⟨w.heap.size, 5, none⟩ = some (.int .i64 x.k) := fun u => u.cell (p := ⟨w.heap.size, 5, none⟩) hbl c5
  have f6 : ∀ u : Kw V, u.1.cell? ⟨w.heap.size, 6, none⟩ = some (.int .i64 x.s) := fun u => u.cell (p := ⟨w.heap.size, 6, none⟩) hbl c6
  have f7 : ∀ u : Kw V, u.1.cell? ⟨w.heap.size, 7, none⟩ = some (.int .i64 x.f) := fun u => u.cell (p := ⟨w.heap.size, 7, none⟩) hbl c7
  have f8 : ∀ u : Kw V, u.1.cell? ⟨w.heap.size, 8, none⟩ = some (.int .i64 x.t) := fun u => u.cell (p := ⟨w.heap.size, 8, none⟩) hbl c8
  have f9 : ∀ u : Kw V, u.1.cell? ⟨w.heap.size, 9, none⟩ = some (.int .i64 x.e) := fun u => u.cell (p := ⟨w.heap.size, 9, none⟩) hbl c9
  have f10 : ∀ u : Kw V, u.1.cell? ⟨w.heap.size, 10, none⟩ = some (.int .i64 x.h) := fun u => u.cell (p := ⟨w.heap.size, 10, none⟩) hbl c10
  have f11 : ∀ u : Kw V, u.1.cell? ⟨w.heap.size, 11, none⟩ = some (.int .i64 x.c) := fun u => u.cell (p := ⟨w.heap.size, 11, none⟩) hbl c11
  have f12 : ∀ u : Kw V, u.1.cell? ⟨w.heap.size, 12, none⟩ = some (.int .i64 x.a) := fun u => u.cell (p := ⟨w.heap.size, 12, none⟩) hbl c12
  have f13 : ∀ u : Kw V, u.1.cell? ⟨w.heap.size, 13, none⟩ = some (.int .i64 x.r) := fun u => u.cell (p := ⟨w.heap.size, 13, none⟩) hbl c13
  have HS := Lib.hid hstr
  have HF := Lib.hid (And.intro hf0 (And.intro hft ht1))
  obtain ⟨bS, hS⟩ : ∃ b, decide (83 ∈ useL x.k) = b := ⟨_, rfl⟩
  obtain ⟨bT, hT⟩ : ∃ b, decide (84 ∈ useL x.k) = b := ⟨_, rfl⟩
  obtain ⟨bH, hH⟩ : ∃ b, decide (72 ∈ useL x.k) = b := ⟨_, rfl⟩
  obtain ⟨bC, hC⟩ : ∃ b, decide (67 ∈ useL x.k) = b := ⟨_, rfl⟩
  obtain ⟨bA, hA⟩ : ∃ b, decide (65 ∈ useL x.k) = b := ⟨_, rfl⟩
  obtain ⟨bR, hR⟩ : ∃ b, decide (82 ∈ useL x.k) = b := ⟨_, rfl⟩
  have KS := Lib.hid hS
  have KT := Lib.hid hT
  have KH := Lib.hid hH
  have KC := Lib.hid hC
  have KA := Lib.hid hA
  have KR := Lib.hid hR
  have LS := Lib.hid (HV.out.s.b hS)
  have LT := Lib.hid (HV.out.e.b hT)
  have LH := Lib.hid (HV.out.h.b hH)
  have LC := Lib.hid (HV.out.c.b hC)
  have LA := Lib.hid (HV.out.a.b hA)
  have LR := Lib.hid (HV.out.r.b hR)
  clear hS hT hH hC hA hR c0 c1 c2 c3 c4 c5 c6 c7 c8 c9 c10 c11 c12 c13 hrow hstr hue hi1 hi2 hn1 hn2 hv1 hv2 hp1 hp2 hf0 hft ht1
  refine wp_region_kept (by kernel_rfl) (by kernel_rfl) ?_
  repeat (go_big_quiet_step ((first
    | (go_at_call 64; with_reducible exact has_kept HS.out hz KS.out _)
    | (go_at_call 64; with_reducible exact has_kept HS.out hz KT.out _)
    | (go_at_call 67; with_reducible exact tfield_kept LS.out _)
    | (go_at_call 67; with_reducible exact tfield_kept LT.out _)
    | (go_at_call 68; with_reducible exact vspan_kept HF.out.1 HF.out.2.1 HF.out.2.2 _))))
  refine wpQuiet_nil ?_
  intro V2 hw'
  obtain ⟨⟨_, hb2⟩, rfl⟩ := hw'
  have hz2 := hb2.size
  have hb3 := hb.trans (hb2.mono hb.size)
  have hbl2 : w.heap.size < V2.heap.size := by omega
  have hzz : w.heap.size + 1 < V2.heap.size := by omega
  have HS2 := Lib.hid (Kw.cell ⟨V2, hb2⟩ (p := ⟨w.heap.size + 1, 0, none⟩) hz HS.out)
  have g4 : V2.cell? ⟨w.heap.size, 4, none⟩ = some (.int .i64 x.p) := f4 ⟨V2, hb2⟩
  have k4 : ∀ u : Kw V2, u.1.cell? ⟨w.heap.size, 4, none⟩ = some (.int .i64 x.p) := fun u => u.cell (p := ⟨w.heap.size, 4, none⟩) hbl2 g4
  have g5 : V2.cell? ⟨w.heap.size, 5, none⟩ = some (.int .i64 x.k) := f5 ⟨V2, hb2⟩
  have k5 : ∀ u : Kw V2, u.1.cell? ⟨w.heap.size, 5, none⟩ = some (.int .i64 x.k) := fun u => u.cell (p := ⟨w.heap.size, 5, none⟩) hbl2 g5
  have g6 : V2.cell? ⟨w.heap.size, 6, none⟩ = some (.int .i64 x.s) := f6 ⟨V2, hb2⟩
  have k6 : ∀ u : Kw V2, u.1.cell? ⟨w.heap.size, 6, none⟩ = some (.int .i64 x.s) := fun u => u.cell (p := ⟨w.heap.size, 6, none⟩) hbl2 g6
  have g7 : V2.cell? ⟨w.heap.size, 7, none⟩ = some (.int .i64 x.f) := f7 ⟨V2, hb2⟩
  have k7 : ∀ u : Kw V2, u.1.cell? ⟨w.heap.size, 7, none⟩ = some (.int .i64 x.f) := fun u => u.cell (p := ⟨w.heap.size, 7, none⟩) hbl2 g7
  have g8 : V2.cell? ⟨w.heap.size, 8, none⟩ = some (.int .i64 x.t) := f8 ⟨V2, hb2⟩
  have k8 : ∀ u : Kw V2, u.1.cell? ⟨w.heap.size, 8, none⟩ = some (.int .i64 x.t) := fun u => u.cell (p := ⟨w.heap.size, 8, none⟩) hbl2 g8
  have g9 : V2.cell? ⟨w.heap.size, 9, none⟩ = some (.int .i64 x.e) := f9 ⟨V2, hb2⟩
  have k9 : ∀ u : Kw V2, u.1.cell? ⟨w.heap.size, 9, none⟩ = some (.int .i64 x.e) := fun u => u.cell (p := ⟨w.heap.size, 9, none⟩) hbl2 g9
  have g10 : V2.cell? ⟨w.heap.size, 10, none⟩ = some (.int .i64 x.h) := f10 ⟨V2, hb2⟩
  have k10 : ∀ u : Kw V2, u.1.cell? ⟨w.heap.size, 10, none⟩ = some (.int .i64 x.h) := fun u => u.cell (p := ⟨w.heap.size, 10, none⟩) hbl2 g10
  have g11 : V2.cell? ⟨w.heap.size, 11, none⟩ = some (.int .i64 x.c) := f11 ⟨V2, hb2⟩
  have k11 : ∀ u : Kw V2, u.1.cell? ⟨w.heap.size, 11, none⟩ = some (.int .i64 x.c) := fun u => u.cell (p := ⟨w.heap.size, 11, none⟩) hbl2 g11
  have g12 : V2.cell? ⟨w.heap.size, 12, none⟩ = some (.int .i64 x.a) := f12 ⟨V2, hb2⟩
  have k12 : ∀ u : Kw V2, u.1.cell? ⟨w.heap.size, 12, none⟩ = some (.int .i64 x.a) := fun u => u.cell (p := ⟨w.heap.size, 12, none⟩) hbl2 g12
  have g13 : V2.cell? ⟨w.heap.size, 13, none⟩ = some (.int .i64 x.r) := f13 ⟨V2, hb2⟩
  have k13 : ∀ u : Kw V2, u.1.cell? ⟨w.heap.size, 13, none⟩ = some (.int .i64 x.r) := fun u => u.cell (p := ⟨w.heap.size, 13, none⟩) hbl2 g13
  clear f4 f5 f6 f7 f8 f9 f10 f11 f12 f13
  have G4 := Lib.hid g4
  have G5 := Lib.hid g5
  have G6 := Lib.hid g6
  have G7 := Lib.hid g7
  have G8 := Lib.hid g8
  have G9 := Lib.hid g9
  have G13 := Lib.hid g13
  clear g4 g5 g6 g7 g8 g9 g10 g11 g12 g13 HF LS LT KS KT
  go_upto_region 7 with (fail)
  refine wp_region_kept (by kernel_rfl) (by kernel_rfl) ?_
  repeat (go_big_quiet_step ((first
    | (go_at_call 64; with_reducible exact has_kept HS2.out hzz KH.out _)
    | (go_at_call 64; with_reducible exact has_kept HS2.out hzz KC.out _)
    | (go_at_call 64; with_reducible exact has_kept HS2.out hzz KA.out _)
    | (go_at_call 64; with_reducible exact has_kept HS2.out hzz KR.out _)
    | (go_at_call 67; with_reducible exact tfield_kept LH.out _)
    | (go_at_call 67; with_reducible exact tfield_kept LC.out _)
    | (go_at_call 67; with_reducible exact tfield_kept LA.out _)
    | (go_at_call 67; with_reducible exact tfield_kept LR.out _))))
  refine wpQuiet_nil ?_
  intro V3 hw'
  obtain ⟨⟨_, hb4⟩, rfl⟩ := hw'
  have hb5 := hb3.trans (hb4.mono hb3.size)
  have m4 : V3.cell? ⟨w.heap.size, 4, none⟩ = some (.int .i64 x.p) := k4 ⟨V3, hb4⟩
  have m5 : V3.cell? ⟨w.heap.size, 5, none⟩ = some (.int .i64 x.k) := k5 ⟨V3, hb4⟩
  have m6 : V3.cell? ⟨w.heap.size, 6, none⟩ = some (.int .i64 x.s) := k6 ⟨V3, hb4⟩
  have m7 : V3.cell? ⟨w.heap.size, 7, none⟩ = some (.int .i64 x.f) := k7 ⟨V3, hb4⟩
  have m8 : V3.cell? ⟨w.heap.size, 8, none⟩ = some (.int .i64 x.t) := k8 ⟨V3, hb4⟩
  have m9 : V3.cell? ⟨w.heap.size, 9, none⟩ = some (.int .i64 x.e) := k9 ⟨V3, hb4⟩
  have m13 : V3.cell? ⟨w.heap.size, 13, none⟩ = some (.int .i64 x.r) := k13 ⟨V3, hb4⟩
  clear k4 k5 k6 k7 k8 k9 k10 k11 k12 k13 LH LC LA LR KH KC KA KR HS2
  have hq4 := HV.out.q4
  have hq1 := HV.out.q1
  have hq2 := HV.out.q2
  have Q4 := Lib.hid hq4
  have Q1 := Lib.hid hq1
  have Q2 := Lib.hid hq2
  have HSP := Lib.hid HV.out.sp
  clear hq4 hq1 hq2
  by_cases h4 : x.k = 4
  · have e4 : (x.k == 4) = true := beq_iff_eq.2 h4
    have hne : (x.s != x.e) = true := by simpa using Q4.out h4
    clear h4
    go_wp2_with fail
    go_ret
    exact ⟨rfl, hb5⟩
  have e4 : (x.k == 4) = false := beq_eq_false_iff_ne.2 h4
  by_cases h11 : x.k = 11
  · have e11 : (x.k == 11) = true := beq_iff_eq.2 h11
    have ht : (x.t == x.f + 1) = true := beq_iff_eq.2 (Q1.out (.inl h11))
    have hw1 : IntKind.i64.wrap (x.f + 1) = x.f + 1 := IntWalk.i64_in _ (by have := HSP.out; omega)
    clear h11 h4
    go_wp2_with fail
    go_ret
    exact ⟨rfl, hb5⟩
  have e11 : (x.k == 11) = false := beq_eq_false_iff_ne.2 h11
  by_cases h12 : x.k = 12
  · have e12 : (x.k == 12) = true := beq_iff_eq.2 h12
    have ht : (x.t == x.f + 1) = true := beq_iff_eq.2 (Q1.out (.inr h12))
    have hw1 : IntKind.i64.wrap (x.f + 1) = x.f + 1 := IntWalk.i64_in _ (by have := HSP.out; omega)
    clear h12 h11 h4
    go_wp2_with fail
    go_ret
    exact ⟨rfl, hb5⟩
  have e12 : (x.k == 12) = false := beq_eq_false_iff_ne.2 h12
  by_cases h10 : x.k = 10
  · have e10 : (x.k == 10) = true := beq_iff_eq.2 h10
    have hne : (x.r != x.p) = true := by simpa using Q2.out (.inl h10)
    clear h10 h12 h11 h4
    go_wp2_with fail
    go_ret
    exact ⟨rfl, hb5⟩
  have e10 : (x.k == 10) = false := beq_eq_false_iff_ne.2 h10
  by_cases h14 : x.k = 14
  · have e14 : (x.k == 14) = true := beq_iff_eq.2 h14
    have hne : (x.r != x.p) = true := by simpa using Q2.out (.inr h14)
    clear h14 h10 h12 h11 h4
    go_wp2_with fail
    go_ret
    exact ⟨rfl, hb5⟩
  have e14 : (x.k == 14) = false := beq_eq_false_iff_ne.2 h14
  clear h4 h11 h12 h10 h14
  go_wp2_with fail
  go_ret
  exact ⟨rfl, hb5⟩
end Go.Proofs.Ytbogmkhoppffgaa
