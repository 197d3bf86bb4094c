/- The reference's rowLess and ValidRows. -/
import Derived.Test.YtnjloghphkjcoaaScB
import Derived.Test.YtnjloghphkjcoaaKept
import Derived.Deep.DeepCutAuto
namespace Go.Proofs.Ytnjloghphkjcoaa
open Go.RowKit

def rltB (x y : Rw) : Bool := decide (Rlt x y)
theorem rltB_iff (x y : Rw) : rltB x y = true ↔ Rlt x y := by simp [rltB]
theorem rlt_cases (x y : Rw) : ((x.s != y.s) = true ∧ decide (x.s < y.s) = rltB x y) ∨ ((x.s != y.s) = false ∧ (x.b != y.b) = true ∧ decide (x.b < y.b) = rltB x y) ∨ ((x.s != y.s) = false ∧ (x.b != y.b) = false ∧ decide (x.m < y.m) = rltB x y) := by
  have hi := rltB_iff x y
  unfold Rlt at hi
  by_cases h1 : x.s = y.s
  · have e1 : (x.s != y.s) = false := by simp [h1]
    by_cases h2 : x.b = y.b
    · have e2 : (x.b != y.b) = false := by simp [h2]
      exact .inr (.inr ⟨e1, e2, by rw [Bool.eq_iff_iff, decide_eq_true_eq, hi]; omega⟩)
    · have e2 : (x.b != y.b) = true := by simp [h2]
      exact .inr (.inl ⟨e1, e2, by rw [Bool.eq_iff_iff, decide_eq_true_eq, hi]; omega⟩)
  · have e1 : (x.s != y.s) = true := by simp [h1]
    exact .inl ⟨e1, by rw [Bool.eq_iff_iff, decide_eq_true_eq, hi]; omega⟩
theorem row_cases (x : Rw) :
    (RowOk x ∧ decide (x.s < 0) = false ∧ decide (6 ≤ x.s) = false ∧ decide (x.b < 1) = false ∧ decide (5 < x.b) = false ∧ monB x.m = true ∧ decide (x.c < 1) = false ∧ decide (999 < x.c) = false ∧ decide (x.a < 0) = false ∧ decide (1000000000000 < x.a) = false) ∨
    (¬RowOk x ∧ decide (x.s < 0) = true) ∨
    (¬RowOk x ∧ decide (x.s < 0) = false ∧ decide (6 ≤ x.s) = true) ∨
    (¬RowOk x ∧ decide (x.s < 0) = false ∧ decide (6 ≤ x.s) = false ∧ decide (x.b < 1) = true) ∨
    (¬RowOk x ∧ decide (x.s < 0) = false ∧ decide (6 ≤ x.s) = false ∧ decide (x.b < 1) = false ∧ decide (5 < x.b) = true) ∨
    (¬RowOk x ∧ decide (x.s < 0) = false ∧ decide (6 ≤ x.s) = false ∧ decide (x.b < 1) = false ∧ decide (5 < x.b) = false ∧ monB x.m = false) ∨
    (¬RowOk x ∧ decide (x.s < 0) = false ∧ decide (6 ≤ x.s) = false ∧ decide (x.b < 1) = false ∧ decide (5 < x.b) = false ∧ monB x.m = true ∧ decide (x.c < 1) = true) ∨
    (¬RowOk x ∧ decide (x.s < 0) = false ∧ decide (6 ≤ x.s) = false ∧ decide (x.b < 1) = false ∧ decide (5 < x.b) = false ∧ monB x.m = true ∧ decide (x.c < 1) = false ∧ decide (999 < x.c) = true) ∨
    (¬RowOk x ∧ decide (x.s < 0) = false ∧ decide (6 ≤ x.s) = false ∧ decide (x.b < 1) = false ∧ decide (5 < x.b) = false ∧ monB x.m = true ∧ decide (x.c < 1) = false ∧ decide (999 < x.c) = false ∧ decide (x.a < 0) = true) ∨
    (¬RowOk x ∧ decide (x.s < 0) = false ∧ decide (6 ≤ x.s) = false ∧ decide (x.b < 1) = false ∧ decide (5 < x.b) = false ∧ monB x.m = true ∧ decide (x.c < 1) = false ∧ decide (999 < x.c) = false ∧ decide (x.a < 0) = false ∧ decide (1000000000000 < x.a) = true) := by
  unfold RowOk
  by_cases h0 : x.s < 0
  · exact .inr (.inl ⟨by omega, decide_eq_true h0⟩)
  by_cases h1 : 6 ≤ x.s
  · exact .inr (.inr (.inl ⟨by omega, decide_eq_false h0, decide_eq_true h1⟩))
  by_cases h2 : x.b < 1
  · exact .inr (.inr (.inr (.inl ⟨by omega, decide_eq_false h0, decide_eq_false h1, decide_eq_true h2⟩)))
  by_cases h3 : 5 < x.b
  · exact .inr (.inr (.inr (.inr (.inl ⟨by omega, decide_eq_false h0, decide_eq_false h1, decide_eq_false h2, decide_eq_true h3⟩))))
  by_cases h4 : ¬(0 ≤ x.m ∧ x.m ≤ 2399)
  · exact .inr (.inr (.inr (.inr (.inr (.inl ⟨by omega, decide_eq_false h0, decide_eq_false h1, decide_eq_false h2, decide_eq_false h3, (monB_no x.m).2 h4⟩)))))
  by_cases h5 : x.c < 1
  · exact .inr (.inr (.inr (.inr (.inr (.inr (.inl ⟨by omega, decide_eq_false h0, decide_eq_false h1, decide_eq_false h2, decide_eq_false h3, (monB_iff x.m).2 (Decidable.not_not.1 h4), decide_eq_true h5⟩))))))
  by_cases h6 : 999 < x.c
  · exact .inr (.inr (.inr (.inr (.inr (.inr (.inr (.inl ⟨by omega, decide_eq_false h0, decide_eq_false h1, decide_eq_false h2, decide_eq_false h3, (monB_iff x.m).2 (Decidable.not_not.1 h4), decide_eq_false h5, decide_eq_true h6⟩)))))))
  by_cases h7 : x.a < 0
  · exact .inr (.inr (.inr (.inr (.inr (.inr (.inr (.inr (.inl ⟨by omega, decide_eq_false h0, decide_eq_false h1, decide_eq_false h2, decide_eq_false h3, (monB_iff x.m).2 (Decidable.not_not.1 h4), decide_eq_false h5, decide_eq_false h6, decide_eq_true h7⟩))))))))
  by_cases h8 : 1000000000000 < x.a
  · exact .inr (.inr (.inr (.inr (.inr (.inr (.inr (.inr (.inr (⟨by omega, decide_eq_false h0, decide_eq_false h1, decide_eq_false h2, decide_eq_false h3, (monB_iff x.m).2 (Decidable.not_not.1 h4), decide_eq_false h5, decide_eq_false h6, decide_eq_false h7, decide_eq_true h8⟩)))))))))
  exact .inl ⟨by omega, decide_eq_false h0, decide_eq_false h1, decide_eq_false h2, decide_eq_false h3, (monB_iff x.m).2 (Decidable.not_not.1 h4), decide_eq_false h5, decide_eq_false h6, decide_eq_false h7, decide_eq_false h8⟩

set_option maxHeartbeats 1000000 in
theorem rless_any (x y : Rw) (w : World) :
    Calls Try.prog 38 #[.agg #[.int .i64 x.s, .int .i64 x.b, .int .i64 x.m, .int .i64 x.c, .int .i64 x.a, .bool x.p], .agg #[.int .i64 y.s, .int .i64 y.b, .int .i64 y.m, .int .i64 y.c, .int .i64 y.a, .bool y.p]] w fun e w' => e = .returned (.bool (rltB x y)) ∧ Below w.heap.size w w' := by
  have hb := ((Below.refl w.heap.size w).alloc (Nat.le_refl _) (.cells #[.int .i64 x.s, .int .i64 x.b, .int .i64 x.m, .int .i64 x.c, .int .i64 x.a, .bool x.p] 31)).alloc (by simp) (.cells #[.int .i64 y.s, .int .i64 y.b, .int .i64 y.m, .int .i64 y.c, .int .i64 y.a, .bool y.p] 31)
  rcases rlt_cases x y with ⟨t1, t2⟩ | ⟨t1, t2, t3⟩ | ⟨t1, t2, t3⟩
  · have H := Lib.hid t2
    clear t2
    go_enter Try.func38, Try.ntmps38
    go_wp2_with fail
    go_ret
    exact ⟨ret_bool H.out, hb⟩
  all_goals
    have H := Lib.hid t3
    clear t3
    go_enter Try.func38, Try.ntmps38
    go_wp2_with fail
    go_ret
    exact ⟨ret_bool H.out, hb⟩

theorem rless_kept {x y : Rw} {v : Bool} {W : World} (hv : rltB x y = v) (u : Kw W) :
    Calls Try.prog 38 #[.agg #[.int .i64 x.s, .int .i64 x.b, .int .i64 x.m, .int .i64 x.c, .int .i64 x.a, .bool x.p], .agg #[.int .i64 y.s, .int .i64 y.b, .int .i64 y.m, .int .i64 y.c, .int .i64 y.a, .bool y.p]] u.1 fun e w'' => e = .returned (.bool v) ∧ ∃ u' : Kw W, w'' = u'.1 :=
  (rless_any x y u.1).mono fun _ _ ⟨h1, h2⟩ => ⟨by rw [h1, hv], u.call h2⟩

set_option maxRecDepth 100000 in
set_option maxHeartbeats 4000000 in
theorem rvalid_any {A : Option Addr} {n c : Nat} {l : List Rw} {w : World} (h : Dr w A n l) (hn : n ≤ maxLen) :
    Calls Try.prog 15 #[.slice A n c] w fun e w' => e = .returned (.bool (vldB l)) ∧ Below w.heap.size w w' := by
  unfold maxLen at hn
  have HN := Lib.hid h.2
  have hrd := h.1
  clear h
  go_enter Try.func15, Try.ntmps15
  go_wp2_with fail
  go_loopw [3] (fun i wr => ∃ k : Nat, k ≤ n ∧ i = .int .i64 (k : Int) ∧ vldB (l.take k) = true ∧ Below w.heap.size w wr) (fun i _ => n - (intOf i).toNat)
  case atStart => exact ⟨0, by omega, rfl, rfl, Below.refl _ _⟩
  case round =>
    obtain ⟨k, hk, rfl, hv, hb⟩ := hrel
    have hwsz := hb.size
    have HV := Lib.hid hv
    clear hv
    by_cases hlt : k < n
    · have hkl : k < l.length := by rw [HN.out]; exact hlt
      obtain ⟨x, hx⟩ : ∃ x, l[k]? = some x := ⟨_, List.getElem?_eq_getElem hkl⟩
      obtain ⟨_, g, o, rfl, hgb, e0, e1, e2, e3, e4, e5⟩ := rw_cells (hrd.below hb) hx
      have hlo : (0 : Int) ≤ (k : Int) := by omega
      have hhi : (k : Int) < (n : Int) := by omega
      have hat := fun hl => vldB_at (l := l) hx hl
      have HAT := Lib.hid hat
      have hstep := fun h1 h2 => vldB_step (l := l) hx HV.out h1 h2
      have HST := Lib.hid hstep
      have HX := Lib.hid hx
      have hbA := hb.alloc hwsz (.cells #[.int .i64 x.s, .int .i64 x.b, .int .i64 x.m, .int .i64 x.c, .int .i64 x.a, .bool x.p] 31)
      clear hx hat hstep
      rcases row_cases x with ⟨hok, t0, t1, t2, t3, t4, t5, t6, t7, t8⟩ | ⟨hok, t0⟩ | ⟨hok, t0, t1⟩ | ⟨hok, t0, t1, t2⟩ | ⟨hok, t0, t1, t2, t3⟩ | ⟨hok, t0, t1, t2, t3, t4⟩ | ⟨hok, t0, t1, t2, t3, t4, t5⟩ | ⟨hok, t0, t1, t2, t3, t4, t5, t6⟩ | ⟨hok, t0, t1, t2, t3, t4, t5, t6, t7⟩ | ⟨hok, t0, t1, t2, t3, t4, t5, t6, t7, t8⟩
      rotate_left
      all_goals first
        | (have hbad : vldB l = false := by
             cases hl : vldB l with
             | false => rfl
             | true => exact absurd (HAT.out hl).1 hok
           have HB := Lib.hid hbad
           clear hok hbad
           go_wp2_with (go_at_call 25; refine (vmonth_any x.m _).mono ?_; rintro e w' ⟨rfl, rfl⟩)
           go_ret
           exact ⟨ret_bool HB.out.symm, hbA⟩)
        | skip
      have HOK := Lib.hid hok
      clear hok
      have hbox : (wr.alloc (.cells #[.int .i64 x.s, .int .i64 x.b, .int .i64 x.m, .int .i64 x.c, .int .i64 x.a, .bool x.p] 31)).heap[wr.heap.size]? = some (.cells #[.int .i64 x.s, .int .i64 x.b, .int .i64 x.m, .int .i64 x.c, .int .i64 x.a, .bool x.p] 31 (0, 0)) := heap_alloc_new wr _
      have hzA : wr.heap.size < (wr.alloc (.cells #[.int .i64 x.s, .int .i64 x.b, .int .i64 x.m, .int .i64 x.c, .int .i64 x.a, .bool x.p] 31)).heap.size := by simp
      go_upto_region 9 with ((go_at_call 25; refine (vmonth_any x.m _).mono ?_; rintro e w' ⟨rfl, rfl⟩))
      obtain ⟨W, hW⟩ : ∃ W, W = wr.alloc (.cells #[.int .i64 x.s, .int .i64 x.b, .int .i64 x.m, .int .i64 x.c, .int .i64 x.a, .bool x.p] 31) := ⟨_, rfl⟩
      rw [← hW] at hbox hbA hzA ⊢
      clear hW t0 t1 t2 t3 t4 t5 t6 t7 t8 e0 e1 e2 e3 e4 e5
      have hWz := hbA.size
      by_cases hk0 : k = 0
      · have hd0 : decide (0 < k) = false := by simp [hk0]
        have hd1 : ¬ (0 : Int) < (k : Int) := by omega
        have hs := HST.out HOK.out fun p hp => absurd hp (by omega)
        have HS := Lib.hid hs
        clear hs hk0
        go_quiet (fail)
        go_wp2_with fail
        go_roundw
        case rel => exact ⟨k + 1, by omega, by go_num, HS.out, below_drewN hbA nq⟩
        case measure => simp [intOf]; omega
      · have hd0 : decide (0 < k) = true := by simp; omega
        have hd1 : (0 : Int) < (k : Int) := by omega
        have hw1 : IntKind.i64.wrap ((k : Int) - 1) = (k : Int) - 1 := IntWalk.i64_in _ (by omega)
        have hlo1 : (0 : Int) ≤ (k : Int) - 1 := by omega
        have hhi1 : (k : Int) - 1 < (n : Int) := by omega
        have hk1 : 1 ≤ k := by omega
        have hk2 : (1 : Int) ≤ (k : Int) := by omega
        have hk3 : (k : Int) ≤ (n : Int) := by omega
        obtain ⟨p, hp⟩ : ∃ p, l[k - 1]? = some p := ⟨_, List.getElem?_eq_getElem (by omega)⟩
        obtain ⟨_, g', o', hA, hgb', q0, q1, q2, q3, q4, q5⟩ := rw_cells (hrd.below hbA) hp
        injection hA with hA
        injection hA with hA1 hA2
        subst hA1 hA2
        have b0 : W.cell? ⟨wr.heap.size, 0, none⟩ = some (.int .i64 x.s) := by rw [cell_of_row W _ 0 _ _ _ hbox]; rfl
        have b1 : W.cell? ⟨wr.heap.size, 1, none⟩ = some (.int .i64 x.b) := by rw [cell_of_row W _ 1 _ _ _ hbox]; rfl
        have b2 : W.cell? ⟨wr.heap.size, 2, none⟩ = some (.int .i64 x.m) := by rw [cell_of_row W _ 2 _ _ _ hbox]; rfl
        have b3 : W.cell? ⟨wr.heap.size, 3, none⟩ = some (.int .i64 x.c) := by rw [cell_of_row W _ 3 _ _ _ hbox]; rfl
        have b4 : W.cell? ⟨wr.heap.size, 4, none⟩ = some (.int .i64 x.a) := by rw [cell_of_row W _ 4 _ _ _ hbox]; rfl
        have b5 : W.cell? ⟨wr.heap.size, 5, none⟩ = some (.bool x.p) := by rw [cell_of_row W _ 5 _ _ _ hbox]; rfl
        have hnx : vldB l = true → Nxt p x := fun hl => (HAT.out hl).2 p (by omega) hp
        have hs := fun hnx : Nxt p x => HST.out HOK.out fun p' _ hp' => by
          rw [hp] at hp'
          injection hp' with hp'
          rw [← hp']
          exact hnx
        have HNX := Lib.hid hnx
        have HS := Lib.hid hs
        have hgW : g < W.heap.size := by omega
        have d0 : ∀ u : Kw W, u.1.cell? ⟨g, o + (k - 1) * 6, none⟩ = some (.int .i64 p.s) := fun u => u.cell (p := ⟨g, o + (k - 1) * 6, none⟩) hgW q0
        have d1 : ∀ u : Kw W, u.1.cell? ⟨g, o + (k - 1) * 6 + 1, none⟩ = some (.int .i64 p.b) := fun u => u.cell (p := ⟨g, o + (k - 1) * 6 + 1, none⟩) hgW q1
        have d2 : ∀ u : Kw W, u.1.cell? ⟨g, o + (k - 1) * 6 + 2, none⟩ = some (.int .i64 p.m) := fun u => u.cell (p := ⟨g, o + (k - 1) * 6 + 2, none⟩) hgW q2
        have d3 : ∀ u : Kw W, u.1.cell? ⟨g, o + (k - 1) * 6 + 3, none⟩ = some (.int .i64 p.c) := fun u => u.cell (p := ⟨g, o + (k - 1) * 6 + 3, none⟩) hgW q3
        have d4 : ∀ u : Kw W, u.1.cell? ⟨g, o + (k - 1) * 6 + 4, none⟩ = some (.int .i64 p.a) := fun u => u.cell (p := ⟨g, o + (k - 1) * 6 + 4, none⟩) hgW q4
        have d5 : ∀ u : Kw W, u.1.cell? ⟨g, o + (k - 1) * 6 + 5, none⟩ = some (.bool p.p) := fun u => u.cell (p := ⟨g, o + (k - 1) * 6 + 5, none⟩) hgW q5
        have f0 : ∀ u : Kw W, u.1.cell? ⟨wr.heap.size, 0, none⟩ = some (.int .i64 x.s) := fun u => u.cell (p := ⟨wr.heap.size, 0, none⟩) hzA b0
        have f1 : ∀ u : Kw W, u.1.cell? ⟨wr.heap.size, 1, none⟩ = some (.int .i64 x.b) := fun u => u.cell (p := ⟨wr.heap.size, 1, none⟩) hzA b1
        have f2 : ∀ u : Kw W, u.1.cell? ⟨wr.heap.size, 2, none⟩ = some (.int .i64 x.m) := fun u => u.cell (p := ⟨wr.heap.size, 2, none⟩) hzA b2
        have f3 : ∀ u : Kw W, u.1.cell? ⟨wr.heap.size, 3, none⟩ = some (.int .i64 x.c) := fun u => u.cell (p := ⟨wr.heap.size, 3, none⟩) hzA b3
        have f4 : ∀ u : Kw W, u.1.cell? ⟨wr.heap.size, 4, none⟩ = some (.int .i64 x.a) := fun u => u.cell (p := ⟨wr.heap.size, 4, none⟩) hzA b4
        have f5 : ∀ u : Kw W, u.1.cell? ⟨wr.heap.size, 5, none⟩ = some (.bool x.p) := fun u => u.cell (p := ⟨wr.heap.size, 5, none⟩) hzA b5
        clear q0 q1 q2 q3 q4 q5 b0 b1 b2 b3 b4 b5 hbox
        clear hp hnx hs hk0
        have hcase : (rltB p x = false ∧ ¬Nxt p x) ∨ (rltB p x = true ∧ (p.s == x.s) = true ∧ (p.c != x.c) = true ∧ ¬Nxt p x) ∨ (rltB p x = true ∧ (p.s == x.s) = true ∧ (p.c != x.c) = false ∧ Nxt p x) ∨ (rltB p x = true ∧ (p.s == x.s) = false ∧ Nxt p x) := by
          unfold Nxt
          rw [← rltB_iff]
          cases hr : rltB p x with
          | false => exact .inl ⟨rfl, by simp⟩
          | true =>
            by_cases h1 : p.s = x.s
            · by_cases h2 : p.c = x.c
              · exact .inr (.inr (.inl ⟨rfl, by simp [h1], by simp [h2], by simp [h2]⟩))
              · exact .inr (.inl ⟨rfl, by simp [h1], by simp [h2], by simp [h1, h2]⟩)
            · exact .inr (.inr (.inr ⟨rfl, by simp [h1], by simp [h1]⟩))
        rcases hcase with ⟨u1, hx⟩ | ⟨u1, u2, u3, hx⟩ | ⟨u1, u2, u3, hx⟩ | ⟨u1, u2, hx⟩
        all_goals
          have HXN := Lib.hid hx
          clear hx
          refine wp_region_kept (by kernel_rfl) (by kernel_rfl) ?_
          repeat (go_big_quiet_step ((go_at_call 38; with_reducible exact rless_kept u1 _)))
          refine wpQuiet_nil ?_
          intro _ hw'
          obtain ⟨⟨w2, hb2⟩, rfl⟩ := hw'
          have hB2 := hbA.trans (hb2.mono hWz)
          go_wp2_with fail
        · go_ret
          exact ⟨ret_bool (by cases hl : vldB l with | false => rfl | true => exact absurd (HNX.out hl) HXN.out), hB2⟩
        · go_ret
          exact ⟨ret_bool (by cases hl : vldB l with | false => rfl | true => exact absurd (HNX.out hl) HXN.out), hB2⟩
        all_goals
          go_roundw
          case rel => exact ⟨k + 1, by omega, by go_num, HS.out HXN.out, hB2⟩
          case measure => simp [intOf]; omega
    · have hl : l.take k = l := List.take_of_length_le (by have := HN.out; omega)
      have HL := Lib.hid hl
      clear hl
      go_wp2_with fail
      go_ret
      exact ⟨ret_bool (by rw [← HV.out, HL.out]), hb⟩
end Go.Proofs.Ytnjloghphkjcoaa

