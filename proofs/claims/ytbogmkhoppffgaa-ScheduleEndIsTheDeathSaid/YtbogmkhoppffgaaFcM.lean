/- Facts inserted one by one: the program's ascending, Merge. -/
import Derived.Test.YtbogmkhoppffgaaFcL
namespace Go.Proofs.Ytbogmkhoppffgaa
open Go.RowKit

/-- A fact in a new box. -/
theorem fact_box (w : World) (x : Fc) : ∃ W, W = w.alloc (.cells #[.int .i64 x.i, .int .i64 x.n, .int .i64 x.v, .bool x.g, .int .i64 x.p, .int .i64 x.k, .int .i64 x.s, .int .i64 x.f, .int .i64 x.t, .int .i64 x.e, .int .i64 x.h, .int .i64 x.c, .int .i64 x.a, .int .i64 x.r] 40) ∧ FcAt W w.heap.size 0 x ∧ W.heap.size = w.heap.size + 1 ∧ Below w.heap.size w W ∧ Rd W (w.heap.size + 1) 14 (some ⟨w.heap.size, 0, none⟩) 1 (flat Fc.cells [x]) := by
  have h := heap_alloc_new w (.cells x.cells.toArray 40)
  refine ⟨_, rfl, fcAt_row (t := 40) (fr := (0, 0)) h, by simp, (Below.refl _ w).alloc (Nat.le_refl _) _, ?_⟩
  rw [flat_one]
  exact Rd.built (cs := x.cells.toArray) h (by omega) rfl
theorem mrgF_vld {L : List Fc} (h : ∀ x ∈ L, Vld x) (k : Nat) : ∀ y ∈ mrgF (L.take k), Vld y := by
  intro y hy
  rcases mrgF_mem _ _ y hy with hy | hy
  · exact h y (List.mem_of_mem_take hy)
  · cases hy
theorem mrgF_len (L : List Fc) (k : Nat) : (mrgF (L.take k)).length ≤ k := by
  have h := mrgF_length (L.take k) []
  have h2 : (L.take k).length ≤ k := by rw [List.length_take]; omega
  unfold mrgF
  simp only [List.length_nil] at h
  omega
theorem merge_to {A B : Option Addr} {n c m d : Nat} {X Y Z : List Fc} {w : World} (hZ : mgF X Y = Z) (hX : Rd w w.heap.size 14 A n (flat Fc.cells X)) (hY : Rd w w.heap.size 14 B m (flat Fc.cells Y)) (hXl : X.length = n) (hYl : Y.length = m) (hvx : ∀ x ∈ X, Vld x) (hvy : ∀ y ∈ Y, Vld y) (hnc : n ≤ c) (hmd : m ≤ d) (hc : c ≤ maxLen) (hd : d ≤ maxLen) (hn : n ≤ 1000) (hm : m ≤ 1000) :
    Calls Try.prog 43 #[.slice A n c, .slice B m d, .func (.func 45) #[] #[], .func (.func 46) #[] #[]] w (RetFs w Z) := by
  subst hZ
  exact merge_any hX hY hXl hYl hvx hvy hnc hmd hc hd hn hm

set_option maxRecDepth 100000 in
set_option maxHeartbeats 4000000 in
theorem asc_any {A : Option Addr} {n c : Nat} {L : List Fc} {w : World} (hL : Rd w w.heap.size 14 A n (flat Fc.cells L)) (hl : L.length = n) (hv : ∀ x ∈ L, Vld x) (hn : n ≤ 900) :
    Calls Try.prog 44 #[.slice A n c] w (RetFs w (mrgF L)) := by
  have HL := Lib.hid hl
  have HV := Lib.hid hv
  clear hl hv
  go_enter Try.func44, Try.ntmps44
  go_wp2_with fail
  go_loopw [3, 8] (fun v i wr => ∃ (k m c1 : Nat) (A1 : Option Addr), k ≤ n ∧ i = .int .i64 (k : Int) ∧ v = .slice A1 m c1 ∧ (mrgF (L.take k)).length = m ∧ wr.ownsRow w.heap.size 40 14 (.slice A1 m c1) m (flat Fc.cells (mrgF (L.take k))) ∧ Below w.heap.size w wr) (fun _ i _ => n - (intOf i).toNat)
  case atStart => exact ⟨0, 0, 0, none, by omega, rfl, rfl, rfl, World.ownsRow_nil _ _ _ _, Below.refl _ _⟩
  case round =>
    obtain ⟨k, m, c1, A1, hk, rfl, rfl, hm, hown, hb⟩ := hrel
    have hwsz := hb.size
    have hml := mrgF_len L k
    rw [hm] at hml
    obtain ⟨_, _, e0, hnc1, hcm1, _⟩ := own_form hown
    injection e0 with ea _ e1
    subst ea e1
    have HM := Lib.hid hm
    have HCM := Lib.hid hcm1
    have HKV := Lib.hid (mrgF_vld HV.out k)
    clear hm hcm1
    by_cases hlt : k < n
    · have hkl : k < L.length := by rw [HL.out]; exact hlt
      obtain ⟨x, hx⟩ : ∃ x, L[k]? = some x := ⟨_, List.getElem?_eq_getElem hkl⟩
      have HVX := Lib.hid (HV.out x (List.mem_of_getElem? hx))
      have HST := Lib.hid (mrgF_take hx)
      obtain ⟨_, g, o, rfl, hgb, f0⟩ := fc_cells (hL.below hb) hx
      obtain ⟨p0, p1, p2, p3, p4, p5, p6, p7, p8, p9, p10, p11, p12, p13⟩ := f0
      have hlo : (0 : Int) ≤ (k : Int) := by omega
      have hhi : (k : Int) < (n : Int) := by omega
      clear hx hkl
      obtain ⟨O, hO⟩ : ∃ O, O = mrgF (L.take k) := ⟨_, rfl⟩
      rw [← hO] at hown HM HKV HST
      clear hO
      go_wp2_with fail
      obtain ⟨W, hW, fx, hzW, hbA, _⟩ := fact_box wr x
      have hownA := own_underF hown hbA
      rw [← hW] at ⊢
      clear hW
      have hbw := hb.trans (hbA.mono hwsz)
      have hzw := hbw.size
      obtain ⟨t0, t1, t2, t3, t4, t5, t6, t7, t8, t9, t10, t11, t12, t13⟩ := fx.of0
      clear p0 p1 p2 p3 p4 p5 p6 p7 p8 p9 p10 p11 p12 p13 hown hb
      go_wp2_with fail
      refine (tvalidE HVX.out _).mono ?_
      rintro e w1 ⟨rfl, hb1⟩
      have fx1 := fx.to hb1 (by omega)
      have hown1 := own_underF hownA hb1
      have hbw1 := hbw.trans (hb1.mono hzw)
      have hz1 := hbw1.size
      have hz2 := hb1.size
      clear t0 t1 t2 t3 t4 t5 t6 t7 t8 t9 t10 t11 t12 t13 fx hownA hb1 hbw
      obtain ⟨t0, t1, t2, t3, t4, t5, t6, t7, t8, t9, t10, t11, t12, t13⟩ := fx1.of0
      go_wp2_with fail
      obtain ⟨U, hU, fu, hzU, hbU, hrU⟩ := fact_box w1 x
      have hownU := own_underF hown1 hbU
      rw [← hU] at ⊢
      clear hU t0 t1 t2 t3 t4 t5 t6 t7 t8 t9 t10 t11 t12 t13 fx1 fu
      have hbw2 := hbw1.trans (hbU.mono hz1)
      have hz3 := hbw2.size
      refine (merge_to (mgF_one O x) (Rd.ofOwn hownU) (hrU.mono (by omega)) HM.out rfl HKV.out (by intro y hy; rw [List.mem_singleton] at hy; rw [hy]; exact HVX.out) hnc1 (Nat.le_refl 1) HCM.out (by unfold maxLen; omega) (by omega) (by omega)).mono ?_
      rintro e w4 hret
      obtain ⟨A4, n4, c4, hl4, rfl, h41, h42, hown4, hb4⟩ := hret.open
      have hbf := hbw2.trans (hb4.mono hz3)
      have hownf := ownsRow_base hown4 hz3
      go_wp2_with fail
      go_roundw
      case rel => exact ⟨k + 1, n4, c4, A4, by omega, by go_num, rfl, by rw [HST.out]; exact hl4.out, by rw [HST.out]; exact hownf, hbf⟩
      case measure => simp [intOf]; omega
    · have hkN : L.take k = L := List.take_of_length_le (by have := HL.out; omega)
      rw [hkN] at hown HM
      go_wp2_with fail
      go_ret
      exact ⟨A1, m, c1, rfl, HM.out, hown, hb⟩
theorem asc_to {A : Option Addr} {n c : Nat} {L : List Fc} {w : World} (hL : Rd w w.heap.size 14 A n (flat Fc.cells L)) (hl : L.length = n) (hv : ∀ x ∈ L, Vld x) (hn : n ≤ 900) :
    Calls Try.prog 44 #[.slice A n c] w (RetFs w (mrgF L)) := asc_any hL hl hv hn
set_option maxRecDepth 100000 in
set_option maxHeartbeats 4000000 in
/-- Merge(a, nil). -/
theorem tmerge_any {A : Option Addr} {n c : Nat} {L : List Fc} {w : World} (hL : Rd w w.heap.size 14 A n (flat Fc.cells L)) (hl : L.length = n) (hv : ∀ x ∈ L, Vld x) (hn : n ≤ 900) :
    Calls Try.prog 27 #[.slice A n c, .slice none 0 0] w (RetFs w (mrgF L)) := by
  have HL := Lib.hid hl
  have HV := Lib.hid hv
  clear hl hv
  go_enter Try.func27, Try.ntmps27
  go_wp2_with fail
  refine (asc_any hL HL.out HV.out hn).mono ?_
  rintro e w1 hret
  obtain ⟨A1, n1, c1, hl1, rfl, h11, h12, hown1, hb1⟩ := hret.open
  have hz1 := hb1.size
  go_wp2_with fail
  refine (asc_any (L := []) (Rd.zero _ _ _ _) rfl (by intro x hx; cases hx) (by omega)).mono ?_
  rintro e w2 hret2
  obtain ⟨A2, n2, c2, hl2, rfl, h21, h22, hown2, hb2⟩ := hret2.open
  have hz2 := hb2.size
  have hn2 : n2 = 0 := hl2.out.symm
  subst hn2
  have hown12 := own_underF hown1 hb2
  have hb12 := hb1.trans (hb2.mono hz1)
  have hlen : n1 ≤ n := by have h := mrgF_len L n; rw [List.take_of_length_le (by rw [HL.out]; exact Nat.le_refl n), hl1.out] at h; exact h
  have HKV : ∀ y ∈ mrgF L, Vld y := by have h := mrgF_vld HV.out n; rw [List.take_of_length_le (by rw [HL.out]; exact Nat.le_refl n)] at h; exact h
  go_wp2_with fail
  refine (merge_to (Y := []) (mgF_nil2 (mrgF L)) (Rd.ofOwn hown12) (Rd.zero _ _ _ _) hl1.out rfl HKV (by intro x hx; cases hx) h11 h21 h12 h22 (by omega) (by omega)).mono ?_
  rintro e w3 hret3
  obtain ⟨A3, n3, c3, hl3, rfl, h31, h32, hown3, hb3⟩ := hret3.open
  go_wp2_with fail
  go_ret
  exact ⟨A3, n3, c3, rfl, hl3.out, ownsRow_base hown3 hb12.size, hb12.trans (hb3.mono hb12.size)⟩
end Go.Proofs.Ytbogmkhoppffgaa
