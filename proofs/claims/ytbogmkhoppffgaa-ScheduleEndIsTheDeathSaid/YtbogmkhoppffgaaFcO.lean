/- Facts of a person, current facts, the first day of current facts of a kind: the reference. -/
import Derived.Test.YtbogmkhoppffgaaFcN
namespace Go.Proofs.Ytbogmkhoppffgaa
open Go.RowKit

def curP (L : List Fc) : List Fc := L.filter fun x => !x.g
theorem curP_take {L : List Fc} {k : Nat} {x : Fc} (h : L[k]? = some x) : curP (L.take (k + 1)) = curP (L.take k) ++ if (!x.g) = true then [x] else [] := by
  rw [List.take_add_one, h, Option.toList_some]
  unfold curP
  rw [List.filter_append, List.filter_cons, List.filter_nil]
theorem curP_len (L : List Fc) (k : Nat) : (curP (L.take k)).length ≤ k := by
  unfold curP
  have h1 := List.length_filter_le (fun x : Fc => !x.g) (L.take k)
  rw [List.length_take] at h1
  omega

set_option maxRecDepth 100000 in
set_option maxHeartbeats 4000000 in
theorem rof_any {A : Option Addr} {n c : Nat} {L : List Fc} {w : World} (p : Int) (hL : Rd w w.heap.size 14 A n (flat Fc.cells L)) (hl : L.length = n) (hn : n ≤ 900) :
    Calls Try.prog 8 #[.slice A n c, .int .i64 p] w (RetFs w (ofP p L)) := by
  obtain ⟨i0, hi0, hz0, hz1, hz2⟩ := info_parts info_fact
  have HL := Lib.hid hl
  clear hl
  go_enter Try.func8, Try.ntmps8
  go_wp2_with fail
  go_loopw [5, 6] (fun v i wr => ∃ (k m c1 : Nat) (A1 : Option Addr), k ≤ n ∧ i = .int .i64 (k : Int) ∧ v = .slice A1 m c1 ∧ (ofP p (L.take k)).length = m ∧ wr.ownsRow w.heap.size 40 14 (.slice A1 m c1) m (flat Fc.cells (ofP p (L.take k))) ∧ Below w.heap.size w wr) (fun _ i _ => n - (intOf i).toNat)
  case atStart => exact ⟨0, 0, 0, none, by omega, rfl, rfl, rfl, World.ownsRow_nil _ _ _ _, Below.refl _ _⟩
  case round =>
    obtain ⟨k, m, c1, A1, hk, rfl, rfl, hm, hown, hb⟩ := hrel
    have hwsz := hb.size
    have hml := ofP_len p L k
    rw [hm] at hml
    obtain ⟨_, _, e0, hnc1, hcm1, _⟩ := own_form hown
    injection e0 with ea _ e1
    subst ea e1
    have HM := Lib.hid hm
    have HCM := Lib.hid hcm1
    clear hm hcm1
    by_cases hlt : k < n
    · have hkl : k < L.length := by rw [HL.out]; exact hlt
      obtain ⟨x, hx⟩ : ∃ x, L[k]? = some x := ⟨_, List.getElem?_eq_getElem hkl⟩
      have HST := Lib.hid (ofP_take (p := p) hx)
      obtain ⟨_, g, o2, rfl, hgb, f0⟩ := fc_cells (hL.below hb) hx
      obtain ⟨p0, p1, p2, p3, p4, p5, p6, p7, p8, p9, p10, p11, p12, p13⟩ := f0
      have hlo : (0 : Int) ≤ (k : Int) := by omega
      have hhi : (k : Int) < (n : Int) := by omega
      clear hx hkl
      obtain ⟨O, hO⟩ : ∃ O, O = ofP p (L.take k) := ⟨_, rfl⟩
      rw [← hO] at hown HM HST
      clear hO
      cases hc : (x.p == p) with
      | true =>
        have HS2 : Hid (ofP p (L.take (k + 1)) = O ++ [x]) := Lib.hid (by have := HST.out; rw [hc] at this; exact this)
        clear HST
        go_wp2_with (at_builtin; go_loud (refine wpList_append_rd (by rfl) (.tmp 20) (.tmp 25) 24 (by rfl) w.heap.size 40 i0 _ 14 112 Try.underlying24 hi0 hz0 hz1 hz2 rfl (by omega) (.slice A1 m c1) m (flat Fc.cells O) (by rfl) (hown.alloc _) (wr.heap.size + 1) (some ⟨wr.heap.size, 0, none⟩) 1 1 x.cells (by rfl) (Rd.built (cs := x.cells.toArray) (heap_alloc_new wr _) (by omega) rfl) (by intro u hu; simp only [Fc.cells, List.mem_cons, List.not_mem_nil, or_false] at hu; rcases hu with rfl | rfl | rfl | rfl | rfl | rfl | rfl | rfl | rfl | rfl | rfl | rfl | rfl | rfl <;> rfl) (by unfold maxLen; omega) (by omega) (by simp; omega) ?_); intro v4 w4 hown4 hg4 hat4)
        have hb4 := (hb.alloc hwsz (.cells x.cells.toArray 40)).grown hg4 (by simp; omega) (fun g e => (hown.lt g e).1)
        obtain ⟨A4, c4, rfl, _, _, _⟩ := own_form hown4
        go_roundw
        case rel => exact ⟨k + 1, m + 1, c4, A4, by omega, by go_num, rfl, by rw [HS2.out, List.length_append, HM.out]; rfl, by rw [HS2.out, flat_append, flat_one]; exact hown4, hb4⟩
        case measure => simp [intOf]; omega
      | false =>
        have HS2 : Hid (ofP p (L.take (k + 1)) = O) := Lib.hid (by have := HST.out; rw [hc] at this; rw [this]; exact List.append_nil _)
        clear HST
        go_wp2_with fail
        go_roundw
        case rel => exact ⟨k + 1, m, c1, A1, by omega, by go_num, rfl, by rw [HS2.out]; exact HM.out, by rw [HS2.out]; exact hown, hb⟩
        case measure => simp [intOf]; omega
    · have hkN : L.take k = L := List.take_of_length_le (by have := HL.out; omega)
      rw [hkN] at hown HM
      go_wp2_with fail
      go_ret
      exact ⟨A1, m, c1, rfl, HM.out, hown, hb⟩

set_option maxRecDepth 100000 in
set_option maxHeartbeats 4000000 in
theorem rcur_any {A : Option Addr} {n c : Nat} {L : List Fc} {w : World} (hL : Rd w w.heap.size 14 A n (flat Fc.cells L)) (hl : L.length = n) (hv : ∀ x ∈ L, Vld x) (hn : n ≤ 900) :
    Calls Try.prog 31 #[.slice A n c] w (RetFs w (curP L)) := by
  obtain ⟨i0, hi0, hz0, hz1, hz2⟩ := info_parts info_fact
  have HL := Lib.hid hl
  clear hl
  go_enter Try.func31, Try.ntmps31
  go_wp2_with fail
  go_loopw [3, 4] (fun v i wr => ∃ (k m c1 : Nat) (A1 : Option Addr), k ≤ n ∧ i = .int .i64 (k : Int) ∧ v = .slice A1 m c1 ∧ (curP (L.take k)).length = m ∧ wr.ownsRow w.heap.size 40 14 (.slice A1 m c1) m (flat Fc.cells (curP (L.take k))) ∧ Below w.heap.size w wr) (fun _ i _ => n - (intOf i).toNat)
  case atStart => exact ⟨0, 0, 0, none, by omega, rfl, rfl, rfl, World.ownsRow_nil _ _ _ _, Below.refl _ _⟩
  case round =>
    obtain ⟨k, m, c1, A1, hk, rfl, rfl, hm, hown, hb⟩ := hrel
    have hwsz := hb.size
    have hml := curP_len L k
    rw [hm] at hml
    obtain ⟨_, _, e0, hnc1, hcm1, _⟩ := own_form hown
    injection e0 with ea _ e1
    subst ea e1
    have HM := Lib.hid hm
    have HCM := Lib.hid hcm1
    clear hm hcm1
    by_cases hlt : k < n
    · have hkl : k < L.length := by rw [HL.out]; exact hlt
      obtain ⟨x, hx⟩ : ∃ x, L[k]? = some x := ⟨_, List.getElem?_eq_getElem hkl⟩
      have HST := Lib.hid (curP_take hx)
      have HVX := Lib.hid (hv x (List.mem_of_getElem? hx))
      obtain ⟨_, g, o2, rfl, hgb, f0⟩ := fc_cells (hL.below hb) hx
      have f0c := f0
      obtain ⟨p0, p1, p2, p3, p4, p5, p6, p7, p8, p9, p10, p11, p12, p13⟩ := f0
      have hlo : (0 : Int) ≤ (k : Int) := by omega
      have hhi : (k : Int) < (n : Int) := by omega
      clear hx hkl
      obtain ⟨O, hO⟩ : ∃ O, O = curP (L.take k) := ⟨_, rfl⟩
      rw [← hO] at hown HM HST
      clear hO
      go_wp2_with fail
      refine (rvalidE HVX.out _).mono ?_
      rintro e w1 ⟨rfl, hb1⟩
      have f1 := f0c.to hb1 (by omega)
      have hown1 := own_underF hown hb1
      have hbw1 := hb.trans (hb1.mono hwsz)
      have hy1 := hbw1.size
      have hy2 := hb1.size
      clear p0 p1 p2 p3 p4 p5 p6 p7 p8 p9 p10 p11 p12 p13 hown hb1 hb
      obtain ⟨t0, t1, t2, t3, t4, t5, t6, t7, t8, t9, t10, t11, t12, t13⟩ := f1
      cases hc : (!x.g) with
      | true =>
        have HS2 : Hid (curP (L.take (k + 1)) = O ++ [x]) := Lib.hid (by have := HST.out; rw [hc] at this; exact this)
        clear HST
        go_wp2_with (at_builtin; go_loud (refine wpList_append_rd (by rfl) (.tmp 24) (.tmp 29) 24 (by rfl) w.heap.size 40 i0 _ 14 112 Try.underlying24 hi0 hz0 hz1 hz2 rfl (by omega) (.slice A1 m c1) m (flat Fc.cells O) (by rfl) (hown1.alloc _) (w1.heap.size + 1) (some ⟨w1.heap.size, 0, none⟩) 1 1 x.cells (by rfl) (Rd.built (cs := x.cells.toArray) (heap_alloc_new w1 _) (by omega) rfl) (by intro u hu; simp only [Fc.cells, List.mem_cons, List.not_mem_nil, or_false] at hu; rcases hu with rfl | rfl | rfl | rfl | rfl | rfl | rfl | rfl | rfl | rfl | rfl | rfl | rfl | rfl <;> rfl) (by unfold maxLen; omega) (by omega) (by simp; omega) ?_); intro v4 w4 hown4 hg4 hat4)
        have hb4 := (hbw1.alloc hy1 (.cells x.cells.toArray 40)).grown hg4 (by simp; omega) (fun g e => (hown1.lt g e).1)
        obtain ⟨A4, c4, rfl, _, _, _⟩ := own_form hown4
        go_roundw
        case rel => exact ⟨k + 1, m + 1, c4, A4, by omega, by go_num, rfl, by rw [HS2.out, List.length_append, HM.out]; rfl, by rw [HS2.out, flat_append, flat_one]; exact hown4, hb4⟩
        case measure => simp [intOf]; omega
      | false =>
        have HS2 : Hid (curP (L.take (k + 1)) = O) := Lib.hid (by have := HST.out; rw [hc] at this; rw [this]; exact List.append_nil _)
        clear HST
        go_wp2_with fail
        go_roundw
        case rel => exact ⟨k + 1, m, c1, A1, by omega, by go_num, rfl, by rw [HS2.out]; exact HM.out, by rw [HS2.out]; exact hown1, hbw1⟩
        case measure => simp [intOf]; omega
    · have hkN : L.take k = L := List.take_of_length_le (by have := HL.out; omega)
      rw [hkN] at hown HM
      go_wp2_with fail
      go_ret
      exact ⟨A1, m, c1, rfl, HM.out, hown, hb⟩

set_option maxRecDepth 100000 in
set_option maxHeartbeats 8000000 in
theorem least_any {A : Option Addr} {n c : Nat} {L : List Fc} {w : World} (kd : Int) (hL : Rd w w.heap.size 14 A n (flat Fc.cells L)) (hl : L.length = n) (hv : ∀ x ∈ L, Vld x) (hn : n ≤ 900) :
    Calls Try.prog 15 #[.slice A n c, .int .i64 kd] w fun e w' => e = .returned (.tuple #[.int .i64 ((firD kd L).getD 0), .bool (firD kd L).isSome]) ∧ Below w.heap.size w w' := by
  have hcur : firD kd (curP L) = firD kd L := firD_cur kd L
  rw [← hcur]
  clear hcur
  have hcl : (curP L).length ≤ n := by have h := curP_len L n; rw [List.take_of_length_le (by omega)] at h; exact h
  have hcg : ∀ x ∈ curP L, x.g = false := by intro x hx; have := (List.mem_filter.1 hx).2; simpa using this
  have HG := Lib.hid hcg
  clear hcg
  obtain ⟨C, hC⟩ : ∃ C, C = curP L := ⟨_, rfl⟩
  rw [← hC] at HG hcl ⊢
  have HC := Lib.hid hC
  clear hC
  go_enter Try.func15, Try.ntmps15
  go_wp2_with fail
  refine (rcur_any hL hl hv hn).mono ?_
  rintro e w1 hret
  rw [← HC.out] at hret
  obtain ⟨A1, n1, c1, hl1, rfl, h11, h12, hown1, hb1⟩ := hret.open
  rw [hl1.out] at hcl
  have hr1 := Rd.ofOwn hown1
  obtain ⟨K1, hK1⟩ : ∃ K1, K1 = w1.heap.size := ⟨_, rfl⟩
  rw [← hK1] at hr1
  clear hK1 hown1
  go_wp2_with fail
  go_loopw [7, 8, 9] (fun v b i wr => ∃ (j : Nat), j ≤ n1 ∧ i = .int .i64 (j : Int) ∧ v = .int .i64 ((firD kd (C.take j)).getD 0) ∧ b = .bool (firD kd (C.take j)).isSome ∧ Rd wr K1 14 A1 n1 (flat Fc.cells C) ∧ Below w.heap.size w wr) (fun _ _ i _ => n1 - (intOf i).toNat)
  case atStart => exact ⟨0, by omega, rfl, rfl, rfl, hr1, hb1⟩
  case round =>
    obtain ⟨j, hk, rfl, rfl, rfl, hr, hb⟩ := hrel
    by_cases hlt : j < n1
    · have hkl : j < C.length := by rw [hl1.out]; exact hlt
      obtain ⟨x, hx⟩ : ∃ x, C[j]? = some x := ⟨_, List.getElem?_eq_getElem hkl⟩
      have hg := HG.out x (List.mem_of_getElem? hx)
      have HGX := Lib.hid hg
      have HST := Lib.hid (firD_take (k := kd) hx)
      obtain ⟨_, g, o2, rfl, hgb, f0⟩ := fc_cells hr hx
      obtain ⟨p0, p1, p2, p3, p4, p5, p6, p7, p8, p9, p10, p11, p12, p13⟩ := f0
      have hlo : (0 : Int) ≤ (j : Int) := by omega
      have hhi : (j : Int) < (n1 : Int) := by omega
      clear hx hkl hg
      obtain ⟨F, hF⟩ : ∃ F, F = firD kd (C.take j) := ⟨_, rfl⟩
      rw [← hF] at HST ⊢
      clear hF
      cases hk2 : (x.k == kd) with
      | false =>
        have HS2 : Hid (firD kd (C.take (j + 1)) = F) := Lib.hid (by rw [HST.out]; simp [stepD, HGX.out, hk2])
        clear HST
        go_wp2_with fail
        go_roundw
        case rel => exact ⟨j + 1, by omega, by go_num, by first | (rw [HS2.out]; done) | (rw [HS2.out]; rfl), by first | (rw [HS2.out]; done) | (rw [HS2.out]; rfl), hr, hb⟩
        case measure => simp [intOf]; omega
      | true =>
        cases F with
        | none =>
          have HS2 : Hid (firD kd (C.take (j + 1)) = some x.f) := Lib.hid (by rw [HST.out]; simp [stepD, HGX.out, hk2])
          clear HST
          go_wp2_with fail
          go_roundw
          case rel => exact ⟨j + 1, by omega, by go_num, by first | (rw [HS2.out]; done) | (rw [HS2.out]; rfl), by first | (rw [HS2.out]; done) | (rw [HS2.out]; rfl), hr, hb⟩
          case measure => simp [intOf]; omega
        | some d =>
          by_cases hlt2 : x.f < d
          · have HS2 : Hid (firD kd (C.take (j + 1)) = some x.f) := Lib.hid (by rw [HST.out]; simp [stepD, HGX.out, hk2, hlt2])
            clear HST
            have hd2 : decide (x.f < d) = true := decide_eq_true hlt2
            go_wp2_with fail
            go_roundw
            case rel => exact ⟨j + 1, by omega, by go_num, by first | (rw [HS2.out]; done) | (rw [HS2.out]; rfl), by first | (rw [HS2.out]; done) | (rw [HS2.out]; rfl), hr, hb⟩
            case measure => simp [intOf]; omega
          · have HS2 : Hid (firD kd (C.take (j + 1)) = some d) := Lib.hid (by rw [HST.out]; simp [stepD, HGX.out, hk2, hlt2])
            clear HST
            have hd2 : decide (x.f < d) = false := decide_eq_false hlt2
            go_wp2_with fail
            go_roundw
            case rel => exact ⟨j + 1, by omega, by go_num, by first | (rw [HS2.out]; done) | (rw [HS2.out]; rfl), by first | (rw [HS2.out]; done) | (rw [HS2.out]; rfl), hr, hb⟩
            case measure => simp [intOf]; omega
    · have hkN : C.take j = C := List.take_of_length_le (by have := hl1.out; omega)
      rw [hkN]
      go_wp2_with fail
      go_ret2
      exact ⟨rfl, hb⟩
set_option maxRecDepth 100000 in
set_option maxHeartbeats 4000000 in
theorem rdeath_any {A : Option Addr} {n c : Nat} {L : List Fc} {w : World} (hL : Rd w w.heap.size 14 A n (flat Fc.cells L)) (hl : L.length = n) (hv : ∀ x ∈ L, Vld x) (hn : n ≤ 900) :
    Calls Try.prog 7 #[.slice A n c] w fun e w' => e = .returned (.tuple #[.int .i64 ((firD 12 L).getD 0), .bool (firD 12 L).isSome]) ∧ Below w.heap.size w w' := by
  go_enter Try.func7, Try.ntmps7
  go_wp2_with fail
  refine (least_any 12 hL hl hv hn).mono ?_
  rintro e w1 ⟨rfl, hb1⟩
  go_wp2_with fail
  go_ret2
  exact ⟨rfl, hb1⟩
end Go.Proofs.Ytbogmkhoppffgaa
