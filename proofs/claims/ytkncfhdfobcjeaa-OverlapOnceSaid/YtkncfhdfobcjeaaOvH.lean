/- The reference: does a state cover a day with a rank; the last day before, the first behind; which of two states is closer. -/
import Derived.Test.YtkncfhdfobcjeaaOvD
namespace Go.Proofs.Ytkncfhdfobcjeaa
open Go.RowKit

theorem dd_nil (s r d : Int) : Dd [] s r d = false := by simp [Dd, ofL, dset, cov]
theorem take_snoc {C : List Pr} {k : Nat} {x : Pr} (hx : C[k]? = some x) : C.take (k + 1) = C.take k ++ [x] := by rw [List.take_add_one, hx]; rfl
theorem cover_hit {C : List Pr} {k : Nat} {x : Pr} (hx : C[k]? = some x) {s r d : Int} (hd : 0 ≤ d ∧ d < 73049) (h1 : x.s = s) (h2 : x.r = r) (h3 : x.f ≤ d) (h4 : d < x.t) : Dd C s r d = true :=
  (dd_iff C s r d).2 ⟨hd, x, List.mem_of_getElem? hx, h1, .inr h2, h3, h4⟩
theorem cover_miss {C : List Pr} {k : Nat} {x : Pr} (hx : C[k]? = some x) {s r d : Int} (hr : ¬ r = 0) (hdd : Dd (C.take k) s r d = false) (h : ¬ (x.s = s ∧ x.r = r ∧ x.f ≤ d ∧ d < x.t)) : Dd (C.take (k + 1)) s r d = false := by
  rw [take_snoc hx]
  cases e : Dd (C.take k ++ [x]) s r d with
  | false => rfl
  | true =>
    rcases (dd_snoc _ _ _ _ _).1 e with h1 | ⟨_, h2, h3, h4, h5⟩
    · rw [hdd] at h1; cases h1
    · rcases h3 with h3 | h3
      · exact absurd h3 hr
      · exact absurd ⟨h2, h3, h4, h5⟩ h
theorem befR_take {C : List Pr} {k : Nat} {x : Pr} (hx : C[k]? = some x) (s d : Int) : befR (C.take (k + 1)) s d = befS s d (befR (C.take k) s d) x := by rw [take_snoc hx, befR_snoc]
theorem aftR_take {C : List Pr} {k : Nat} {x : Pr} (hx : C[k]? = some x) (s d : Int) : aftR (C.take (k + 1)) s d = aftS s d (aftR (C.take k) s d) x := by rw [take_snoc hx, aftR_snoc]

set_option maxRecDepth 100000 in
set_option maxHeartbeats 4000000 in
theorem cover_any {A : Option Addr} {n c : Nat} {C : List Pr} {w : World} (s r d : Int) (hr0 : ¬ r = 0) (hd : isD d = true) (h : Rd w w.heap.size 4 A n (flat Pr.cells C)) (hn : C.length = n) (hn2 : n ≤ 5000) :
    Calls Try.prog 58 #[.slice A n c, .int .i64 s, .int .i64 r, .int .i64 d] w fun e w' => e = .returned (.bool (Dd C s r d)) ∧ w = w' := by
  have HN := Lib.hid hn
  have HR := Lib.hid hr0
  have HD := Lib.hid ((isD_iff d).1 hd)
  clear hn hr0 hd
  go_enter Try.func58, Try.ntmps58
  go_wp2_with fail
  go_loop [9] (fun i => ∃ k : Nat, k ≤ n ∧ i = .int .i64 (k : Int) ∧ Dd (C.take k) s r d = false) (fun i => n - (intOf i).toNat)
  case atStart => exact ⟨0, by omega, rfl, dd_nil s r d⟩
  case round =>
    obtain ⟨k, hk, rfl, hdd⟩ := hrel
    by_cases hlt : k < n
    · have hkl : k < C.length := by rw [HN.out]; exact hlt
      obtain ⟨x, hx⟩ : ∃ x, C[k]? = some x := ⟨_, List.getElem?_eq_getElem hkl⟩
      obtain ⟨_, g, o, rfl, hgb, hc⟩ := h.elem pr_len hx (by omega)
      have e0 : w.cell? ⟨g, o + k * 4, none⟩ = some (.int .i64 x.s) := hc 0 _ rfl
      have e1 : w.cell? ⟨g, o + k * 4 + 1, none⟩ = some (.int .i64 x.r) := hc 1 _ rfl
      have e2 : w.cell? ⟨g, o + k * 4 + 2, none⟩ = some (.int .i64 x.f) := hc 2 _ rfl
      have e3 : w.cell? ⟨g, o + k * 4 + 3, none⟩ = some (.int .i64 x.t) := hc 3 _ rfl
      have HP := Lib.hid (fun h1 h2 h3 h4 => cover_hit hx (s := s) (r := r) HD.out h1 h2 h3 h4)
      have HM := Lib.hid (cover_miss hx HR.out hdd)
      have hlo : (0 : Int) ≤ (k : Int) := by omega
      have hhi : (k : Int) < (n : Int) := by omega
      clear hx hc hdd
      by_cases h1 : x.s = s
      · have bh1 : (x.s == s) = true := beq_iff_eq.2 h1
        by_cases h2 : x.r = r
        · have bh2 : (x.r == r) = true := beq_iff_eq.2 h2
          by_cases h3 : x.f ≤ d
          · skip
            by_cases h4 : d < x.t
            · skip
              go_wp2_with fail
              go_ret
              exact ⟨ret_bool (HP.out h1 h2 h3 h4).symm, rfl⟩
            · skip
              have HS := Lib.hid (HM.out fun e => h4 e.2.2.2)
              go_wp2_with fail
              go_round
              case rel => exact ⟨k + 1, by omega, by go_num, HS.out⟩
              case measure => simp [intOf]; omega
          · skip
            have HS := Lib.hid (HM.out fun e => h3 e.2.2.1)
            go_wp2_with fail
            go_round
            case rel => exact ⟨k + 1, by omega, by go_num, HS.out⟩
            case measure => simp [intOf]; omega
        · have bh2 : (x.r == r) = false := beq_eq_false_iff_ne.2 h2
          have HS := Lib.hid (HM.out fun e => h2 e.2.1)
          go_wp2_with fail
          go_round
          case rel => exact ⟨k + 1, by omega, by go_num, HS.out⟩
          case measure => simp [intOf]; omega
      · have bh1 : (x.s == s) = false := beq_eq_false_iff_ne.2 h1
        have HS := Lib.hid (HM.out fun e => h1 e.1)
        go_wp2_with fail
        go_round
        case rel => exact ⟨k + 1, by omega, by go_num, HS.out⟩
        case measure => simp [intOf]; omega
    · have hkN : C.take k = C := List.take_of_length_le (by have := HN.out; omega)
      rw [hkN] at hdd
      have HS := Lib.hid hdd
      clear hdd hkN
      go_wp2_with fail
      go_ret
      exact ⟨ret_bool HS.out.symm, rfl⟩

set_option maxRecDepth 100000 in
set_option maxHeartbeats 4000000 in
theorem befr_any {A : Option Addr} {n c : Nat} {C : List Pr} {w : World} (s d : Int) (hd0 : 0 ≤ d) (hd1 : d ≤ 73048) (hI : ∀ p ∈ C, I64 p.f ∧ I64 p.t) (h : Rd w w.heap.size 4 A n (flat Pr.cells C)) (hn : C.length = n) (hn2 : n ≤ 5000) :
    Calls Try.prog 77 #[.slice A n c, .int .i64 s, .int .i64 d] w fun e w' => e = .returned (.int .i64 (befR C s d)) ∧ Below w.heap.size w w' := by
  have HN := Lib.hid hn
  have HI := Lib.hid hI
  clear hn hI
  go_enter Try.func77, Try.ntmps77
  go_wp2_with fail
  go_loopw [7, 8] (fun v i wr => ∃ k : Nat, k ≤ n ∧ i = .int .i64 (k : Int) ∧ v = .int .i64 (befR (C.take k) s d) ∧ Below w.heap.size w wr) (fun _ i _ => n - (intOf i).toNat)
  case atStart => exact ⟨0, by omega, rfl, rfl, Below.refl _ _⟩
  case round =>
    obtain ⟨k, hk, rfl, rfl, hb⟩ := hrel
    have hwsz := hb.size
    by_cases hlt : k < n
    · have hkl : k < C.length := by rw [HN.out]; exact hlt
      obtain ⟨x, hx⟩ : ∃ x, C[k]? = some x := ⟨_, List.getElem?_eq_getElem hkl⟩
      obtain ⟨_, g, o, rfl, hgb, hc⟩ := (h.below hb).elem pr_len hx (by omega)
      have e0 : wr.cell? ⟨g, o + k * 4, none⟩ = some (.int .i64 x.s) := hc 0 _ rfl
      have e1 : wr.cell? ⟨g, o + k * 4 + 1, none⟩ = some (.int .i64 x.r) := hc 1 _ rfl
      have e2 : wr.cell? ⟨g, o + k * 4 + 2, none⟩ = some (.int .i64 x.f) := hc 2 _ rfl
      have e3 : wr.cell? ⟨g, o + k * 4 + 3, none⟩ = some (.int .i64 x.t) := hc 3 _ rfl
      have HX := Lib.hid (HI.out x (List.mem_of_getElem? hx))
      have HM := Lib.hid (befR_take hx s d)
      have hlo : (0 : Int) ≤ (k : Int) := by omega
      have hhi : (k : Int) < (n : Int) := by omega
      clear hx hc
      generalize befR (C.take k) s d = b at *
      go_upto_region 6 with (fail)
      have hrow := heap_alloc_new wr (.cells #[.int .i64 x.f, .int .i64 x.t] 48)
      have hbA := (Below.refl wr.heap.size wr).alloc (Nat.le_refl _) (.cells #[.int .i64 x.f, .int .i64 x.t] 48)
      have f0 : (wr.alloc (.cells #[.int .i64 x.f, .int .i64 x.t] 48)).cell? ⟨g, o + k * 4, none⟩ = some (.int .i64 x.s) := (hbA.cell (by show g < _; omega)).trans e0
      have f1 : (wr.alloc (.cells #[.int .i64 x.f, .int .i64 x.t] 48)).cell? ⟨g, o + k * 4 + 1, none⟩ = some (.int .i64 x.r) := (hbA.cell (by show g < _; omega)).trans e1
      obtain ⟨W, hW⟩ : ∃ W, W = wr.alloc (.cells #[.int .i64 x.f, .int .i64 x.t] 48) := ⟨_, rfl⟩
      rw [← hW] at hrow hbA f0 f1 ⊢
      clear hW e0 e1 e2 e3
      have hbw := hb.trans (hbA.mono hwsz)
      have e2 : W.cell? ⟨wr.heap.size, 0, none⟩ = some (.int .i64 x.f) := by rw [cell_of_row W _ 0 _ _ _ hrow]; rfl
      have e3 : W.cell? ⟨wr.heap.size, 1, none⟩ = some (.int .i64 x.t) := by rw [cell_of_row W _ 1 _ _ _ hrow]; rfl
      clear hrow hbA hb
      by_cases h1 : x.s = s
      · have bh1 : (x.s == s) = true := beq_iff_eq.2 h1
        by_cases h2 : x.r = 1
        · have bh2 : (x.r == 1) = true := beq_iff_eq.2 h2
          by_cases h3 : x.f < x.t
          · skip
            by_cases h4 : x.f < d
            · skip
              by_cases h5 : 0 < x.t
              · skip
                have HS : Hid (befR (C.take (k + 1)) s d = max b (min x.t d - 1)) := by have := HM.out; unfold befS at this; rw [if_pos ⟨h1, h2, h3, h4, h5⟩] at this; exact this
                have hw : IntKind.i64.wrap (min x.t d - 1) = min x.t d - 1 := IntWalk.i64_in _ (by omega)
                clear HM
                go_wp2_with fail
                go_roundw
                case rel => exact ⟨k + 1, by omega, by go_num, by rw [HS.out], hbw⟩
                case measure => simp [intOf]; omega
              · skip
                have HS : Hid (befR (C.take (k + 1)) s d = b) := by have := HM.out; unfold befS at this; rw [if_neg fun e => h5 e.2.2.2.2] at this; exact this
                clear HM
                go_wp2_with fail
                go_roundw
                case rel => exact ⟨k + 1, by omega, by go_num, by rw [HS.out], hbw⟩
                case measure => simp [intOf]; omega
            · skip
              have HS : Hid (befR (C.take (k + 1)) s d = b) := by have := HM.out; unfold befS at this; rw [if_neg fun e => h4 e.2.2.2.1] at this; exact this
              clear HM
              go_wp2_with fail
              go_roundw
              case rel => exact ⟨k + 1, by omega, by go_num, by rw [HS.out], hbw⟩
              case measure => simp [intOf]; omega
          · skip
            have HS : Hid (befR (C.take (k + 1)) s d = b) := by have := HM.out; unfold befS at this; rw [if_neg fun e => h3 e.2.2.1] at this; exact this
            clear HM
            go_wp2_with fail
            go_roundw
            case rel => exact ⟨k + 1, by omega, by go_num, by rw [HS.out], hbw⟩
            case measure => simp [intOf]; omega
        · have bh2 : (x.r == 1) = false := beq_eq_false_iff_ne.2 h2
          have HS : Hid (befR (C.take (k + 1)) s d = b) := by have := HM.out; unfold befS at this; rw [if_neg fun e => h2 e.2.1] at this; exact this
          clear HM
          go_wp2_with fail
          go_roundw
          case rel => exact ⟨k + 1, by omega, by go_num, by rw [HS.out], hbw⟩
          case measure => simp [intOf]; omega
      · have bh1 : (x.s == s) = false := beq_eq_false_iff_ne.2 h1
        have HS : Hid (befR (C.take (k + 1)) s d = b) := by have := HM.out; unfold befS at this; rw [if_neg fun e => h1 e.1] at this; exact this
        clear HM
        go_wp2_with fail
        go_roundw
        case rel => exact ⟨k + 1, by omega, by go_num, by rw [HS.out], hbw⟩
        case measure => simp [intOf]; omega
    · have hkN : C.take k = C := List.take_of_length_le (by have := HN.out; omega)
      rw [hkN]
      clear hkN
      go_wp2_with fail
      go_ret
      exact ⟨rfl, hb⟩

set_option maxRecDepth 100000 in
set_option maxHeartbeats 4000000 in
theorem aftr_any {A : Option Addr} {n c : Nat} {C : List Pr} {w : World} (s d : Int) (hd0 : 0 ≤ d) (hd1 : d ≤ 73048) (hI : ∀ p ∈ C, I64 p.f ∧ I64 p.t) (h : Rd w w.heap.size 4 A n (flat Pr.cells C)) (hn : C.length = n) (hn2 : n ≤ 5000) :
    Calls Try.prog 78 #[.slice A n c, .int .i64 s, .int .i64 d] w fun e w' => e = .returned (.int .i64 (aftR C s d)) ∧ Below w.heap.size w w' := by
  have HN := Lib.hid hn
  have HI := Lib.hid hI
  clear hn hI
  go_enter Try.func78, Try.ntmps78
  go_wp2_with fail
  go_loopw [7, 8] (fun v i wr => ∃ k : Nat, k ≤ n ∧ i = .int .i64 (k : Int) ∧ v = .int .i64 (aftR (C.take k) s d) ∧ Below w.heap.size w wr) (fun _ i _ => n - (intOf i).toNat)
  case atStart => exact ⟨0, by omega, rfl, rfl, Below.refl _ _⟩
  case round =>
    obtain ⟨k, hk, rfl, rfl, hb⟩ := hrel
    have hwsz := hb.size
    by_cases hlt : k < n
    · have hkl : k < C.length := by rw [HN.out]; exact hlt
      obtain ⟨x, hx⟩ : ∃ x, C[k]? = some x := ⟨_, List.getElem?_eq_getElem hkl⟩
      obtain ⟨_, g, o, rfl, hgb, hc⟩ := (h.below hb).elem pr_len hx (by omega)
      have e0 : wr.cell? ⟨g, o + k * 4, none⟩ = some (.int .i64 x.s) := hc 0 _ rfl
      have e1 : wr.cell? ⟨g, o + k * 4 + 1, none⟩ = some (.int .i64 x.r) := hc 1 _ rfl
      have e2 : wr.cell? ⟨g, o + k * 4 + 2, none⟩ = some (.int .i64 x.f) := hc 2 _ rfl
      have e3 : wr.cell? ⟨g, o + k * 4 + 3, none⟩ = some (.int .i64 x.t) := hc 3 _ rfl
      have HX := Lib.hid (HI.out x (List.mem_of_getElem? hx))
      have HM := Lib.hid (aftR_take hx s d)
      have hlo : (0 : Int) ≤ (k : Int) := by omega
      have hhi : (k : Int) < (n : Int) := by omega
      clear hx hc
      generalize aftR (C.take k) s d = b at *
      go_upto_region 6 with (fail)
      have hrow := heap_alloc_new wr (.cells #[.int .i64 x.f, .int .i64 x.t] 48)
      have hbA := (Below.refl wr.heap.size wr).alloc (Nat.le_refl _) (.cells #[.int .i64 x.f, .int .i64 x.t] 48)
      have f0 : (wr.alloc (.cells #[.int .i64 x.f, .int .i64 x.t] 48)).cell? ⟨g, o + k * 4, none⟩ = some (.int .i64 x.s) := (hbA.cell (by show g < _; omega)).trans e0
      have f1 : (wr.alloc (.cells #[.int .i64 x.f, .int .i64 x.t] 48)).cell? ⟨g, o + k * 4 + 1, none⟩ = some (.int .i64 x.r) := (hbA.cell (by show g < _; omega)).trans e1
      obtain ⟨W, hW⟩ : ∃ W, W = wr.alloc (.cells #[.int .i64 x.f, .int .i64 x.t] 48) := ⟨_, rfl⟩
      rw [← hW] at hrow hbA f0 f1 ⊢
      clear hW e0 e1 e2 e3
      have hbw := hb.trans (hbA.mono hwsz)
      have e2 : W.cell? ⟨wr.heap.size, 0, none⟩ = some (.int .i64 x.f) := by rw [cell_of_row W _ 0 _ _ _ hrow]; rfl
      have e3 : W.cell? ⟨wr.heap.size, 1, none⟩ = some (.int .i64 x.t) := by rw [cell_of_row W _ 1 _ _ _ hrow]; rfl
      clear hrow hbA hb
      by_cases h1 : x.s = s
      · have bh1 : (x.s == s) = true := beq_iff_eq.2 h1
        by_cases h2 : x.r = 1
        · have bh2 : (x.r == 1) = true := beq_iff_eq.2 h2
          by_cases h3 : x.f < x.t
          · skip
            by_cases h4 : d < x.t - 1
            · skip
              by_cases h5 : x.f ≤ 73048
              · skip
                have HS : Hid (aftR (C.take (k + 1)) s d = min b (max x.f (d + 1))) := by have := HM.out; unfold aftS at this; rw [if_pos ⟨h1, h2, h3, h4, h5⟩] at this; exact this
                obtain ⟨⟨i1, i2⟩, i3, i4⟩ := HX.out
                have hw : IntKind.i64.wrap (x.t - 1) = x.t - 1 := IntWalk.i64_in _ (by omega)
                have hw2 : IntKind.i64.wrap (d + 1) = d + 1 := IntWalk.i64_in _ (by omega)
                clear HM
                go_wp2_with fail
                go_roundw
                case rel => exact ⟨k + 1, by omega, by go_num, by rw [HS.out], hbw⟩
                case measure => simp [intOf]; omega
              · skip
                have HS : Hid (aftR (C.take (k + 1)) s d = b) := by have := HM.out; unfold aftS at this; rw [if_neg fun e => h5 e.2.2.2.2] at this; exact this
                clear HM
                obtain ⟨⟨i1, i2⟩, i3, i4⟩ := HX.out
                have hw : IntKind.i64.wrap (x.t - 1) = x.t - 1 := IntWalk.i64_in _ (by omega)
                go_wp2_with fail
                go_roundw
                case rel => exact ⟨k + 1, by omega, by go_num, by rw [HS.out], hbw⟩
                case measure => simp [intOf]; omega
            · skip
              have HS : Hid (aftR (C.take (k + 1)) s d = b) := by have := HM.out; unfold aftS at this; rw [if_neg fun e => h4 e.2.2.2.1] at this; exact this
              clear HM
              obtain ⟨⟨i1, i2⟩, i3, i4⟩ := HX.out
              have hw : IntKind.i64.wrap (x.t - 1) = x.t - 1 := IntWalk.i64_in _ (by omega)
              go_wp2_with fail
              go_roundw
              case rel => exact ⟨k + 1, by omega, by go_num, by rw [HS.out], hbw⟩
              case measure => simp [intOf]; omega
          · skip
            have HS : Hid (aftR (C.take (k + 1)) s d = b) := by have := HM.out; unfold aftS at this; rw [if_neg fun e => h3 e.2.2.1] at this; exact this
            clear HM
            go_wp2_with fail
            go_roundw
            case rel => exact ⟨k + 1, by omega, by go_num, by rw [HS.out], hbw⟩
            case measure => simp [intOf]; omega
        · have bh2 : (x.r == 1) = false := beq_eq_false_iff_ne.2 h2
          have HS : Hid (aftR (C.take (k + 1)) s d = b) := by have := HM.out; unfold aftS at this; rw [if_neg fun e => h2 e.2.1] at this; exact this
          clear HM
          go_wp2_with fail
          go_roundw
          case rel => exact ⟨k + 1, by omega, by go_num, by rw [HS.out], hbw⟩
          case measure => simp [intOf]; omega
      · have bh1 : (x.s == s) = false := beq_eq_false_iff_ne.2 h1
        have HS : Hid (aftR (C.take (k + 1)) s d = b) := by have := HM.out; unfold aftS at this; rw [if_neg fun e => h1 e.1] at this; exact this
        clear HM
        go_wp2_with fail
        go_roundw
        case rel => exact ⟨k + 1, by omega, by go_num, by rw [HS.out], hbw⟩
        case measure => simp [intOf]; omega
    · have hkN : C.take k = C := List.take_of_length_le (by have := HN.out; omega)
      rw [hkN]
      clear hkN
      go_wp2_with fail
      go_ret
      exact ⟨rfl, hb⟩


set_option maxHeartbeats 4000000 in
theorem closer_any {A : Option Addr} {n c : Nat} {C : List Pr} {w : World} (s b d : Int) (hd0 : 0 ≤ d) (hd1 : d ≤ 73048) (hI : ∀ p ∈ C, I64 p.f ∧ I64 p.t) (h : Rd w w.heap.size 4 A n (flat Pr.cells C)) (hn : C.length = n) (hn2 : n ≤ 5000) :
    Calls Try.prog 59 #[.slice A n c, .int .i64 s, .int .i64 b, .int .i64 d] w fun e w' => e = .returned (.bool (closerB (fun s => prevD (Dd C s 1) d) (fun s => follD (Dd C s 1) d) s b)) ∧ Below w.heap.size w w' := by
  have HCL : Hid (closerB (fun s => prevD (Dd C s 1) d) (fun s => follD (Dd C s 1) d) s b = if 0 ≤ befR C s d ∨ 0 ≤ befR C b d then decide (befR C b d < befR C s d) else decide (aftR C s d < aftR C b d)) := by
    rw [befR_eq C s hd0 (by omega), befR_eq C b hd0 (by omega), aftR_eq C s (by omega), aftR_eq C b (by omega)]; rfl
  go_enter Try.func59, Try.ntmps59
  go_wp2_with fail
  refine (befr_any s d hd0 hd1 hI h hn hn2).mono ?_
  rintro e w1 ⟨rfl, hb1⟩
  go_wp2_with fail
  refine (befr_any b d hd0 hd1 hI ((h.below hb1).mono hb1.size) hn hn2).mono ?_
  rintro e w2 ⟨rfl, hb2⟩
  have hb := hb1.trans (hb2.mono hb1.size)
  generalize befR C s d = p at *
  generalize befR C b d = q at *
  by_cases h1 : 0 ≤ p
  · have HS := Lib.hid (HCL.out.trans (if_pos (.inl h1)))
    go_wp2_with fail
    go_ret
    exact ⟨ret_bool HS.out.symm, hb⟩
  · by_cases h2 : 0 ≤ q
    · have HS := Lib.hid (HCL.out.trans (if_pos (.inr h2)))
      go_wp2_with fail
      go_ret
      exact ⟨ret_bool HS.out.symm, hb⟩
    · have HS := Lib.hid (HCL.out.trans (if_neg (by omega)))
      go_wp2_with fail
      refine (aftr_any s d hd0 hd1 hI ((h.below hb).mono hb.size) hn hn2).mono ?_
      rintro e w3 ⟨rfl, hb3⟩
      have hb' := hb.trans (hb3.mono hb.size)
      go_wp2_with fail
      refine (aftr_any b d hd0 hd1 hI ((h.below hb').mono hb'.size) hn hn2).mono ?_
      rintro e w4 ⟨rfl, hb4⟩
      go_wp2_with fail
      go_ret
      exact ⟨ret_bool HS.out.symm, hb'.trans (hb4.mono hb'.size)⟩
end Go.Proofs.Ytkncfhdfobcjeaa
