/- Amounts and what is due for a month, of the program and of the reference. -/
import Derived.Test.YtbogmkhoppffgaaScA
namespace Go.Proofs.Ytbogmkhoppffgaa
open Go.RowKit

theorem hit_cases (s b m : Int) (x : Rw) :
    ((x.s == s) = true ∧ (x.b == b) = true ∧ decide (x.m ≤ m) = true ∧ hit s b m x) ∨ ((x.s == s) = false ∧ ¬hit s b m x) ∨ ((x.s == s) = true ∧ (x.b == b) = false ∧ ¬hit s b m x) ∨
    ((x.s == s) = true ∧ (x.b == b) = true ∧ decide (x.m ≤ m) = false ∧ ¬hit s b m x) := by
  unfold hit
  by_cases h1 : x.s = s
  · by_cases h2 : x.b = b
    · by_cases h3 : x.m ≤ m
      · exact .inl ⟨beq_iff_eq.2 h1, beq_iff_eq.2 h2, decide_eq_true h3, h1, h2, h3⟩
      · exact .inr (.inr (.inr ⟨beq_iff_eq.2 h1, beq_iff_eq.2 h2, decide_eq_false h3, fun h => h3 h.2.2⟩))
    · exact .inr (.inr (.inl ⟨beq_iff_eq.2 h1, beq_eq_false_iff_ne.2 h2, fun h => h2 h.2.1⟩))
  · exact .inr (.inl ⟨beq_eq_false_iff_ne.2 h1, fun h => h1 h.1⟩)

set_option maxHeartbeats 2000000 in
theorem amount_any {A : Option Addr} {n c : Nat} {l : List Rw} {w : World} (s b m : Int) (h : Dr w A n l) (hn : n ≤ maxLen) :
    Calls Try.prog 24 #[.slice A n c, .int .i64 s, .int .i64 b, .int .i64 m] w fun e w' => e = .returned (.int .i64 (amt l s b m)) ∧ Below w.heap.size w w' := by
  unfold maxLen at hn
  have HN := Lib.hid h.2
  have hrd := h.1
  clear h
  go_enter Try.func24, Try.ntmps24
  go_wp2_with fail
  go_loopw [9, 14] (fun v i wr => ∃ (k : Nat) (r : Int), k ≤ n ∧ i = .int .i64 (k : Int) ∧ v = .int .i64 r ∧ amtF s b m r (l.drop k) = amt l s b m ∧ Below w.heap.size w wr) (fun _ i _ => n - (intOf i).toNat)
  case atStart => exact ⟨0, 0, by omega, rfl, rfl, rfl, Below.refl _ _⟩
  case round =>
    obtain ⟨k, r, hk, rfl, rfl, hd, hb⟩ := hrel
    have hwsz := hb.size
    by_cases hlt : k < n
    · have hkl : k < l.length := by rw [HN.out]; exact hlt
      obtain ⟨x, hx⟩ : ∃ x, l[k]? = some x := ⟨_, List.getElem?_eq_getElem hkl⟩
      obtain ⟨_, g, o, rfl, hgb, e0, e1, e2, e3, e4, e5⟩ := rw_cells (hrd.below hb) hx
      have hlo : (0 : Int) ≤ (k : Int) := by omega
      have hhi : (k : Int) < (n : Int) := by omega
      rw [drop_getR hx, amtF] at hd
      clear hx
      rcases hit_cases s b m x with ⟨t1, t2, t3, hh⟩ | ⟨t1, hh⟩ | ⟨t1, t2, hh⟩ | ⟨t1, t2, t3, hh⟩
      · rw [if_pos hh] at hd
        have HD := Lib.hid hd
        clear hd hh
        go_wp2_with fail
        go_roundw
        case rel => exact ⟨k + 1, x.a, by omega, by go_num, rfl, HD.out, hb.alloc hwsz _⟩
        case measure => simp [intOf]; omega
      all_goals
        rw [if_neg hh] at hd
        have HD := Lib.hid hd
        clear hd hh
        go_wp2_with fail
        go_roundw
        case rel => exact ⟨k + 1, r, by omega, by go_num, rfl, HD.out, hb.alloc hwsz _⟩
        case measure => simp [intOf]; omega
    · rw [List.drop_eq_nil_of_le (by have := HN.out; omega)] at hd
      have HD : Hid (r = amt l s b m) := hd
      clear hd
      go_wp2_with fail
      go_ret
      exact ⟨ret_int HD.out, hb⟩

set_option maxHeartbeats 2000000 in
theorem due_any {A : Option Addr} {n c : Nat} {l : List Rw} {w : World} (s m : Int) (h : Dr w A n l) (hn : n ≤ maxLen) (ha : AmtsIn l 1000000000000) :
    Calls Try.prog 37 #[.slice A n c, .int .i64 s, .int .i64 m] w fun e w' => e = .returned (.int .i64 (dueL l s m)) ∧ Below w.heap.size w w' := by
  have HA := Lib.hid ha
  clear ha
  go_enter Try.func37, Try.ntmps37
  go_wp2_with fail
  go_loopw [7, 8] (fun v i wr => ∃ k : Nat, k ≤ 5 ∧ i = .int .i64 ((k : Int) + 1) ∧ v = .int .i64 (dueT l s m k) ∧ Below w.heap.size w wr) (fun _ i _ => 6 - (intOf i).toNat)
  case atStart => exact ⟨0, by omega, rfl, rfl, Below.refl _ _⟩
  case round =>
    obtain ⟨k, hk, rfl, rfl, hb⟩ := hrel
    have hx := h.below hb
    have hd := dueT_bd HA.out (by omega) s m k
    have ham := amt_bd HA.out (by omega) s ((k : Int) + 1) m
    have hst : dueT l s m (k + 1) = dueT l s m k + amt l s ((k : Int) + 1) m := rfl
    have HST := Lib.hid hst
    clear hst
    by_cases hlt : k < 5
    · have hlt2 : (k : Int) + 1 ≤ 5 := by omega
      generalize hD : dueT l s m k = D at *
      generalize hM : amt l s ((k : Int) + 1) m = M at *
      have HM := Lib.hid hM
      clear hD hM
      go_wp2_with fail
      refine (amount_any s ((k : Int) + 1) m hx hn).mono ?_
      rintro e w2 ⟨rfl, hb2⟩
      rw [HM.out]
      have hb3 := hb.trans (hb2.mono hb.size)
      clear hb hb2
      go_wp2_with fail
      go_roundw
      case rel => exact ⟨k + 1, by omega, by go_num, by rw [HST.out], hb3⟩
      case measure => simp [intOf]; omega
    · obtain rfl : k = 5 := by omega
      go_wp2_with fail
      go_ret
      exact ⟨rfl, hb⟩

end Go.Proofs.Ytbogmkhoppffgaa
