/- Due of both, and the reference's Total. -/
import Derived.Test.YtbogmkhoppffgaaScE
namespace Go.Proofs.Ytbogmkhoppffgaa
open Go.RowKit

def pairI (p : Int × Int) : Value := .tuple #[.int .i64 p.1, .int .i64 p.2]
theorem pairI_mk (a b : Int) : pairI (a, b) = .tuple #[.int .i64 a, .int .i64 b] := rfl
theorem dueV_bad {l : List Rw} {s m : Int} (h : vldB l = false ∨ monB m = false) : dueV l s m = (0, 1) := by
  unfold dueV
  rw [if_pos]
  rcases h with h | h <;> simp [h]
theorem dueV_ok {l : List Rw} {s m : Int} (h1 : vldB l = true) (h2 : monB m = true) : dueV l s m = if 1000000000000 < dueL l s m then (0, 2) else (dueL l s m, 0) := by
  unfold dueV
  rw [if_neg]
  simp [h1, h2]
theorem totV_bad {l : List Rw} {s f t : Int} (h : vldB l = false ∨ monB f = false ∨ monB t = false) : totV l s f t = (0, 1) := by
  unfold totV
  rw [if_pos]
  rcases h with h | h | h <;> simp [h]
theorem totV_ok {l : List Rw} {s f t : Int} (h1 : vldB l = true) (h2 : monB f = true) (h3 : monB t = true) : totV l s f t = if 1000000000000 < sumD l s f (t + 1 - f).toNat then (0, 2) else (sumD l s f (t + 1 - f).toNat, 0) := by
  unfold totV
  rw [if_neg]
  simp [h1, h2, h3]

set_option maxHeartbeats 2000000 in
theorem duetop_any {A : Option Addr} {n c : Nat} {l : List Rw} {w : World} (s m : Int) (h : Dr w A n l) (hn : n ≤ maxLen) :
    Calls Try.prog 22 #[.slice A n c, .int .i64 s, .int .i64 m] w fun e w' => e = .returned (pairI (dueV l s m)) ∧ Below w.heap.size w w' := by
  cases hv : vldB l with
  | false =>
    rw [dueV_bad (.inl hv)]
    go_enter Try.func22, Try.ntmps22
    go_wp2_with fail
    refine (valid_any h hn).mono ?_
    rintro e w1 ⟨rfl, hb1⟩
    rw [hv]
    go_wp2_with fail
    go_ret2
    exact ⟨rfl, hb1⟩
  | true =>
    cases hm : monB m with
    | false =>
      rw [dueV_bad (.inr hm)]
      go_enter Try.func22, Try.ntmps22
      go_wp2_with fail
      refine (valid_any h hn).mono ?_
      rintro e w1 ⟨rfl, hb1⟩
      rw [hv]
      go_wp2_with (go_at_call 35; refine (ismon_any m _).mono ?_; rintro e w' ⟨rfl, rfl⟩)
      go_ret2
      exact ⟨rfl, hb1⟩
    | true =>
      have ha := vldB_amts hv
      have hbd := dueL_bd ha (by omega) s m
      have HA := Lib.hid ha
      rw [dueV_ok hv hm]
      clear ha
      obtain ⟨d, hd⟩ : ∃ d, dueL l s m = d := ⟨_, rfl⟩
      rw [hd] at hbd ⊢
      have HD := Lib.hid hd
      clear hd
      by_cases hr : 1000000000000 < d
      all_goals
        first | rw [if_pos hr] | rw [if_neg hr]
        go_enter Try.func22, Try.ntmps22
        go_wp2_with fail
        refine (valid_any h hn).mono ?_
        rintro e w1 ⟨rfl, hb1⟩
        rw [hv]
        go_wp2_with (go_at_call 35; refine (ismon_any m _).mono ?_; rintro e w' ⟨rfl, rfl⟩)
        refine (due_any s m (h.below hb1) hn HA.out).mono ?_
        rintro e w2 ⟨rfl, hb2⟩
        rw [HD.out]
        go_wp2_with fail
        go_ret2
        exact ⟨rfl, hb1.trans (hb2.mono hb1.size)⟩

end Go.Proofs.Ytbogmkhoppffgaa
