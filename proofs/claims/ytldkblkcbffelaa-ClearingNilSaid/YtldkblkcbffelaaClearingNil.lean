/- The walk of ClearingNil. -/
import Derived.Test.YtldkblkcbffelaaLawA
import Derived.Test.YtldkblkcbffelaaForkA
namespace Go.Proofs.Ytldkblkcbffelaa
open Go.RowKit

theorem pay_nil (A : Option Addr) (n c : Nat) (w : World) :
    Calls Try.prog 26 #[.pointer none, .slice A n c] w fun e w' => e = .returned (.int .i64 1) ∧ w = w' := by
  go_enter Try.func26, Try.ntmps26
  go_wp2_with fail
  go_ret
  exact ⟨rfl, rfl⟩

set_option maxHeartbeats 4000000 in
theorem walkClearingNil (A : Option Addr) (n c : Nat) (l : List Rw) (s t u : Int) (w : World) (h : Rd w w.heap.size 4 A n (flat Rw.cells l)) (hok : ∀ r ∈ l, r.ok) (hn : n = l.length) (hn2 : n ≤ maxLen) (_ : I64 s) (_ : I64 t) (_ : I64 u) :
    Calls Try.prog 12 #[.slice A n c, .int .i64 s, .int .i64 t, .int .i64 u] w fun e w' => e = .returned (.bool true) ∧ Below w.heap.size w w' := by
  have Hn := Lib.hid hn
  clear hn
  go_enter Try.func12, Try.ntmps12
  go_wp2_with fail
  refine (debts_any A n c l w h hok Hn.out hn2).mono ?_
  rintro e w1 ⟨v, rfl, hown, hb1⟩
  have hlen : (debtsOf l).length ≤ 20 := by simp [debtsOf, List.length_take]; omega
  generalize debtsOf l = D at *
  obtain ⟨A1, c1, rfl, hnc1, hcm1, hA1⟩ := own_form hown
  generalize hN : D.length = N at *
  have HN := Lib.hid hN
  clear hN
  go_wp2_with fail
  go_loopw [11] (fun i wr => ∃ k : Nat, k ≤ N ∧ i = .int .i64 (k : Int) ∧ wr.ownsRow w.heap.size 37 4 (.slice A1 N c1) N (flat Dt.cells D) ∧ Below w.heap.size w wr) (fun i _ => N - (intOf i).toNat)
  case atStart => exact ⟨0, by omega, rfl, hown, hb1⟩
  case round =>
    clear hown hb1
    obtain ⟨k, hk, rfl, hown, hb⟩ := hrel
    by_cases hlt : k < N
    · have hkl : k < D.length := by rw [HN.out]; exact hlt
      obtain ⟨x, hx⟩ : ∃ x, D[k]? = some x := ⟨_, List.getElem?_eq_getElem hkl⟩
      obtain ⟨g, rfl, _⟩ := hA1 (by omega)
      obtain ⟨e0, e1, e2, e3⟩ := own_cells (ownsRow_base hown (Nat.zero_le _)) hx
      have hlo : (0 : Int) ≤ (k : Int) := by omega
      have hhi : (k : Int) < (N : Int) := by omega
      have hwsz := hb.size
      clear hx
      go_wp2_with fail
      refine (post_nil x.d x.c x.u x.a _).mono ?_
      rintro e w2 ⟨rfl, hb2⟩
      have hown2 := hown.kept (grownBy_of_below hb2 none) (Classical.em _)
      have hbb2 := hb.trans (hb2.mono hwsz)
      go_wp2_with fail
      go_roundw
      case rel => exact ⟨k + 1, by omega, by go_num, hown2, hbb2⟩
      case measure => simp [intOf]; omega
    · go_wp2_with fail
      refine (awake_any _).mono ?_
      rintro e w2 ⟨rfl, hb2⟩
      have hbb2 := hb.trans (hb2.mono hb.size)
      go_wp2_with fail
      refine (pay_nil _ _ _ _).mono ?_
      rintro e w' ⟨rfl, rfl⟩
      go_wp2_with fail
      refine (between_nil s t u _).mono ?_
      rintro e w' ⟨rfl, rfl⟩
      go_wp2_with fail
      refine (position_nil s u _).mono ?_
      rintro e w' ⟨rfl, rfl⟩
      go_wp2_with fail
      refine (currencies_nil _).mono ?_
      rintro e w' ⟨rfl, rfl⟩
      go_wp2_with fail
      refine (netting_nil u _).mono ?_
      rintro e w3 ⟨v, rfl, hown3, hb3⟩
      have hbb3 := hbb2.trans (hb3.mono hbb2.size)
      obtain ⟨A3, c3, rfl, _⟩ := own_form hown3
      go_wp2_with fail
      refine (fork_nil _).mono ?_
      rintro e w' ⟨rfl, rfl⟩
      go_wp2_with fail
      go_ret
      exact ⟨rfl, hbb3⟩
end Go.Proofs.Ytldkblkcbffelaa
