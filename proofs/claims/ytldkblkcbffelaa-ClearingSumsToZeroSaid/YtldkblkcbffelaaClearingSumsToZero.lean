/- The walk of ClearingSumsToZero. -/
import Derived.Test.YtldkblkcbffelaaLawA
namespace Go.Proofs.Ytldkblkcbffelaa
open Go.RowKit

set_option maxHeartbeats 4000000 in
theorem walkClearingSumsToZero (A : Option Addr) (n c : Nat) (l : List Rw) (u : Int) (w : World) (h : Rd w w.heap.size 4 A n (flat Rw.cells l)) (hok : ∀ r ∈ l, r.ok) (hn : n = l.length) (hn2 : n ≤ maxLen) (hu : I64 u) :
    Calls Try.prog 6 #[.slice A n c, .int .i64 u] w fun e w' => e = .returned (.bool true) ∧ Below w.heap.size w w' := by
  have Hn := Lib.hid hn
  clear hn
  obtain ⟨u1, u2⟩ := hu
  have hw1 : IntKind.i64.wrap (1 + u % 3) = 1 + u % 3 := IntWalk.i64_in _ (by omega)
  go_enter Try.func6, Try.ntmps6
  go_wp2_with fail
  refine (ledgers_any A n c l w h hok Hn.out hn2).mono ?_
  rintro e w1 ⟨lb, mb, rb, rfl, hL, hR, hb1, hlb, hmb, hrb⟩
  clear hR
  have hsh := held_len l
  have hwide := wide_held (debtsOf l) [] wide_nil
  generalize heldOf [] (debtsOf l) = L at *
  go_wp2_with fail
  refine (awake_any w1).mono ?_
  rintro e w2 ⟨rfl, hb2⟩
  have hbb2 := hb1.trans (hb2.mono hb1.size)
  have hL2 := hL.below hb2
  have hlb2 := hL2.lt
  have hmb2 := hL2.ltm
  clear hL
  go_wp2_with fail
  refine (mod_any u 3 _ ⟨u1, u2⟩ (by omega) (by omega)).mono ?_
  rintro e w' ⟨rfl, rfl⟩
  generalize hcu : 1 + u % 3 = cu at *
  have hvv := hL2.ok
  go_wp2_with fail
  go_loopw [9, 10] (fun p s wr => ∃ k : Nat, k ≤ 6 ∧ s = .int .i64 (k : Int) ∧ p = .int .i64 (posSum L cu k) ∧ Below w2.heap.size w2 wr) (fun _ s _ => 6 - (intOf s).toNat)
  case atStart => exact ⟨0, by omega, rfl, rfl, Below.refl _ _⟩
  case round =>
    obtain ⟨k, hk, rfl, rfl, hb⟩ := hrel
    have hps := posSum_bd hwide cu k hk
    by_cases hlt : k < 6
    · have hpk : posSum L cu (k + 1) = posSum L cu k + rpos L (k : Nat) cu := rfl
      have hbp := betSum_pos hvv k cu
      have hfit := (fitsB_iff _).1 (hwide k cu hlt)
      have hlr := hL2.belowLe hb hlb2 hmb2
      have HK := Lib.hid hpk
      clear hpk
      generalize posSum L cu k = ps at *
      go_wp2_with fail
      refine (position_of lb mb L k cu _ hlr (by omega) hlt).mono ?_
      rintro e w3 ⟨rfl, hb3⟩
      have hbb3 := hb.trans (hb3.mono hb.size)
      have hlr3 := hlr.below hb3
      have hlb3 := hlr3.lt
      have hmb3 := hlr3.ltm
      clear hlr hb hb3
      generalize hp : rpos L (k : Nat) cu = p at *
      have HP := Lib.hid hp
      clear hp
      go_wp2_with fail
      go_loopw [12, 13] (fun q t wt => ∃ j : Nat, j ≤ 6 ∧ t = .int .i64 (j : Int) ∧ q = .int .i64 (betSum L k cu j) ∧ w3 = wt) (fun _ t _ => 6 - (intOf t).toNat)
      case atStart => exact ⟨0, by omega, rfl, rfl, rfl⟩
      case round =>
        obtain ⟨j, hj, rfl, rfl, rfl⟩ := hrel
        have hbs := betSum_bd hvv hsh k cu j hj
        by_cases hlj : j < 6
        · have hbj : betSum L k cu (j + 1) = betSum L k cu j + rbet L (j : Nat) k cu := rfl
          have hbs2 := betSum_bd hvv hsh k cu (j + 1) (by omega)
          have HB := Lib.hid hbj
          rw [hbj] at hbs2
          clear hbj
          generalize betSum L k cu j = bs at *
          go_wp2_with fail
          refine (between_of lb mb L j k cu _ hlr3 hlj hlt).mono ?_
          rintro e w' ⟨rfl, rfl⟩
          generalize hr : rbet L (j : Nat) k cu = r at *
          have hw4 : IntKind.i64.wrap (bs + r) = bs + r := IntWalk.i64_in _ (by omega)
          go_wp2_with fail
          go_roundw
          case rel => exact ⟨j + 1, by omega, by go_num, by rw [HB.out], trivial⟩
          case measure => simp [intOf]; omega
        · have hj6 : betSum L k cu j = p := by
            have : j = 6 := by omega
            rw [this]
            exact hbp
          rw [hj6]
          clear hj6 hbs
          have hn1 : ¬ p < -1000000000000 := by omega
          have hn2 : ¬ 1000000000000 < p := by omega
          have hw5 : IntKind.i64.wrap (ps + p) = ps + p := IntWalk.i64_in _ (by omega)
          go_wp2_with fail
          go_roundw
          case rel => exact ⟨k + 1, by omega, by go_num, by rw [HK.out], hbb3⟩
          case measure => simp [intOf]; omega
    · have hk6 : posSum L cu k = 0 := by
        have : k = 6 := by omega
        rw [this]
        exact posSum_zero hvv cu
      rw [hk6]
      go_wp2_with fail
      go_ret
      exact ⟨rfl, hbb2.trans (hb.mono hbb2.size)⟩
end Go.Proofs.Ytldkblkcbffelaa
