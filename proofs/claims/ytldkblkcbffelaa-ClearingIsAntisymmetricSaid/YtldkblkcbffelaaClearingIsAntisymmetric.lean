/- The walk of ClearingIsAntisymmetric. -/
import Derived.Test.YtldkblkcbffelaaLawA
namespace Go.Proofs.Ytldkblkcbffelaa
open Go.RowKit

set_option maxHeartbeats 2000000 in
theorem walkClearingIsAntisymmetric (A : Option Addr) (n c : Nat) (l : List Rw) (s t u : Int) (w : World) (h : Rd w w.heap.size 4 A n (flat Rw.cells l)) (hok : ∀ r ∈ l, r.ok) (hn : n = l.length) (hn2 : n ≤ maxLen) (hs : I64 s) (ht : I64 t) (hu : I64 u) :
    Calls Try.prog 5 #[.slice A n c, .int .i64 s, .int .i64 t, .int .i64 u] w fun e w' => e = .returned (.bool true) ∧ Below w.heap.size w w' := by
  have Hn := Lib.hid hn
  clear hn
  obtain ⟨s1, s2⟩ := hs
  obtain ⟨t1, t2⟩ := ht
  obtain ⟨u1, u2⟩ := hu
  obtain ⟨x, hx⟩ : ∃ x : Nat, s % 6 = x := ⟨(s % 6).toNat, by omega⟩
  obtain ⟨y, hy⟩ : ∃ y : Nat, t % 6 = y := ⟨(t % 6).toNat, by omega⟩
  have hx6 : x < 6 := by omega
  have hy6 : y < 6 := by omega
  have hw1 : IntKind.i64.wrap (1 + u % 4) = 1 + u % 4 := IntWalk.i64_in _ (by omega)
  have hw2 : IntKind.i64.wrap (6 + (y : Int)) = 6 + (y : Int) := IntWalk.i64_in _ (by omega)
  go_enter Try.func5, Try.ntmps5
  go_wp2_with fail
  refine (ledgers_any A n c l w h hok Hn.out hn2).mono ?_
  rintro e w1 ⟨lb, mb, rb, rfl, hL, hR, hb1, hlb, hmb, hrb⟩
  clear hR
  have hsh := held_len l
  generalize heldOf [] (debtsOf l) = L at *
  go_wp2_with fail
  refine (awake_any w1).mono ?_
  rintro e w2 ⟨rfl, hb2⟩
  have hbb2 := hb1.trans (hb2.mono hb1.size)
  have hL2 := hL.below hb2
  clear hL
  go_wp2_with fail
  refine (mod_any s 6 _ ⟨s1, s2⟩ (by omega) (by omega)).mono ?_
  rintro e w' ⟨rfl, rfl⟩
  go_wp2_with fail
  refine (mod_any t 6 _ ⟨t1, t2⟩ (by omega) (by omega)).mono ?_
  rintro e w' ⟨rfl, rfl⟩
  go_wp2_with fail
  refine (mod_any u 4 _ ⟨u1, u2⟩ (by omega) (by omega)).mono ?_
  rintro e w' ⟨rfl, rfl⟩
  generalize hcu : 1 + u % 4 = cu at *
  have hq := rbet_bd x y cu L (fun z hz => hL2.ok z hz) 0
  have hq2 : -1000000000000000 ≤ rbet L x y cu ∧ rbet L x y cu ≤ 1000000000000000 := by unfold rbet; omega
  have hanti := rbet_anti L x y cu
  have hself := rbet_self L x cu
  generalize hqq : rbet L x y cu = q at *
  have HQ := Lib.hid hqq
  have HA := Lib.hid hanti
  have HS := Lib.hid hself
  clear hqq hanti hself hq
  have hw3 : IntKind.i64.wrap (-(-q)) = q := by rw [Int.neg_neg]; exact IntWalk.i64_in _ (by omega)
  go_wp2_with fail
  refine (between_of lb mb L x y cu _ hL2 hx6 hy6).mono ?_
  rintro e w' ⟨rfl, rfl⟩
  rw [HQ.out]
  go_wp2_with fail
  refine (between_of lb mb L y x cu _ hL2 hy6 hx6).mono ?_
  rintro e w' ⟨rfl, rfl⟩
  rw [HA.out]
  go_wp2_with fail
  refine (between_of lb mb L x x cu _ hL2 hx6 hx6).mono ?_
  rintro e w' ⟨rfl, rfl⟩
  rw [HS.out]
  go_wp2_with fail
  refine (between_out lb x (6 + y) cu _ (by omega)).mono ?_
  rintro e w' ⟨rfl, rfl⟩
  go_wp2_with fail
  go_ret
  exact ⟨rfl, hbb2⟩
end Go.Proofs.Ytldkblkcbffelaa
