/- The walk of ClearingPostAgrees. -/
import Derived.Test.YtldkblkcbffelaaAwakeA
import Derived.Test.YtldkblkcbffelaaSamL
namespace Go.Proofs.Ytldkblkcbffelaa
open Go.RowKit

theorem held_short (l : List Rw) : (heldOf [] (debtsOf l)).length ≤ 20 := by
  have h := heldOf_length (debtsOf l) []
  have h2 : (debtsOf l).length ≤ 20 := by simp [debtsOf, List.length_take]; omega
  simp only [List.length_nil] at h
  omega

set_option maxHeartbeats 2000000 in
theorem walkClearingPostAgrees (A : Option Addr) (n c : Nat) (l : List Rw) (w : World) (h : Rd w w.heap.size 4 A n (flat Rw.cells l)) (hok : ∀ r ∈ l, r.ok) (hn : n = l.length) (hn2 : n ≤ maxLen) :
    Calls Try.prog 3 #[.slice A n c] w fun e w' => e = .returned (.bool true) ∧ Below w.heap.size w w' := by
  have Hn := Lib.hid hn
  clear hn
  go_enter Try.func3, Try.ntmps3
  go_wp2_with fail
  refine (ledgers_any A n c l w h hok Hn.out hn2).mono ?_
  rintro e w1 ⟨lb, mb, rb, rfl, hL, hR, hb1, hlb, hmb, hrb⟩
  have hsh := held_short l
  go_wp2_with fail
  refine (awake_any w1).mono ?_
  rintro e w2 ⟨rfl, hb2⟩
  have hbb2 := hb1.trans (hb2.mono hb1.size)
  go_wp2_with fail
  refine (same_any lb mb rb _ w2 (hL.below hb2) (hR.below hb2) (by omega)).mono ?_
  rintro e w3 ⟨rfl, hb3⟩
  have hbb3 := hbb2.trans (hb3.mono hbb2.size)
  go_wp2_with fail
  go_ret
  exact ⟨rfl, hbb3⟩
end Go.Proofs.Ytldkblkcbffelaa
