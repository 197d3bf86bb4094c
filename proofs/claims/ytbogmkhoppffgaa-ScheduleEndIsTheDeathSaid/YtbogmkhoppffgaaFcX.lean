/- The hand's Pick. -/
import Derived.Test.YtbogmkhoppffgaaFcW
import Derived.Test.YtbogmkhoppffgaaInsA
namespace Go.Proofs.Ytbogmkhoppffgaa
open Go.RowKit

set_option maxRecDepth 100000 in
set_option maxHeartbeats 4000000 in
theorem pick_any {A : Option Addr} {m c : Nat} {l : List Int} {w : World} (h : Rd w w.heap.size 1 A m (ints l)) (hm : m ≤ 4611686018427387904) (i : Int) : Calls Try.prog 13 #[.slice A m c, .int .i64 i] w fun e w' => (∃ v : Int, e = .returned (.int .i64 v)) ∧ w = w' := by
  have hl := h.len1
  by_cases h0 : m = 0
  · subst h0
    go_enter Try.func13, Try.ntmps13
    go_wp2_with fail
    go_ret
    exact ⟨⟨0, rfl⟩, rfl⟩
  · obtain ⟨z, hz⟩ : ∃ z, i % (m : Int) = z := ⟨_, rfl⟩
    have hb := mod_bd i (m : Int) (by omega)
    rw [hz] at hb
    obtain ⟨k, rfl⟩ : ∃ k : Nat, z = (k : Int) := ⟨z.toNat, by omega⟩
    have hkl : k < l.length := by omega
    obtain ⟨x, hx⟩ : ∃ x, l[k]? = some x := ⟨_, List.getElem?_eq_getElem hkl⟩
    obtain ⟨_, b, o, rfl, hbl, hc⟩ := h.int hx
    have HZ := Lib.hid hz
    have g1 : (0 : Int) ≤ (k : Int) := by omega
    have g2 : (k : Int) < (m : Int) := by omega
    have hm0 : ((m : Int) == 0) = false := beq_eq_false_iff_ne.2 (by omega)
    clear hz hx hl
    go_enter Try.func13, Try.ntmps13
    go_wp2_with fail
    refine (mod_to (by omega) (by omega) HZ.out _).mono ?_
    rintro e w1 ⟨rfl, rfl⟩
    go_wp2_with fail
    go_ret
    exact ⟨⟨x, rfl⟩, rfl⟩
end Go.Proofs.Ytbogmkhoppffgaa
