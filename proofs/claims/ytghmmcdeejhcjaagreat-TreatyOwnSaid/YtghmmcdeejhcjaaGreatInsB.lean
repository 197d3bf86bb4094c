/- The reference's Ins, walked. -/
import Derived.Test.YtghmmcdeejhcjaaGreatInsA
namespace Go.Proofs.YtghmmcdeejhcjaaGreat
open Go.RowKit

theorem info_int : (Tryz.prog.info? 3).map (fun i => (i.zero, i.size, i.bytes)) = some (some (.int .i64 0), 1, 8) := by kernel_rfl

theorem ins_cut {l : List Int} {n : Int} (hs : l.Pairwise (· < ·)) {k : Nat} (_hk : k ≤ l.length) (hge : ∀ j x, k ≤ j → l[j]? = some x → n ≤ x) (hlt : k = 0 ∨ ∃ x, l[k - 1]? = some x ∧ x < n) :
    (∀ x ∈ l.take k, x < n) ∧ (∀ x ∈ l.drop k, n ≤ x) := by
  refine ⟨fun x hx => ?_, fun x hx => ?_⟩
  · obtain ⟨j, hj⟩ := List.mem_iff_getElem?.1 hx
    rw [List.getElem?_take] at hj
    split at hj
    · rename_i hjk
      rcases hlt with h0 | ⟨y, hy, hyn⟩
      · omega
      · by_cases e : j = k - 1
        · rw [e, hy] at hj
          injection hj with hj
          omega
        · have hjl := (List.getElem?_eq_some_iff.1 hj)
          have hyl := (List.getElem?_eq_some_iff.1 hy)
          have := List.pairwise_iff_getElem.1 hs j (k - 1) hjl.1 hyl.1 (by omega)
          rw [hjl.2, hyl.2] at this
          omega
    · cases hj
  · obtain ⟨j, hj⟩ := List.mem_iff_getElem?.1 hx
    rw [List.getElem?_drop] at hj
    exact hge (k + j) x (by omega) hj

theorem ins_fin {w w3 : World} {base m k c3 : Nat} {A3 : Option Addr} {l : List Int} {n : Int} (hown : w3.ownsRow base 3 1 (.slice A3 (0 + k + 1 + (m - k)) c3) (0 + k + 1 + (m - k)) ([] ++ ints (l.take k) ++ ints [n] ++ ints (l.drop k)))
    (HN : Hid (insS l n = l.take k ++ n :: l.drop k)) (Hlm : Hid (l.length = m)) (hk : k ≤ m) (hcm : c3 ≤ maxLen) (hnc : 0 + k + 1 + (m - k) ≤ c3) (hb : Below w.heap.size w w3) :
    ∃ A' c', Ending.returned (.slice A3 (k + 1 + (m - k)) c3) = .returned (.slice A' (insS l n).length c') ∧ Rd w3 w3.heap.size 1 A' (insS l n).length (ints (insS l n)) ∧ (insS l n).length ≤ c' ∧ c' ≤ maxLen ∧ Below w.heap.size w w3 := by
  have hl : l.length = m := Hlm.out
  have hlen : (insS l n).length = 0 + k + 1 + (m - k) := by
    rw [HN.out]
    simp
    omega
  have hx : ints (insS l n) = [] ++ ints (l.take k) ++ ints [n] ++ ints (l.drop k) := by
    rw [HN.out]
    simp [ints]
  refine ⟨A3, c3, ?_, ?_, by rw [hlen]; exact hnc, hcm, hb⟩
  · rw [hlen, Nat.zero_add]
  · rw [hlen, hx]
    exact Rd.ofOwn hown

end Go.Proofs.YtghmmcdeejhcjaaGreat
