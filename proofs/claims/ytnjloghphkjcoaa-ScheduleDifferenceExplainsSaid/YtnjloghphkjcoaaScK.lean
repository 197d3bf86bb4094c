/- Same on equal lists of changes. -/
import Derived.Test.YtnjloghphkjcoaaScJ
import Derived.Test.YtnjloghphkjcoaaScL
namespace Go.Proofs.Ytnjloghphkjcoaa
open Go.RowKit

set_option maxHeartbeats 2000000 in
theorem same_ch {A A2 : Option Addr} {n c c2 : Nat} {l : List Ch} {w : World} (h : Dc w A n l) (h2 : Dc w A2 n l) (hn : n ≤ 1000000) :
    Calls Try.prog 27 #[.slice A n c, .slice A2 n c2] w fun e w' => e = .returned (.bool true) ∧ Below w.heap.size w w' := by
  have HN := Lib.hid h.2
  have hr1 := h.1
  have hr2 := h2.1
  have hne2 : ((n : Int) == (n : Int)) = true := by simp
  clear h h2
  go_enter Try.func27, Try.ntmps27
  go_wp2_with fail
  go_loopw [5] (fun i wr => ∃ k : Nat, k ≤ n ∧ i = .int .i64 (k : Int) ∧ Below w.heap.size w wr) (fun i _ => n - (intOf i).toNat)
  case atStart => exact ⟨0, by omega, rfl, Below.refl _ _⟩
  case round =>
    obtain ⟨k, hk, rfl, hbl⟩ := hrel
    by_cases hlt : k < n
    · have hkl : k < l.length := by rw [HN.out]; exact hlt
      obtain ⟨x, hx⟩ : ∃ x, l[k]? = some x := ⟨_, List.getElem?_eq_getElem hkl⟩
      obtain ⟨_, g, o, rfl, hgb, e0, e1⟩ := ch_cells (hr1.below hbl) hx
      obtain ⟨_, g2, o2, rfl, hgb2, d0, d1⟩ := ch_cells (hr2.below hbl) hx
      have hlo : (0 : Int) ≤ (k : Int) := by omega
      have hhi : (k : Int) < (n : Int) := by omega
      clear hx hne2
      obtain ⟨xm, xa⟩ := x
      have e0' : wr.cell? ⟨g, o + k * 2, none⟩ = some (.int .i64 xm) := e0
      have e1' : wr.cell? ⟨g, o + k * 2 + 1, none⟩ = some (.int .i64 xa) := e1
      have d0' : wr.cell? ⟨g2, o2 + k * 2, none⟩ = some (.int .i64 xm) := d0
      have d1' : wr.cell? ⟨g2, o2 + k * 2 + 1, none⟩ = some (.int .i64 xa) := d1
      clear e0 e1 d0 d1
      go_wp2_with fail
      go_quiet (fail)
      go_wp2_with fail
      go_roundw
      case rel => exact ⟨k + 1, by omega, by go_num, below_drewN hbl nq⟩
      case measure => simp [intOf]; omega
    · go_wp2_with fail
      go_ret
      exact ⟨rfl, hbl⟩
theorem difL_length {l k : List Rw} {s f t : Int} (h0 : 0 ≤ f) (h1 : t ≤ 5000) : (difL l k s f t).length ≤ 5001 := by
  unfold difL
  split
  · have := chN_length l k s f (t + 1 - f).toNat
    omega
  · simp
end Go.Proofs.Ytnjloghphkjcoaa
