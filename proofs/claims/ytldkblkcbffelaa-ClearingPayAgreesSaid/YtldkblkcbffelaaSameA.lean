/- Two equal lists compare as equal: Same over debts, Ints. -/
import Derived.Test.YtldkblkcbffelaaRefA
import Derived.Test.YtldkblkcbffelaaInsA
import Derived.BigQuiet
namespace Go.Proofs.Ytldkblkcbffelaa
open Go.RowKit

theorem dt_cells4 {w : World} {B n : Nat} {A : Option Addr} {l : List Dt} (h : Rd w B 4 A n (flat Dt.cells l)) {k : Nat} {x : Dt} (hx : l[k]? = some x) :
    k < n ∧ ∃ b o, A = some ⟨b, o, none⟩ ∧ b < B ∧ w.cell? ⟨b, o + k * 4, none⟩ = some (.int .i64 x.d) ∧ w.cell? ⟨b, o + k * 4 + 1, none⟩ = some (.int .i64 x.c) ∧ w.cell? ⟨b, o + k * 4 + 2, none⟩ = some (.int .i64 x.u) ∧ w.cell? ⟨b, o + k * 4 + 3, none⟩ = some (.int .i64 x.a) := by
  obtain ⟨hk, b, o, e, hb, hc⟩ := h.elem (fun _ => rfl : ∀ x : Dt, x.cells.length = 4) hx (by omega)
  exact ⟨hk, b, o, e, hb, by simpa using hc 0 _ rfl, hc 1 _ rfl, hc 2 _ rfl, hc 3 _ rfl⟩

theorem same_debts (A A2 : Option Addr) (n c c2 : Nat) (l : List Dt) (w : World) (h : Rd w w.heap.size 4 A n (flat Dt.cells l)) (h2 : Rd w w.heap.size 4 A2 n (flat Dt.cells l)) (hn : l.length = n) (hn2 : n ≤ 1000000) :
    Calls Try.prog 24 #[.slice A n c, .slice A2 n c2] w fun e w' => e = .returned (.bool true) ∧ Below w.heap.size w w' := by
  have HN := Lib.hid hn
  clear hn
  go_enter Try.func24, Try.ntmps24
  go_wp2_with fail
  go_loopw [5] (fun i wr => ∃ k : Nat, k ≤ n ∧ i = .int .i64 k ∧ Below w.heap.size w wr) (fun i _ => n - (intOf i).toNat)
  case atStart => exact ⟨0, by omega, rfl, Below.refl _ _⟩
  case round =>
    obtain ⟨k, hk, rfl, hb⟩ := hrel
    by_cases hlt : k < n
    · have hL : k < l.length := by rw [HN.out]; exact hlt
      obtain ⟨x, hx⟩ : ∃ x, l[k]? = some x := ⟨_, List.getElem?_eq_getElem hL⟩
      obtain ⟨_, b, o, rfl, hbb, c0, c1, c2, c3⟩ := dt_cells4 h hx
      obtain ⟨_, b', o', rfl, hbb', c0', c1', c2', c3'⟩ := dt_cells4 h2 hx
      have e0 := (hb.cell (p := ⟨b, o + k * 4, none⟩) hbb).trans c0
      have e1 := (hb.cell (p := ⟨b, o + k * 4 + 1, none⟩) hbb).trans c1
      have e2 := (hb.cell (p := ⟨b, o + k * 4 + 2, none⟩) hbb).trans c2
      have e3 := (hb.cell (p := ⟨b, o + k * 4 + 3, none⟩) hbb).trans c3
      have f0 := (hb.cell (p := ⟨b', o' + k * 4, none⟩) hbb').trans c0'
      have f1 := (hb.cell (p := ⟨b', o' + k * 4 + 1, none⟩) hbb').trans c1'
      have f2 := (hb.cell (p := ⟨b', o' + k * 4 + 2, none⟩) hbb').trans c2'
      have f3 := (hb.cell (p := ⟨b', o' + k * 4 + 3, none⟩) hbb').trans c3'
      have hlo : (0 : Int) ≤ (k : Int) := by omega
      have hhi : (k : Int) < (n : Int) := by omega
      clear c0 c1 c2 c3 c0' c1' c2' c3' hx
      go_wp2_with fail
      go_quiet (fail)
      go_wp2_with fail
      go_roundw
      case rel => exact ⟨k + 1, by omega, by go_num, below_drewN hb _⟩
      case measure => simp [intOf]; omega
    · go_wp2_with fail
      go_ret
      exact ⟨rfl, hb⟩

theorem same_ints (A A2 : Option Addr) (n c c2 : Nat) (l : List Int) (w : World) (h : Rd w w.heap.size 1 A n (ints l)) (h2 : Rd w w.heap.size 1 A2 n (ints l)) (hn : l.length = n) (hn2 : n ≤ 1000000) :
    Calls Try.prog 29 #[.slice A n c, .slice A2 n c2] w fun e w' => e = .returned (.bool true) ∧ Below w.heap.size w w' := by
  have HN := Lib.hid hn
  clear hn
  go_enter Try.func29, Try.ntmps29
  go_wp2_with fail
  go_loopw [5] (fun i wr => ∃ k : Nat, k ≤ n ∧ i = .int .i64 k ∧ Below w.heap.size w wr) (fun i _ => n - (intOf i).toNat)
  case atStart => exact ⟨0, by omega, rfl, Below.refl _ _⟩
  case round =>
    obtain ⟨k, hk, rfl, hb⟩ := hrel
    by_cases hlt : k < n
    · have hL : k < l.length := by rw [HN.out]; exact hlt
      obtain ⟨x, hx⟩ : ∃ x, l[k]? = some x := ⟨_, List.getElem?_eq_getElem hL⟩
      obtain ⟨_, b, o, rfl, hbb, c0⟩ := h.int hx
      obtain ⟨_, b', o', rfl, hbb', c0'⟩ := h2.int hx
      have e0 := (hb.cell (p := ⟨b, o + k, none⟩) hbb).trans c0
      have f0 := (hb.cell (p := ⟨b', o' + k, none⟩) hbb').trans c0'
      have hlo : (0 : Int) ≤ (k : Int) := by omega
      have hhi : (k : Int) < (n : Int) := by omega
      clear c0 c0' hx
      go_wp2_with fail
      go_quiet (fail)
      go_wp2_with fail
      go_roundw
      case rel => exact ⟨k + 1, by omega, by go_num, below_drewN hb _⟩
      case measure => simp [intOf]; omega
    · go_wp2_with fail
      go_ret
      exact ⟨rfl, hb⟩
end Go.Proofs.Ytldkblkcbffelaa
