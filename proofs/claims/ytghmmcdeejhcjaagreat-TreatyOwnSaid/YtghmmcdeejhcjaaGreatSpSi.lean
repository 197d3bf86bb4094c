/- SameInts of the reference. -/
import Derived.Test.YtghmmcdeejhcjaaGreatSpPw
namespace Go.Proofs.YtghmmcdeejhcjaaGreat
open Go.RowKit

theorem take_snocI {l : List Int} {k : Nat} {x : Int} (hx : l[k]? = some x) : l.take (k + 1) = l.take k ++ [x] := by
  rw [List.take_add_one, hx]
  rfl
set_option maxHeartbeats 2000000 in
theorem samei_any (A A2 : Option Addr) (n n2 c c2 : Nat) (l l2 : List Int) (w : World) (h : Rd w w.heap.size 1 A n (ints l)) (h2 : Rd w w.heap.size 1 A2 n2 (ints l2)) (hb : n ≤ 17592186044416) (hb2 : n2 ≤ 17592186044416) :
    Calls Tryz.prog 19 #[.slice A n c, .slice A2 n2 c2] w fun e w' => e = .returned (.bool (decide (l = l2))) ∧ ∃ q, w' = w.drewN q := by
  have HN := Lib.hid h.len1
  have HN2 := Lib.hid h2.len1
  by_cases hne : n = n2
  · subst hne
    have hne2 : ((n : Int) == (n : Int)) = true := by simp
    go_enter Tryz.func19, Tryz.ntmps19
    go_wp2_with fail
    go_loopw [5] (fun i wr => ∃ k q : Nat, k ≤ n ∧ i = .int .i64 (k : Int) ∧ l.take k = l2.take k ∧ wr = w.drewN q) (fun i _ => n - (intOf i).toNat)
    case atStart => exact ⟨0, 0, by omega, rfl, rfl, rfl⟩
    case round =>
      obtain ⟨k, q, hk, rfl, hd, rfl⟩ := hrel
      by_cases hlt : k < n
      · have hkl : k < l.length := by rw [HN.out]; exact hlt
        have hkl2 : k < l2.length := by rw [HN2.out]; exact hlt
        obtain ⟨x, hx⟩ : ∃ x, l[k]? = some x := ⟨_, List.getElem?_eq_getElem hkl⟩
        obtain ⟨y, hy⟩ : ∃ y, l2[k]? = some y := ⟨_, List.getElem?_eq_getElem hkl2⟩
        obtain ⟨_, g, o, rfl, hgb, e0⟩ := h.int hx
        obtain ⟨_, g2, o2, rfl, hgb2, d0⟩ := h2.int hy
        have hlo : (0 : Int) ≤ (k : Int) := by omega
        have hhi : (k : Int) < (n : Int) := by omega
        have HX := Lib.hid hx
        have HY := Lib.hid hy
        have HD := Lib.hid hd
        clear hx hy hd hne2
        by_cases h1 : x = y
        · subst h1
          have hb1 : (x == x) = true := by simp
          go_wp2_with fail
          go_quiet (fail)
          go_wp2_with fail
          go_roundw
          case rel => exact ⟨k + 1, q + nq, by omega, by go_num, by rw [take_snocI HX.out, take_snocI HY.out, HD.out], rfl⟩
          case measure => simp [intOf]; omega
        · have hno : decide (l = l2) = false := decide_eq_false fun e => by
            subst e
            have := HX.out.symm.trans HY.out
            injection this with this
            exact h1 this
          have HNo := Lib.hid hno
          clear hno
          have hb1 : (x == y) = false := beq_eq_false_iff_ne.2 h1
          have hb2 : (x != y) = true := by simp [h1]
          go_wp2_with fail
          go_quiet (fail)
          go_wp2_with fail
          go_ret
          exact ⟨ret_bool HNo.out.symm, q + nq, World.drewN_drewN ..⟩
      · rw [List.take_of_length_le (by have := HN.out; omega), List.take_of_length_le (by have := HN2.out; omega)] at hd
        have HE : Hid (decide (l = l2) = true) := decide_eq_true hd
        clear hd
        go_wp2_with fail
        go_ret
        exact ⟨ret_bool HE.out.symm, q, rfl⟩
  · have hne2 : ((n : Int) == (n2 : Int)) = false := beq_eq_false_iff_ne.2 (by omega)
    have hno : decide (l = l2) = false := decide_eq_false fun e => hne (by rw [← HN.out, ← HN2.out, e])
    have HNo := Lib.hid hno
    clear hno
    go_enter Tryz.func19, Tryz.ntmps19
    go_wp2_with fail
    go_ret
    exact ⟨ret_bool HNo.out.symm, 0, rfl⟩
/-- The same in a world that has drawn. -/
theorem samei_q {A A2 : Option Addr} {n n2 c c2 : Nat} {l l2 : List Int} {w : World} {b : Bool} (h : Rd w w.heap.size 1 A n (ints l)) (h2 : Rd w w.heap.size 1 A2 n2 (ints l2)) (hb : n ≤ 17592186044416) (hb2 : n2 ≤ 17592186044416) (hd : decide (l = l2) = b) (q : Nat) :
    Calls Tryz.prog 19 #[.slice A n c, .slice A2 n2 c2] (w.drewN q) fun e w' => e = .returned (.bool b) ∧ ∃ m, w' = w.drewN m := by
  subst hd
  exact Calls.quiet_of (samei_any A A2 n n2 c c2 l l2 (w.drewN q) h h2 hb hb2)
end Go.Proofs.YtghmmcdeejhcjaaGreat
