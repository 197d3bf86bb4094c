/- The walk of ClearingForksApart. -/
import Derived.Test.YtldkblkcbffelaaForkL
namespace Go.Proofs.Ytldkblkcbffelaa
open Go.RowKit

set_option maxHeartbeats 4000000 in
theorem walkClearingForksApart (A : Option Addr) (n c : Nat) (l : List Rw) (A' : Option Addr) (n' c' : Nat) (l' : List Rw) (w : World) (h : Rd w w.heap.size 4 A n (flat Rw.cells l)) (hok : ∀ r ∈ l, r.ok) (hn : n = l.length) (hn2 : n ≤ maxLen)
    (h' : Rd w w.heap.size 4 A' n' (flat Rw.cells l')) (hok' : ∀ r ∈ l', r.ok) (hn' : n' = l'.length) (hn2' : n' ≤ maxLen) :
    Calls Try.prog 9 #[.slice A n c, .slice A' n' c'] w fun e w' => e = .returned (.bool true) ∧ Below w.heap.size w w' := by
  have Hn := Lib.hid hn
  have Hn' := Lib.hid hn'
  clear hn hn'
  go_enter Try.func9, Try.ntmps9
  go_wp2_with fail
  refine (ledgers_any A n c l w h hok Hn.out hn2).mono ?_
  rintro e w1 ⟨lb, mb, rb, rfl, hL, hR, hb1, hlb, hmb, hrb⟩
  have hsh := held_len l
  generalize heldOf [] (debtsOf l) = L at *
  go_wp2_with fail
  refine (awake_any w1).mono ?_
  rintro e w2 ⟨rfl, hb2⟩
  have hbb2 := hb1.trans (hb2.mono hb1.size)
  have hL2 := hL.below hb2
  have hR2 := hR.below hb2
  clear hL hR hb1 hb2
  go_wp2_with fail
  refine (fork_of lb mb L w2 hL2).mono ?_
  rintro e w3 ⟨lb2, mb2, rfl, hF3, hb3, hf1, hf2⟩
  have hbb3 := hbb2.trans (hb3.mono hbb2.size)
  have hl1 := hL2.lt
  have hl2 := hL2.ltm
  have hl3 := hR2.lt
  have hL3 := hL2.below hb3
  have hR3 := hR2.below hb3
  have hz3 := hbb3.size
  clear hL2 hR2 hbb2 hb3
  go_wp2_with fail
  refine (debts_any A' n' c' l' w3 ((h'.below hbb3).mono hz3) hok' Hn'.out hn2').mono ?_
  rintro e w4 ⟨v, rfl, hown4, hb4⟩
  have hown := ownsRow_base (base' := 0) hown4 (Nat.zero_le _)
  have hbb4 := hbb3.trans (hb4.mono hz3)
  have hL4 := hL3.below hb4
  have hR4 := hR3.below hb4
  have hF4 := hF3.below hb4
  have hlen : (debtsOf l').length ≤ 20 := by simp [debtsOf, List.length_take]; omega
  clear hL3 hR3 hF3 hbb3 hown4 hb4
  generalize debtsOf l' = D at *
  obtain ⟨A1, c1, rfl, hnc1, hcm1, hA1⟩ := own_form hown
  generalize hN : D.length = N at *
  have HN := Lib.hid hN
  clear hN
  go_wp2_with fail
  go_loopw [10] (fun i wr => ∃ k : Nat, k ≤ N ∧ i = .int .i64 (k : Int) ∧ Led wr lb mb L ∧ RefA wr rb L ∧ Led wr lb2 mb2 (heldOf L (D.take k)) ∧ wr.ownsRow 0 37 4 (.slice A1 N c1) N (flat Dt.cells D) ∧ Below w.heap.size w wr) (fun i _ => N - (intOf i).toNat)
  case atStart => exact ⟨0, by omega, rfl, hL4, hR4, hF4, hown, hbb4⟩
  case round =>
    clear hL4 hR4 hF4 hown hbb4
    obtain ⟨k, hk, rfl, hL, hR, hF, hown, hb⟩ := hrel
    by_cases hlt : k < N
    · have hkl : k < D.length := by rw [HN.out]; exact hlt
      obtain ⟨x, hx⟩ : ∃ x, D[k]? = some x := ⟨_, List.getElem?_eq_getElem hkl⟩
      obtain ⟨g, rfl, _⟩ := hA1 (by omega)
      obtain ⟨e0, e1, e2, e3⟩ := own_cells hown hx
      have hstep : heldOf L (D.take (k + 1)) = nextOf (heldOf L (D.take k)) x := by rw [take_succ_get hx, heldOf_snoc]
      have hlK : (heldOf L (D.take k)).length ≤ 900 := by
        have := heldOf_length (D.take k) L
        rw [List.length_take] at this
        omega
      have HS := Lib.hid hstep
      have hlo : (0 : Int) ≤ (k : Int) := by omega
      have hhi : (k : Int) < (N : Int) := by omega
      have hwsz := hb.size
      clear hstep hx
      generalize heldOf L (D.take k) = K at *
      go_wp2_with fail
      refine (post_led lb2 mb2 K x _ hF hlK).mono ?_
      rintro e w5 ⟨rfl, hF5, hg5⟩
      have hL5 := hL.grown hg5 (fun e => by injection e with e; omega) (fun e => by injection e with e; omega)
      have hR5 := hR.beside hF hg5
      have hown5 := hown.kept hg5 (.inr (hF.own_ne hown).1)
      have hb5 := hb.grown hg5 hwsz (fun k e => by injection e with e; omega)
      generalize codeOf K x = cd at *
      go_wp2_with fail
      go_roundw
      case rel => exact ⟨k + 1, by omega, by go_num, hL5, hR5, by rw [HS.out]; exact hF5, hown5, hb5⟩
      case measure => simp [intOf]; omega
    · go_wp2_with fail
      refine (same_any lb mb rb L _ hL hR (by omega)).mono ?_
      rintro e w5 ⟨rfl, hb5⟩
      go_wp2_with fail
      go_ret
      exact ⟨rfl, hb.trans (hb5.mono hb.size)⟩
end Go.Proofs.Ytldkblkcbffelaa
