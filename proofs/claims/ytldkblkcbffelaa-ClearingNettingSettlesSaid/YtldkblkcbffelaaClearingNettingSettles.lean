/- The walk of ClearingNettingSettles. -/
import Derived.Test.YtldkblkcbffelaaNetLaw
namespace Go.Proofs.Ytldkblkcbffelaa
open Go.RowKit

theorem posSum_eq (L : List Dt) (u : Int) : ∀ k, posSum L u k = sumTo (fun s : Nat => rpos L s u) k
  | 0 => rfl
  | k + 1 => by simp only [posSum, sumTo, posSum_eq L u k]
theorem net_valid {L : List Dt} {u : Int} (hu : 1 ≤ u ∧ u ≤ 999) (hW : Wide L) (n : Nat) : validAll (net u n (fun s : Nat => rpos L s u)) = true := by
  rw [validAll, List.all_eq_true]
  intro x hx
  obtain ⟨d, c, e1, e2, hd, hc, hdc, eu, ha, _, _, hac⟩ := net_mem u n _ x hx
  have hf := (fitsB_iff _).1 (hW c u hc)
  simp only [validB, decide_eq_true_eq]
  omega
theorem settle {L : List Dt} {u : Int} (hok : ∀ x ∈ L, x.ok) (hu : 1 ≤ u ∧ u ≤ 999) (hW : Wide L) :
    ∃ L', payCode L (net u 6 (fun s : Nat => rpos L s u)) = 0 ∧ payNext L (net u 6 (fun s : Nat => rpos L s u)) = L' ∧ (∀ i : Nat, i < 6 → rpos L' i u = 0) ∧ (∀ (s v : Int), v ≠ u → rpos L' s v = rpos L s v) := by
  obtain ⟨L', e1, e2, e3⟩ := payGo_net hu 6 L (fun s : Nat => rpos L s u) hW (fun _ _ => rfl)
  have hz := pEnd_zero (p := fun s : Nat => rpos L s u) (by rw [← posSum_eq]; exact posSum_zero hok u)
  have hv := net_valid hu hW 6
  refine ⟨L', ?_, ?_, fun i hi => by rw [e2 i hi]; exact hz i hi, e3⟩
  · simp [payCode, hv, e1]
  · simp [payNext, hv, e1]

set_option maxHeartbeats 4000000 in
theorem walkClearingNettingSettles (A : Option Addr) (n c : Nat) (l : List Rw) (u : Int) (w : World) (h : Rd w w.heap.size 4 A n (flat Rw.cells l)) (hok : ∀ r ∈ l, r.ok) (hn : n = l.length) (hn2 : n ≤ maxLen) (hu : I64 u) :
    Calls Try.prog 10 #[.slice A n c, .int .i64 u] w fun e w' => e = .returned (.bool true) ∧ Below w.heap.size w w' := by
  have Hn := Lib.hid hn
  clear hn
  obtain ⟨u1, u2⟩ := hu
  have hw1 : IntKind.i64.wrap (1 + u % 3) = 1 + u % 3 := IntWalk.i64_in _ (by omega)
  go_enter Try.func10, Try.ntmps10
  go_wp2_with fail
  refine (ledgers_any A n c l w h hok Hn.out hn2).mono ?_
  rintro e w1 ⟨lb, mb, rb, rfl, hL, hR, hb1, hlb, hmb, hrb⟩
  clear hR
  have hsh := held_len l
  have hwide := wide_held (debtsOf l) [] wide_nil
  generalize heldOf [] (debtsOf l) = L at *
  go_wp2_with fail
  refine (awake_any w1).mono ?_
  rintro e w2 ⟨rfl, hb2⟩
  have hbb2 := hb1.trans (hb2.mono hb1.size)
  have hL2 := hL.below hb2
  clear hL hb1 hb2
  go_wp2_with fail
  refine (mod_any u 3 _ ⟨u1, u2⟩ (by omega) (by omega)).mono ?_
  rintro e w' ⟨rfl, rfl⟩
  generalize hcu : 1 + u % 3 = cu at *
  have hcr : 1 ≤ cu ∧ cu ≤ 999 := by omega
  have hcr3 : 1 ≤ cu ∧ cu ≤ 3 := by omega
  go_wp2_with fail
  refine (fork_of lb mb L w2 hL2).mono ?_
  rintro e w3 ⟨lb2, mb2, rfl, hF3, hb3, hf1, hf2⟩
  have hl1 := hL2.lt
  have hl2 := hL2.ltm
  have hL3 := hL2.below hb3
  have hbb3 := hbb2.trans (hb3.mono hbb2.size)
  have hz2 := hbb2.size
  have hz3 := hb3.size
  clear hL2 hbb2 hb3
  go_wp2_with fail
  refine (netting_of lb mb L cu w3 hL3 (by omega)).mono ?_
  rintro e w4 ⟨v, rfl, hown, hb4⟩
  have hbb4 := hbb3.trans (hb4.mono hbb3.size)
  have hL4 := hL3.below hb4
  have hF4 := hF3.below hb4
  obtain ⟨L', hs1, hs2, hs3, hs4⟩ := settle hF4.ok hcr hwide
  have hnl := net_length cu 6 (fun s : Nat => rpos L s cu)
  generalize net cu 6 (fun s : Nat => rpos L s cu) = D at *
  obtain ⟨A1, c1, rfl, _⟩ := own_form hown
  generalize hN : D.length = N at *
  have HN := Lib.hid hN
  have hLl : L'.length ≤ 900 := by
    have := payNext_length L D
    rw [hs2] at this
    omega
  clear hL3 hF3 hbb3 hb4 hN
  go_wp2_with fail
  refine (pay_led lb2 mb2 A1 N c1 L D w4 hF4 (Rd.ofOwn hown) HN.out (by omega) (by omega)).mono ?_
  rintro e w5 ⟨rfl, mb3, hF5, hg5, hmb3⟩
  rw [hs2] at hF5
  rw [hs1]
  have hL5 := hL4.grown hg5 (fun e => by injection e with e; omega) (fun e => by injection e with e; omega)
  have hbb5 := hbb4.grown hg5 hbb4.size (fun k e => by injection e with e; omega)
  clear hL4 hF4 hbb4 hs1 hs2
  have hm3 : cu % 3 + 1 ≠ cu := by omega
  have hw2 : IntKind.i64.wrap (cu % 3 + 1) = cu % 3 + 1 := IntWalk.i64_in _ (by omega)
  have hlb5 := hL5.lt
  have hmb5 := hL5.ltm
  have hlf5 := hF5.lt
  have hmf5 := hF5.ltm
  go_wp2_with fail
  go_loopw [10] (fun s wr => ∃ k : Nat, k ≤ 6 ∧ s = .int .i64 (k : Int) ∧ Below w5.heap.size w5 wr) (fun s _ => 6 - (intOf s).toNat)
  case atStart => exact ⟨0, by omega, rfl, Below.refl _ _⟩
  case round =>
    obtain ⟨k, hk, rfl, hb⟩ := hrel
    have hFr := hF5.belowLe hb hlf5 hmf5
    have hLr := hL5.belowLe hb hlb5 hmb5
    by_cases hlt : k < 6
    · go_wp2_with fail
      refine (position_of lb2 mb3 L' k cu _ hFr hLl hlt).mono ?_
      rintro e w6 ⟨rfl, hb6⟩
      rw [hs3 k hlt]
      have hFr6 := hFr.below hb6
      have hLr6 := hLr.below hb6
      have hbb6 := hb.trans (hb6.mono hb.size)
      clear hFr hLr hb6
      go_wp2_with fail
      refine (position_of lb2 mb3 L' k _ _ hFr6 hLl hlt).mono ?_
      rintro e w7 ⟨rfl, hb7⟩
      have hLr7 := hLr6.below hb7
      have hbb7 := hbb6.trans (hb7.mono hbb6.size)
      rw [hs4 k _ hm3]
      go_wp2_with fail
      refine (position_of lb mb L k _ _ hLr7 (by omega) hlt).mono ?_
      rintro e w8 ⟨rfl, hb8⟩
      have hbb8 := hbb7.trans (hb8.mono hbb7.size)
      generalize rpos L (k : Nat) (cu % 3 + 1) = q
      go_wp2_with fail
      go_roundw
      case rel => exact ⟨k + 1, by omega, by go_num, hbb8⟩
      case measure => simp [intOf]; omega
    · go_wp2_with fail
      refine (netting_of lb2 mb3 L' cu _ hFr hLl).mono ?_
      have he : net cu 6 (fun s : Nat => rpos L' s cu) = [] := by
        apply net_stop
        have h1 : (fun s : Nat => rpos L' s cu) (lo (fun s : Nat => rpos L' s cu) 6) = 0 := hs3 _ (lo_lt (fun s : Nat => rpos L' s cu) 6 (Nat.le_refl 6))
        unfold netV
        omega
      rw [he]
      rintro e w6 ⟨v, rfl, hown6, hb6⟩
      obtain ⟨A6, c6, rfl, _⟩ := own_form hown6
      go_wp2_with fail
      go_ret
      exact ⟨rfl, (hbb5.trans (hb.mono hbb5.size)).trans (hb6.mono (by have := hbb5.size; have := hb.size; omega))⟩
end Go.Proofs.Ytldkblkcbffelaa
