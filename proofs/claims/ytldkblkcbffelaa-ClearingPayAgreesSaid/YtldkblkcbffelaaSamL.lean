/- The law's 'same': a ledger and the reference with the same debts answer alike. -/
import Derived.Test.YtldkblkcbffelaaLedgA
namespace Go.Proofs.Ytldkblkcbffelaa
open Go.RowKit

set_option maxHeartbeats 4000000 in
theorem same_any (lb mb rb : Nat) (L : List Dt) (w : World) (h : Led w lb mb L) (hr : RefA w rb L) (hl : L.length ≤ 900) :
    Calls Try.prog 15 #[.pointer (some ⟨lb, 0, none⟩), .pointer (some ⟨rb, 0, none⟩)] w fun e w' => e = .returned (.bool true) ∧ Below w.heap.size w w' := by
  go_enter Try.func15, Try.ntmps15
  go_wp2_with fail
  go_loopw [5] (fun c wr => ∃ k : Nat, k ≤ 3 ∧ c = .int .i64 ((k : Int) + 1) ∧ Below w.heap.size w wr) (fun c _ => 5 - (intOf c).toNat)
  case atStart => exact ⟨0, by omega, rfl, Below.refl _ _⟩
  case round =>
    obtain ⟨k, hk, rfl, hb⟩ := hrel
    have hw1 : IntKind.i64.wrap ((k : Int) + 1) = (k : Int) + 1 := IntWalk.i64_in _ (by omega)
    by_cases hlt : k < 3
    · generalize hu : (k : Int) + 1 = u at *
      have hu3 : 1 ≤ u ∧ u ≤ 3 := by omega
      have hu3' : u ≤ 3 := hu3.2
      go_wp2_with fail
      go_loopw [6] (fun s ws => ∃ i : Nat, i ≤ 6 ∧ s = .int .i64 (i : Int) ∧ Below w.heap.size w ws) (fun s _ => 6 - (intOf s).toNat)
      case atStart => exact ⟨0, by omega, rfl, hb⟩
      case round =>
        clear hb
        obtain ⟨i, hi, rfl, hb⟩ := hrel
        by_cases hli : i < 6
        · go_wp2_with fail
          refine (position_of lb mb L i u _ (h.below hb) hl hli).mono ?_
          rintro e w1 ⟨rfl, hb1⟩
          have hbb1 := hb.trans (hb1.mono hb.size)
          go_wp2_with fail
          refine (rposition_any rb L i u _ (hr.below hbb1)).mono ?_
          rintro e w2 ⟨rfl, hb2⟩
          have hbb2 := hbb1.trans (hb2.mono hbb1.size)
          clear hb hb1 hbb1 hb2
          generalize rpos L i u = p
          go_wp2_with fail
          go_loopw [7] (fun t wt => ∃ j : Nat, j ≤ 6 ∧ t = .int .i64 (j : Int) ∧ Below w.heap.size w wt) (fun t _ => 6 - (intOf t).toNat)
          case atStart => exact ⟨0, by omega, rfl, hbb2⟩
          case round =>
            clear hbb2
            obtain ⟨j, hj, rfl, hb⟩ := hrel
            by_cases hlj : j < 6
            · go_wp2_with fail
              refine (between_of lb mb L i j u _ (h.below hb) hli hlj).mono ?_
              rintro e w1 ⟨rfl, rfl⟩
              go_wp2_with fail
              refine (rbetween_any rb L i j u _ (hr.below hb)).mono ?_
              rintro e w2 ⟨rfl, hb2⟩
              have hbb2 := hb.trans (hb2.mono hb.size)
              generalize rbet L i j u = q
              go_wp2_with fail
              go_roundw
              case rel => exact ⟨j + 1, by omega, by go_num, hbb2⟩
              case measure => simp [intOf]; omega
            · go_wp2_with fail
              go_roundw
              case rel => exact ⟨i + 1, by omega, by go_num, hb⟩
              case measure => simp [intOf]; omega
        · go_wp2_with fail
          refine (netting_of lb mb L u _ (h.below hb) hl).mono ?_
          rintro e w1 ⟨v1, rfl, hown1, hb1⟩
          have hbb1 := hb.trans (hb1.mono hb.size)
          go_wp2_with fail
          refine (rnetting_any rb L u _ (hr.below hbb1)).mono ?_
          rintro e w2 ⟨v2, rfl, hown2, hb2⟩
          have hbb2 := hbb1.trans (hb2.mono hbb1.size)
          have hnl := net_length u 6 (fun s => rpos L s u)
          have hown3 := hown1.kept (grownBy_of_below hb2 none) (Classical.em _)
          generalize net u 6 (fun s => rpos L s u) = D at *
          generalize hN : D.length = N at *
          have HN := Lib.hid hN
          clear hN
          obtain ⟨A1, c1, rfl, _⟩ := own_form hown3
          obtain ⟨A2, c2, rfl, _⟩ := own_form hown2
          have hz2 := hbb2.size
          go_wp2_with fail
          refine (same_debts A1 A2 N c1 c2 D w2 (Rd.ofOwn hown3) (Rd.ofOwn hown2) HN.out (by omega)).mono ?_
          rintro e w3 ⟨rfl, hb3⟩
          have hbb3 := hbb2.trans (hb3.mono hz2)
          go_wp2_with fail
          go_roundw
          case rel => exact ⟨k + 1, by omega, congrArg (Value.int .i64) (by omega), hbb3⟩
          case measure => simp [intOf]; omega
    · go_wp2_with fail
      refine (currencies_of lb mb L _ (h.below hb) hl).mono ?_
      rintro e w1 ⟨A1, c1, rfl, hrd1, hb1⟩
      have hbb1 := hb.trans (hb1.mono hb.size)
      go_wp2_with fail
      refine (rcurrencies_any rb L _ (hr.below hbb1)).mono ?_
      rintro e w2 ⟨A2, c2, rfl, hrd2, hb2⟩
      have hbb2 := hbb1.trans (hb2.mono hbb1.size)
      have hrl := rcur_length L L
      generalize rcur L L = C at *
      generalize hN : C.length = N at *
      have HN := Lib.hid hN
      clear hN
      go_wp2_with fail
      refine (same_ints A1 A2 N c1 c2 C w2 ((hrd1.below hb2).mono hb2.size) hrd2 HN.out (by omega)).mono ?_
      rintro e w3 ⟨rfl, hb3⟩
      go_wp2_with fail
      go_ret
      exact ⟨rfl, hbb2.trans (hb3.mono hbb2.size)⟩
end Go.Proofs.Ytldkblkcbffelaa
