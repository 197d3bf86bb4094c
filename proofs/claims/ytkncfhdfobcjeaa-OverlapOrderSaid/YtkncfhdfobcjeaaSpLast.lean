/- Last of the program and of the reference; the reference's Days. -/
import Derived.Test.YtkncfhdfobcjeaaSpNth
namespace Go.Proofs.Ytkncfhdfobcjeaa
open Go.RowKit

theorem lastV_nil : lastV [] = (0, false) := rfl
theorem lastV_snoc (l : List Sp) (s : Sp) : lastV (l ++ [s]) = (s.t - 1, true) := by simp [lastV]

set_option maxHeartbeats 1000000 in
theorem last_any {A : Option Addr} {n c : Nat} {l : List Sp} {w : World} (h : Ds w A n l) (hn : n ≤ 1000) :
    Calls Try.prog 125 #[.slice A n c] w fun e w' => e = .returned (pairV (lastV (nf (dset l)))) ∧ Below w.heap.size w w' := by
  have hnl := nf_length_le h.2
  have hfit := nf_fit (dset l)
  go_enter Try.func125, Try.ntmps125
  go_wp2_with fail
  refine (make_nf h (by omega)).mono ?_
  rintro e w1 ⟨A1, c1, rfl, hown, hb1⟩
  generalize hN : nf (dset l) = N at *
  have HN := Lib.hid hN
  clear hN
  rcases List.eq_nil_or_concat N with rfl | ⟨N', q, rfl⟩
  · go_wp2_with fail
    go_ret2
    exact ⟨by rw [HN.out]; rfl, hb1⟩
  · rw [List.concat_eq_append] at *
    obtain ⟨f1, f2, f3⟩ := hfit q (by simp)
    have hd1 := Ds.ofOwn hown rfl
    obtain ⟨_, g, o, rfl, _, _, e1⟩ := sp_cells hd1.1 (show (N' ++ [q])[N'.length]? = some q by simp)
    have hv := lastV_snoc N' q
    have HV := Lib.hid hv
    have hlen : (N' ++ [q]).length = N'.length + 1 := by simp
    generalize hm : (N' ++ [q]).length = m at *
    have hm1 : N'.length = m - 1 := by omega
    have hm0 : 0 < m := by omega
    have hm2 : ((m : Int) == 0) = false := beq_eq_false_iff_ne.2 (by omega)
    have hw1 : IntKind.i64.wrap ((m : Int) - 1) = (m : Int) - 1 := IntWalk.i64_in _ (by omega)
    rw [hm1] at e1
    clear hm hlen hm1 hv hfit hown hd1
    go_wp2_with fail
    go_ret2
    exact ⟨by rw [HN.out, HV.out]; rfl, hb1⟩

set_option maxHeartbeats 2000000 in
theorem rdays_any {A : Option Addr} {n c : Nat} {l : List Sp} {w : World} (h : Ds w A n l) (hn : n ≤ 1000) :
    Calls Try.prog 62 #[.slice A n c] w fun e w' => e = .returned (.int .i64 (lenL (nf (dset l)))) ∧ Below w.heap.size w w' := by
  have hnl := nf_length_le h.2
  have hfit := nf_fit (dset l)
  go_enter Try.func62, Try.ntmps62
  go_wp2_with fail
  refine (rmake_nf h (by omega)).mono ?_
  rintro e w1 ⟨A1, c1, rfl, hown, hb1⟩
  generalize hN : nf (dset l) = N at *
  have HNf := Lib.hid hN
  clear hN
  have hd1 := Ds.ofOwn hown rfl
  have htot := lenF N hfit
  generalize hm : N.length = m at *
  have HM := Lib.hid hm
  have HF := Lib.hid hfit
  have hz1 := hb1.size
  clear hm hfit hown
  go_wp2_with fail
  go_loopw [3, 5] (fun v i wr => ∃ (k : Nat) (r : Int), k ≤ m ∧ i = .int .i64 (k : Int) ∧ v = .int .i64 r ∧ 0 ≤ r ∧ r + lenL (N.drop k) = lenL N ∧ 0 ≤ lenL (N.drop k) ∧ Below w1.heap.size w1 wr) (fun _ i _ => m - (intOf i).toNat)
  case atStart => exact ⟨0, 0, by omega, rfl, rfl, by omega, by simp, htot.1, Below.refl _ _⟩
  case round =>
    obtain ⟨k, r, hk, rfl, rfl, hr0, hd, hdn, hb⟩ := hrel
    by_cases hlt : k < m
    · have hkl : k < N.length := by rw [HM.out]; exact hlt
      obtain ⟨x, hx⟩ : ∃ x, N[k]? = some x := ⟨_, List.getElem?_eq_getElem hkl⟩
      obtain ⟨_, g, o, rfl, hgb, e0, e1⟩ := sp_cells (hd1.1.below hb) hx
      obtain ⟨f1, f2, f3⟩ := HF.out x (List.mem_of_getElem? hx)
      have hn2 := (lenF (N.drop (k + 1)) fun s hs => HF.out s (List.mem_of_mem_drop hs)).1
      rw [drop_getS hx, lenL] at hd
      have hlo : (0 : Int) ≤ (k : Int) := by omega
      have hhi : (k : Int) < (m : Int) := by omega
      clear hx hdn
      generalize hrest : lenL (N.drop (k + 1)) = rest at *
      generalize htt : lenL N = tot at *
      have HREST := Lib.hid hrest
      have HTOT := Lib.hid htt
      clear hrest htt
      have hw1 : IntKind.i64.wrap (x.t - x.f) = x.t - x.f := IntWalk.i64_in _ (by omega)
      have hw2 : IntKind.i64.wrap (r + (x.t - x.f)) = r + (x.t - x.f) := IntWalk.i64_in _ (by omega)
      have HD : Hid (r + (x.t - x.f) + rest = tot) := by show _ = _; omega
      have hr2 : 0 ≤ r + (x.t - x.f) := by omega
      clear hd
      go_wp2_with fail
      go_quiet (fail)
      go_wp2_with fail
      go_roundw
      case rel => exact ⟨k + 1, r + (x.t - x.f), by omega, by go_num, rfl, hr2, by rw [HREST.out]; exact HD.out, by rw [HREST.out]; exact hn2, below_drewN hb nq⟩
      case measure => simp [intOf]; omega
    · rw [List.drop_eq_nil_of_le (by have := HM.out; omega)] at hd
      have hr : r = lenL N := by simp [lenL] at hd; exact hd
      have HR := Lib.hid hr
      clear hd hdn hr
      go_wp2_with fail
      go_ret
      exact ⟨by rw [HNf.out, ← HR.out]; rfl, hb1.trans (hb.mono hz1)⟩
end Go.Proofs.Ytkncfhdfobcjeaa
