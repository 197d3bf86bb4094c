/- Before and Days of the program. -/
import Derived.Test.YtkncfhdfobcjeaaSpNth
namespace Go.Proofs.Ytkncfhdfobcjeaa
open Go.RowKit

theorem befF : ∀ (l : List Sp) (d : Int), (∀ s ∈ l, Fit s) → 0 ≤ befL l d ∧ befL l d ≤ 73049 * l.length
  | [], _, _ => by simp [befL]
  | s :: r, d, h => by
    have h1 := befF r d fun x hx => h x (by simp [hx])
    obtain ⟨a, b, c⟩ := h s (by simp)
    unfold befL
    simp only [List.length_cons]
    split <;> omega

set_option maxHeartbeats 2000000 in
theorem before_any {A : Option Addr} {n c : Nat} {l : List Sp} {w : World} (d : Int) (h : Ds w A n l) (hn : n ≤ 1000) (hd : I64 d) :
    Calls Try.prog 81 #[.slice A n c, .int .i64 d] w fun e w' => e = .returned (.int .i64 (befL (nf (dset l)) d)) ∧ Below w.heap.size w w' := by
  have hnl := nf_length_le h.2
  have hfit := nf_fit (dset l)
  obtain ⟨hd0, hd1⟩ := hd
  go_enter Try.func81, Try.ntmps81
  go_wp2_with fail
  refine (make_nf h (by omega)).mono ?_
  rintro e w1 ⟨A1, c1, rfl, hown, hb1⟩
  generalize hN : nf (dset l) = N at *
  have HNf := Lib.hid hN
  clear hN
  have hd1 := Ds.ofOwn hown rfl
  have htot := befF N d hfit
  generalize hm : N.length = m at *
  have HM := Lib.hid hm
  have HF := Lib.hid hfit
  have hz1 := hb1.size
  clear hm hfit hown
  go_wp2_with fail
  go_loopw [5, 11] (fun v i wr => ∃ (k : Nat) (r : Int), k ≤ m ∧ i = .int .i64 (k : Int) ∧ v = .int .i64 r ∧ 0 ≤ r ∧ r + befL (N.drop k) d = befL N d ∧ 0 ≤ befL (N.drop k) d ∧ Below w1.heap.size w1 wr) (fun _ i _ => m - (intOf i).toNat)
  case atStart => exact ⟨0, 0, by omega, rfl, rfl, by omega, by simp, htot.1, Below.refl _ _⟩
  case round =>
    obtain ⟨k, r, hk, rfl, rfl, hr0, hd, hdn, hb⟩ := hrel
    have hwsz := hb.size
    by_cases hlt : k < m
    · have hkl : k < N.length := by rw [HM.out]; exact hlt
      obtain ⟨x, hx⟩ : ∃ x, N[k]? = some x := ⟨_, List.getElem?_eq_getElem hkl⟩
      obtain ⟨_, g, o, rfl, hgb, e0, e1⟩ := sp_cells (hd1.1.below hb) hx
      obtain ⟨f1, f2, f3⟩ := HF.out x (List.mem_of_getElem? hx)
      have hn2 := (befF (N.drop (k + 1)) d fun s hs => HF.out s (List.mem_of_mem_drop hs)).1
      rw [drop_getS hx, befL] at hd
      have hlo : (0 : Int) ≤ (k : Int) := by omega
      have hhi : (k : Int) < (m : Int) := by omega
      clear hx hdn
      generalize hrest : befL (N.drop (k + 1)) d = rest at *
      generalize htt : befL N d = tot at *
      have HREST := Lib.hid hrest
      have HTOT := Lib.hid htt
      clear hrest htt
      by_cases hc : x.f < d
      · rw [if_pos hc] at hd
        have hmn : (if d < x.t then d else x.t) = min x.t d := by split <;> omega
        have hm1 : x.f ≤ min x.t d := by omega
        have hm2 : min x.t d ≤ 73049 := by omega
        have HD : Hid (r + (min x.t d - x.f) + rest = tot) := by show _ = _; omega
        have hr2 : 0 ≤ r + (min x.t d - x.f) := by omega
        have hr3 : r + (min x.t d - x.f) ≤ 9223372036854775807 := by omega
        clear hd
        go_wp2_with fail
        go_roundw
        case rel => exact ⟨k + 1, r + (min x.t d - x.f), by omega, by go_num, rfl, hr2, by rw [HREST.out]; exact HD.out, by rw [HREST.out]; exact hn2, hb.alloc hwsz _⟩
        case measure => simp [intOf]; omega
      · rw [if_neg hc] at hd
        have HD : Hid (r + rest = tot) := by show _ = _; omega
        clear hd
        go_wp2_with fail
        go_roundw
        case rel => exact ⟨k + 1, r, by omega, by go_num, rfl, hr0, by rw [HREST.out]; exact HD.out, by rw [HREST.out]; exact hn2, hb.alloc hwsz _⟩
        case measure => simp [intOf]; omega
    · rw [List.drop_eq_nil_of_le (by have := HM.out; omega)] at hd
      have hr : r = befL N d := by simp [befL] at hd; exact hd
      have HR := Lib.hid hr
      clear hd hdn hr
      go_wp2_with fail
      go_ret
      exact ⟨by rw [HNf.out, ← HR.out]; rfl, hb1.trans (hb.mono hz1)⟩

set_option maxHeartbeats 1000000 in
theorem days_any {A : Option Addr} {n c : Nat} {l : List Sp} {w : World} (h : Ds w A n l) (hn : n ≤ 1000) :
    Calls Try.prog 61 #[.slice A n c] w fun e w' => e = .returned (.int .i64 (lenL (nf (dset l)))) ∧ Below w.heap.size w w' := by
  have hlen := befL_len2 (nf_norm (dset l))
  have HL := Lib.hid hlen
  clear hlen
  go_enter Try.func61, Try.ntmps61
  go_wp2_with fail
  refine (before_any 73049 h hn ⟨by omega, by omega⟩).mono ?_
  rintro e w1 ⟨rfl, hb1⟩
  rw [HL.out]
  go_wp2_with fail
  go_ret
  exact ⟨rfl, hb1⟩
end Go.Proofs.Ytkncfhdfobcjeaa
