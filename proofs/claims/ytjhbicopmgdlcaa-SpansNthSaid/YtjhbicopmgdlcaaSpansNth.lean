/- The walk of SpansNth. -/
import Derived.Test.YtjhbicopmgdlcaaSpLast
namespace Go.Proofs.Ytjhbicopmgdlcaa
open Go.RowKit

theorem pairV_mk (a : Int) (b : Bool) : pairV (a, b) = .tuple #[.int .i64 a, .bool b] := rfl

set_option maxHeartbeats 4000000 in
theorem walkSpansNth (A : Option Addr) (n c : Nat) (l : List Sp) (q : Int) (s : Int) (w : World) (h : Ds w A n l) (hok : ∀ s ∈ l, s.ok) (_ : n ≤ maxLen) (hq : I64 q) (_ : I64 s) :
    Calls Try.prog 4 #[.slice A n c, .int .i64 q, .int .i64 s] w fun e w' => e = .returned (.bool true) ∧ Below w.heap.size w w' := by
  by_cases hbig : 60 < n
  · have hbig2 : (60 : Int) < (n : Int) := by omega
    go_enter Try.func4, Try.ntmps4
    go_wp2_with fail
    go_ret
    exact ⟨rfl, Below.refl _ _⟩
  · have hbig2 : ¬ (60 : Int) < (n : Int) := by omega
    by_cases hs : s.tmod 4 = 0
    · have hs2 : (s.tmod 4 == 0) = true := beq_iff_eq.2 hs
      clear hs
      go_enter Try.func4, Try.ntmps4
      go_wp2_with fail
      refine (small_any A n c l s w h hok (by omega)).mono ?_
      rintro e w1 ⟨A1, c1, l1, rfl, hd1, hok1, hb1⟩
      go_wp2_with fail
      refine (nth_any q hd1 (by omega) hq).mono ?_
      rintro e w3 ⟨rfl, hb3⟩
      have hbb3 := hb1.trans (hb3.mono hb1.size)
      have hd3 := hd1.below hb3
      clear hd1 hb1 hb3
      generalize hnv : nthV (nf (dset l1)) q = pv at *
      have HNV := Lib.hid hnv
      clear hnv
      obtain ⟨p1, p2⟩ := pv
      rw [pairV_mk]
      go_wp2_with fail
      refine (rnth_any q hd3 (by omega) hq).mono ?_
      rintro e w4 ⟨rfl, hb4⟩
      rw [HNV.out, pairV_mk]
      have hbb4 := hbb3.trans (hb4.mono hbb3.size)
      have hd4 := hd3.below hb4
      clear hd3 hbb3 hb4
      go_wp2_with fail
      refine (last_any hd4 (by omega)).mono ?_
      rintro e w5 ⟨rfl, hb5⟩
      have hbb5 := hbb4.trans (hb5.mono hbb4.size)
      have hd5 := hd4.below hb5
      clear hd4 hbb4 hb5
      generalize hlv : lastV (nf (dset l1)) = lv at *
      have HLV := Lib.hid hlv
      clear hlv
      obtain ⟨q1, q2⟩ := lv
      rw [pairV_mk]
      go_wp2_with fail
      refine (rlast_any hd5 (by omega)).mono ?_
      rintro e w6 ⟨rfl, hb6⟩
      rw [HLV.out, pairV_mk]
      have hbb6 := hbb5.trans (hb6.mono hbb5.size)
      clear hd5 hbb5 hb6
      go_wp2_with fail
      refine (awake_any w6).mono ?_
      rintro e w7 ⟨rfl, hb7⟩
      have hbb7 := hbb6.trans (hb7.mono hbb6.size)
      clear hbb6 hb7
      have he1 : (p1 == p1) = true := beq_self_eq_true p1
      have he2 : (p2 == p2) = true := beq_self_eq_true p2
      have he3 : (q1 == q1) = true := beq_self_eq_true q1
      have he4 : (q2 == q2) = true := beq_self_eq_true q2
      go_wp2_with fail
      go_ret
      exact ⟨rfl, hbb7⟩
    · have hs2 : (s.tmod 4 == 0) = false := beq_eq_false_iff_ne.2 hs
      clear hs
      go_enter Try.func4, Try.ntmps4
      go_wp2_with fail
      refine (small_any A n c l s w h hok (by omega)).mono ?_
      rintro e w1 ⟨A1, c1, l1, rfl, hd1, hok1, hb1⟩
      have hfl := lenF _ (nf_fit (dset l1))
      have hll := nf_length_le hd1.2
      go_wp2_with fail
      refine (rdays_any hd1 (by omega)).mono ?_
      rintro e w2 ⟨rfl, hb2⟩
      generalize hD : lenL (nf (dset l1)) = D at *
      have hD1 : 0 ≤ D ∧ D ≤ 8765880 := by omega
      clear hD hfl hll
      have hbb2 := hb1.trans (hb2.mono hb1.size)
      have hd2 := hd1.below hb2
      clear hd1 hb1 hb2
      have hw1 : IntKind.i64.wrap (D + 5) = D + 5 := IntWalk.i64_in _ (by omega)
      go_wp2_with fail
      refine (pick_any q (D + 5) w2 (by omega)).mono ?_
      rintro e _ ⟨rfl, rfl⟩
      have hpb := pick_bd q _ (show 1 ≤ D + 5 by omega)
      generalize pick q (D + 5) = u at *
      have hw2 : IntKind.i64.wrap (u - 2) = u - 2 := IntWalk.i64_in _ (by omega)
      have hu : I64 (u - 2) := ⟨by omega, by omega⟩
      generalize hv : u - 2 = v at *
      have HV := Lib.hid hv
      go_wp2_with fail
      refine (nth_any v hd2 (by omega) hu).mono ?_
      rintro e w3 ⟨rfl, hb3⟩
      have hbb3 := hbb2.trans (hb3.mono hbb2.size)
      have hd3 := hd2.below hb3
      clear hd2 hbb2 hb3
      generalize hnv : nthV (nf (dset l1)) v = pv at *
      have HNV := Lib.hid hnv
      clear hnv
      obtain ⟨p1, p2⟩ := pv
      rw [pairV_mk]
      go_wp2_with fail
      refine (rnth_any v hd3 (by omega) hu).mono ?_
      rintro e w4 ⟨rfl, hb4⟩
      rw [HNV.out, pairV_mk]
      have hbb4 := hbb3.trans (hb4.mono hbb3.size)
      have hd4 := hd3.below hb4
      clear hd3 hbb3 hb4
      go_wp2_with fail
      refine (last_any hd4 (by omega)).mono ?_
      rintro e w5 ⟨rfl, hb5⟩
      have hbb5 := hbb4.trans (hb5.mono hbb4.size)
      have hd5 := hd4.below hb5
      clear hd4 hbb4 hb5
      generalize hlv : lastV (nf (dset l1)) = lv at *
      have HLV := Lib.hid hlv
      clear hlv
      obtain ⟨q1, q2⟩ := lv
      rw [pairV_mk]
      go_wp2_with fail
      refine (rlast_any hd5 (by omega)).mono ?_
      rintro e w6 ⟨rfl, hb6⟩
      rw [HLV.out, pairV_mk]
      have hbb6 := hbb5.trans (hb6.mono hbb5.size)
      clear hd5 hbb5 hb6
      go_wp2_with fail
      refine (awake_any w6).mono ?_
      rintro e w7 ⟨rfl, hb7⟩
      have hbb7 := hbb6.trans (hb7.mono hbb6.size)
      clear hbb6 hb7
      have he1 : (p1 == p1) = true := beq_self_eq_true p1
      have he2 : (p2 == p2) = true := beq_self_eq_true p2
      have he3 : (q1 == q1) = true := beq_self_eq_true q1
      have he4 : (q2 == q2) = true := beq_self_eq_true q2
      go_wp2_with fail
      go_ret
      exact ⟨rfl, hbb7⟩
end Go.Proofs.Ytjhbicopmgdlcaa
