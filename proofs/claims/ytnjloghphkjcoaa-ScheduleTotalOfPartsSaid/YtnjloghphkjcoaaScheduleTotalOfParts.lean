/- The walk of ScheduleTotalOfParts. -/
import Derived.Test.YtnjloghphkjcoaaScL
namespace Go.Proofs.Ytnjloghphkjcoaa
open Go.RowKit

set_option maxRecDepth 100000 in
set_option maxHeartbeats 4000000 in
theorem walkScheduleTotalOfParts (A : Option Addr) (n c : Nat) (xs : List Int) (fr st a b cc : Int) (w : World) (h : Rd w w.heap.size 3 A n (ints xs)) (hok : ∀ x ∈ xs, I64 x) (_ : n ≤ maxLen) (_ : I64 fr) (_ : I64 st) (_ : I64 a) (_ : I64 b) (_ : I64 cc) :
    Calls Try.prog 8 #[.slice A n c, .int .i64 fr, .int .i64 st, .int .i64 a, .int .i64 b, .int .i64 cc] w fun e w' => e = .returned (.bool true) ∧ Below w.heap.size w w' := by
  go_enter Try.func8, Try.ntmps8
  go_wp2_with fail
  refine (rows_any fr h hok).mono ?_
  rintro e w1 ⟨A1, c1, L, rfl, hown, hv, ham, hl12, -, hb1, -⟩
  have hd1 := Dr.ofOwn hown rfl
  clear h hown
  generalize hLn : L.length = n1 at *
  clear hLn
  have hm1 : n1 ≤ maxLen := by unfold maxLen; omega
  have HAM := Lib.hid ham
  clear ham
  go_wp2_with fail
  have hbb1 := hb1
  clear hb1
  have hb_s := mod_bd st 3 (by omega)
  refine (mod_any st 3 _ (by omega) (by omega)).mono ?_
  rintro e wz ⟨rfl, rfl⟩
  generalize st % 3 = s at *
  go_wp2_with fail
  have hb_f := mod_bd fr 2000 (by omega)
  refine (mod_any fr 2000 _ (by omega) (by omega)).mono ?_
  rintro e wz ⟨rfl, rfl⟩
  generalize fr % 2000 = f at *
  go_wp2_with fail
  have hb_x := mod_bd a 20 (by omega)
  refine (mod_any a 20 _ (by omega) (by omega)).mono ?_
  rintro e wz ⟨rfl, rfl⟩
  generalize a % 20 = x at *
  go_wp2_with fail
  have hb_y := mod_bd b 30 (by omega)
  refine (mod_any b 30 _ (by omega) (by omega)).mono ?_
  rintro e wz ⟨rfl, rfl⟩
  generalize b % 30 = y at *
  go_wp2_with fail
  have hb_z := mod_bd cc 30 (by omega)
  refine (mod_any cc 30 _ (by omega) (by omega)).mono ?_
  rintro e wz ⟨rfl, rfl⟩
  generalize cc % 30 = z at *
  go_wp2_with fail
  obtain ⟨hn0, hpar⟩ := totV_parts (s := s) (x := f + x) (y := f + x + y) (z := f + x + y + 1 + z) hv (by omega) (by omega) (by omega) (by omega)
  obtain ⟨⟨t1, t2⟩, ht⟩ : ∃ v, totV L s (f + x) (f + x + y + 1 + z) = v := ⟨_, rfl⟩
  obtain ⟨⟨p1, p2⟩, hp⟩ : ∃ v, totV L s (f + x) (f + x + y) = v := ⟨_, rfl⟩
  obtain ⟨⟨q1, q2⟩, hq⟩ : ∃ v, totV L s (f + x + y + 1) (f + x + y + 1 + z) = v := ⟨_, rfl⟩
  rw [ht, hp, hq] at hpar
  have HT := Lib.hid ht
  have HP := Lib.hid hp
  have HQ := Lib.hid hq
  have HN0 := Lib.hid hn0
  have HPAR := Lib.hid hpar
  have bt : 0 ≤ p1 ∧ p1 ≤ 1000000000000 ∧ 0 ≤ q1 ∧ q1 ≤ 1000000000000 := by
    have hA := vldB_amts hv
    have key : ∀ f t : Int, ∀ a b : Int, totV L s f t = (a, b) → 0 ≤ a ∧ a ≤ 1000000000000 := fun f t a b e => by
      unfold totV at e
      split at e
      · injection e with e _; omega
      · split at e
        · injection e with e _; omega
        · injection e with e _
          have := (sumD_nn hA (by omega) s f (t + 1 - f).toNat).1
          omega
    have k1 := key _ _ _ _ hp
    have k2 := key _ _ _ _ hq
    omega
  obtain ⟨bt1, bt2, bt3, bt4⟩ := bt
  clear ht hp hq hn0 hpar hv
  refine (total_any s (f + x) (f + x + y + 1 + z) hd1 hm1 ⟨by omega, by omega⟩).mono ?_
  rintro e w2 ⟨rfl, hb2⟩
  have hd2 := hd1.below hb2
  have hbb2 := hbb1.trans (hb2.mono hbb1.size)
  clear hd1 hbb1 hb2
  rw [HT.out, pairI_mk]
  go_wp2_with fail
  refine (total_any s (f + x) (f + x + y) hd2 hm1 ⟨by omega, by omega⟩).mono ?_
  rintro e w3 ⟨rfl, hb3⟩
  have hd3 := hd2.below hb3
  have hbb3 := hbb2.trans (hb3.mono hbb2.size)
  clear hd2 hbb2 hb3
  rw [HP.out, pairI_mk]
  go_wp2_with fail
  refine (total_any s (f + x + y + 1) (f + x + y + 1 + z) hd3 hm1 ⟨by omega, by omega⟩).mono ?_
  rintro e w4 ⟨rfl, hb4⟩
  have hd4 := hd3.below hb4
  have hbb4 := hbb3.trans (hb4.mono hbb3.size)
  clear hd3 hbb3 hb4
  rw [HQ.out, pairI_mk]
  go_wp2_with fail
  refine (total_any s (f + x + y + 1) (f + x + y) hd4 hm1 ⟨by omega, by omega⟩).mono ?_
  rintro e w5 ⟨rfl, hb5⟩
  have hd5 := hd4.below hb5
  have hbb5 := hbb4.trans (hb5.mono hbb4.size)
  clear hd4 hbb4 hb5
  rw [HN0.out, pairI_mk]
  go_wp2_with fail
  refine (awake_any w5).mono ?_
  rintro e w6 ⟨rfl, hb6⟩
  have hd6 := hd5.below hb6
  have hbb6 := hbb5.trans (hb6.mono hbb5.size)
  clear hd5 hbb5 hb6
  rcases HPAR.out with h2 | ⟨h0, h1, h3, h4⟩
  · have e2 : t2 = 2 := h2
    subst e2
    go_wp2_with fail
    go_ret
    exact ⟨rfl, hbb6⟩
  · have e0 : t2 = 0 := h0
    have e1 : p2 = 0 := h1
    have e3 : q2 = 0 := h3
    have e4 : (t1 == p1 + q1) = true := beq_iff_eq.2 h4
    subst e0 e1 e3
    clear h0 h1 h3 h4
    go_wp2_with fail
    go_ret
    exact ⟨rfl, hbb6⟩
end Go.Proofs.Ytnjloghphkjcoaa

