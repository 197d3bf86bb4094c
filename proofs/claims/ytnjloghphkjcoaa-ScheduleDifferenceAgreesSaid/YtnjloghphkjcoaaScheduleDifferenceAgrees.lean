/- The walk of ScheduleDifferenceAgrees. -/
import Derived.Test.YtnjloghphkjcoaaScK
namespace Go.Proofs.Ytnjloghphkjcoaa
open Go.RowKit

set_option maxRecDepth 100000 in
set_option maxHeartbeats 4000000 in
theorem walkScheduleDifferenceAgrees (A : Option Addr) (n c : Nat) (xs : List Int) (A' : Option Addr) (n' c' : Nat) (ys : List Int) (fr st a b : Int) (w : World) (h : Rd w w.heap.size 3 A n (ints xs)) (hok : ∀ x ∈ xs, I64 x) (_ : n ≤ maxLen)
    (h' : Rd w w.heap.size 3 A' n' (ints ys)) (hok' : ∀ x ∈ ys, I64 x) (_ : n' ≤ maxLen) (_ : I64 fr) (_ : I64 st) (_ : I64 a) (_ : I64 b) :
    Calls Try.prog 10 #[.slice A n c, .slice A' n' c', .int .i64 fr, .int .i64 st, .int .i64 a, .int .i64 b] w fun e w' => e = .returned (.bool true) ∧ Below w.heap.size w w' := by
  go_enter Try.func10, Try.ntmps10
  go_wp2_with fail
  refine (rows_any fr h hok).mono ?_
  rintro e w1 ⟨A1, c1, L, rfl, hown, -, -, hl12, -, hb1, -⟩
  have hd1 := Dr.ofOwn hown rfl
  have h1' := (h'.below hb1).mono hb1.size
  clear h h' hown
  go_wp2_with fail
  refine (rows_any fr h1' hok').mono ?_
  rintro e w2 ⟨A2, c2, K, rfl, hown, -, -, hk12, -, hb2, -⟩
  have hk2 := Dr.ofOwn hown rfl
  have hd2 := hd1.below hb2
  have hbb2 := hb1.trans (hb2.mono hb1.size)
  clear hd1 h1' hb1 hb2 hown
  generalize hLn : L.length = n1 at *
  generalize hKn : K.length = n2 at *
  clear hLn hKn
  have hm1 : n1 ≤ maxLen := by unfold maxLen; omega
  have hm2 : n2 ≤ maxLen := by unfold maxLen; omega
  go_wp2_with fail
  have hb_s := mod_bd st 3 (by omega)
  refine (mod_any st 3 _ (by omega) (by omega)).mono ?_
  rintro e wz ⟨rfl, rfl⟩
  generalize st % 3 = s at *
  go_wp2_with fail
  have hb_f := mod_bd fr 2000 (by omega)
  refine (mod_any fr 2000 _ (by omega) (by omega)).mono ?_
  rintro e wz ⟨rfl, rfl⟩
  generalize fr % 2000 = f at *
  go_wp2_with fail
  have hb_x := mod_bd a 40 (by omega)
  refine (mod_any a 40 _ (by omega) (by omega)).mono ?_
  rintro e wz ⟨rfl, rfl⟩
  generalize a % 40 = x at *
  go_wp2_with fail
  have hb_y := mod_bd b 40 (by omega)
  refine (mod_any b 40 _ (by omega) (by omega)).mono ?_
  rintro e wz ⟨rfl, rfl⟩
  generalize b % 40 = y at *
  go_wp2_with fail
  have hdl := difL_length (l := L) (k := K) (s := s) (f := f + x) (t := f + x + y) (by omega) (by omega)
  obtain ⟨er, her⟩ : ∃ er, difE L K s (f + x) (f + x + y) = er := ⟨_, rfl⟩
  obtain ⟨M, hM⟩ : ∃ M, difL L K s (f + x) (f + x + y) = M := ⟨_, rfl⟩
  rw [hM] at hdl
  have HER := Lib.hid her
  have HM := Lib.hid hM
  clear her hM
  refine (dif_any s (f + x) (f + x + y) hd2 hk2 hm1 hm2).mono ?_
  intro e w3 hr
  rw [HER.out, HM.out] at hr
  obtain ⟨A3, c3, rfl, hc3, hb3⟩ := hr
  have hd3 := hd2.below hb3
  have hk3 := hk2.below hb3
  have hbb3 := hbb2.trans (hb3.mono hbb2.size)
  clear hd2 hk2 hbb2 hb3
  go_wp2_with fail
  refine (rdif_any s (f + x) (f + x + y) hd3 hk3 hm1 hm2).mono ?_
  intro e w4 hr
  rw [HER.out, HM.out] at hr
  obtain ⟨A4, c4, rfl, hc4, hb4⟩ := hr
  have hc34 := hc3.below hb4
  have hbb4 := hbb3.trans (hb4.mono hbb3.size)
  clear hd3 hk3 hbb3 hb4 hc3
  generalize hMl : M.length = m at *
  have HML := Lib.hid hMl
  clear hMl
  go_wp2_with fail
  refine (awake_any w4).mono ?_
  rintro e w5 ⟨rfl, hb5⟩
  have hc35 := hc34.below hb5
  have hc45 := hc4.below hb5
  have hbb5 := hbb4.trans (hb5.mono hbb4.size)
  clear hc34 hc4 hbb4 hb5
  go_wp2_with fail
  refine (same_ch hc35 hc45 (by omega)).mono ?_
  rintro e w6 ⟨rfl, hb6⟩
  go_wp2_with fail
  go_ret
  exact ⟨rfl, hbb5.trans (hb6.mono hbb5.size)⟩
end Go.Proofs.Ytnjloghphkjcoaa
