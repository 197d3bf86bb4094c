/- The walk of ScheduleEndIsTheDeath. -/
import Derived.Test.YtbogmkhoppffgaaFcV
import Derived.Test.YtbogmkhoppffgaaFcQ
import Derived.Test.YtbogmkhoppffgaaFcR
import Derived.Test.YtbogmkhoppffgaaScL
import Derived.Test.YtbogmkhoppffgaaFcOp
namespace Go.Proofs.Ytbogmkhoppffgaa
open Go.RowKit

theorem RetVs.open {w w' : World} {m : Nat} {e : Ending} (h : RetVs w m e w') : ∃ A n c, ∃ L : List Fc, e = .returned (.slice A n c) ∧ Hid (L.length = n) ∧ n ≤ m ∧ Hid (∀ x ∈ L, Vld x) ∧ w'.ownsRow w.heap.size 40 14 (.slice A n c) n (flat Fc.cells L) ∧ Below w.heap.size w w' := by
  obtain ⟨A, n, c, L, h1, h2, h3, h4, h5, h6⟩ := h
  exact ⟨A, n, c, L, h1, h2, h3, h4, h5, h6⟩
theorem apps_ok {L M : List Fc} (h : ∀ y ∈ L, Vld y) (h' : ∀ y ∈ M, Vld y) : ∀ y ∈ L ++ M, Vld y := by
  intro y hy
  rcases List.mem_append.1 hy with hy | hy
  · exact h y hy
  · exact h' y hy

set_option maxRecDepth 100000 in
set_option maxHeartbeats 8000000 in
theorem walkScheduleEndIsTheDeath (A : Option Addr) (n c : Nat) (xs : List Int) (B : Option Addr) (m d : Nat) (l : List Rf) (person : Int) (w : World) (h : Rd w w.heap.size 1 A n (ints xs)) (hn : n ≤ maxLen) (h' : Rd w w.heap.size 13 B m (flat Rf.cells l)) (hl : l.length = m) (hm : m ≤ maxLen) (_ : I64 person) :
    Calls Try.prog 3 #[.slice A n c, .slice B m d, .int .i64 person] w fun e w' => e = .returned (.bool true) ∧ Below w.heap.size w w' := by
  obtain ⟨i0, hi0, hz0, hz1, hz2⟩ := info_parts info_fact
  unfold maxLen at hn hm
  have HLL := Lib.hid hl
  clear hl
  go_enter Try.func3, Try.ntmps3
  go_wp2_with fail
  refine (lives_any h hn).mono ?_
  rintro e w1 hr1
  obtain ⟨A1, n1, c1, L1, rfl, HL1, hn1, HV1, own1, hb1⟩ := hr1.open
  have hsz1 := hb1.size
  clear hr1 h
  go_wp2_with fail
  refine (facts_any ((h'.below hb1).mono hsz1) HLL.out hm).mono ?_
  rintro e w2 hr2
  obtain ⟨A2, n2, c2, L2, rfl, HL2, hn2, HV2, own2, hb2⟩ := hr2.open
  have own1' := own_underF own1 hb2
  have hb12 := hb1.trans (hb2.mono hsz1)
  have hsz2 := hb2.size
  have hsz12 := hb12.size
  have hrd2 : Rd w2 w2.heap.size 14 A2 n2 (flat Fc.cells L2) := Rd.ofOwn own2
  clear hr2 h' hb1 hb2 own1 own2
  go_upto_region 2 with (at_builtin; go_loud (refine wpList_append_rd (by rfl) (.tmp 13) (.tmp 15) 24 (by rfl) w.heap.size 40 i0 _ 14 112 Try.underlying24 hi0 hz0 hz1 hz2 rfl (by omega) (.slice A1 n1 c1) n1 (flat Fc.cells L1) (by rfl) own1' w2.heap.size A2 n2 c2 (flat Fc.cells L2) (by rfl) hrd2 (cells_oneF L2) (by unfold maxLen; omega) (by omega) hsz12 ?_); intro v3 w3 hown3 hg3 hat3)
  have hb3 := hb12.grown hg3 hsz12 (fun g e => (own1'.lt g e).1)
  obtain ⟨A3, c3, rfl, _, _, _⟩ := own_form hown3
  obtain ⟨L, hL⟩ : ∃ L, L = L1 ++ L2 := ⟨_, rfl⟩
  obtain ⟨N, hN⟩ : ∃ N, N = n1 + n2 := ⟨_, rfl⟩
  rw [← flat_append, ← hL, ← hN] at hown3
  rw [← hN]
  have HL : Hid (L.length = N) := Lib.hid (by rw [hL, hN, List.length_append, HL1.out, HL2.out])
  have HV : Hid (∀ x ∈ L, Vld x) := Lib.hid (by rw [hL]; exact apps_ok HV1.out HV2.out)
  have hNN : N ≤ 27 := by omega
  have hsz3 := hb3.size
  clear hL hN hn1 hn2 HL1 HL2 HV1 HV2 hg3 hat3 own1' hrd2 hb12 hsz1 hsz2 hsz12
  go_wp2_with fail
  refine (mod_any person 5 _ (by omega) (by omega)).mono ?_
  rintro e z1 ⟨rfl, rfl⟩
  generalize hq : person % 5 = q
  have hqb : 0 ≤ q ∧ q < 5 := by omega
  clear hq
  obtain ⟨p, hp⟩ : ∃ p, p = 1 + q := ⟨_, rfl⟩
  have hpb : 1 ≤ p ∧ p ≤ 5 := by omega
  have hw1 : IntKind.i64.wrap (1 + q) = p := by rw [hp]; exact IntWalk.i64_in _ (by omega)
  clear hp hqb
  have hw2 : IntKind.i64.wrap (99 + p) = 99 + p := IntWalk.i64_in _ (by omega)
  have hw3 : IntKind.i64.wrap (1 - p) = 1 - p := IntWalk.i64_in _ (by omega)
  obtain ⟨F, hF⟩ : ∃ F, firD 12 (ofP p (mrgF L)) = F := ⟨_, rfl⟩
  have HF := Lib.hid hF
  clear hF
  have hrd3 : Rd w3 w3.heap.size 14 A3 N (flat Fc.cells L) := Rd.ofOwn hown3
  clear hown3
  go_wp2_with fail
  refine (rmerge_any hrd3 HL.out HV.out (by omega)).mono ?_
  rintro e w4 hr4
  obtain ⟨A4, n4, c4, HL4, rfl, _, _, own4, hb4⟩ := hr4.open
  have hn4 : n4 ≤ N := by rw [← HL4.out, ← HL.out]; exact mrgF_le L
  go_wp2_with fail
  refine (rof_any p (Rd.ofOwn own4) HL4.out (by omega)).mono ?_
  rintro e w5 hr5
  obtain ⟨A5, n5, c5, HL5, rfl, _, _, own5, hb5⟩ := hr5.open
  have hn5 : n5 ≤ n4 := by rw [← HL5.out, ← HL4.out]; exact ofP_le p _
  have hb45 := hb4.trans (hb5.mono hb4.size)
  go_wp2_with fail
  refine (rdeath_any (Rd.ofOwn own5) HL5.out (vld_of p _ (vld_all L HV.out)) (by omega)).mono ?_
  rintro e w6 ⟨rfl, hb6⟩
  have hb46 := hb45.trans (hb6.mono hb45.size)
  rw [HF.out]
  have hb36 := hb3.trans (hb46.mono hsz3)
  have hrd6 := (hrd3.below hb46).mono hb46.size
  clear hr4 hr5 own4 own5 hb4 hb5 hb45 hb6 hb46 hrd3 hb3 hn4 hn5 HL4 HL5
  have hsz6 := hb36.size
  cases F with
  | none =>
    go_wp2_with fail
    refine (awake_any w6).mono ?_
    rintro e w8 ⟨rfl, hb8⟩
    have hb38 := hb36.trans (hb8.mono hb36.size)
    have hrd8 := (hrd6.below hb8).mono hb8.size
    have hsz8 := hb38.size
    clear hb8
    go_wp2_with fail
    refine (end_any p ⟨by omega, by omega⟩ hrd8 HL.out HV.out (by omega)).mono ?_
    rintro e w9 ⟨⟨m9, rfl, he9⟩, hb9⟩
    rw [HF.out] at he9
    obtain rfl : m9 = 2399 := endIs_unique he9 (show EndIs none 2399 from rfl)
    have hb39 := hb38.trans (hb9.mono hb38.size)
    clear hb9 he9 hrd8
    go_wp2_with fail
    refine (end_high (99 + p) (by omega) _).mono ?_
    rintro e z2 ⟨rfl, rfl⟩
    go_wp2_with fail
    refine (end_low (1 - p) (by omega) _).mono ?_
    rintro e z3 ⟨rfl, rfl⟩
    go_wp2_with fail
    go_ret
    exact ⟨rfl, hb39⟩
  | some dy =>
    have hd := firD_day (vld_of p _ (vld_all L HV.out)) HF.out
    obtain ⟨k, rfl⟩ : ∃ k : Nat, dy = (k : Int) := ⟨dy.toNat, by omega⟩
    go_wp2_with fail
    refine (rmonth_any k (by omega) _).mono ?_
    rintro e w7 ⟨⟨mm, rfl, g1, g2, g3⟩, rfl⟩
    have HE : Hid (EndIs (some (k : Int)) (mm : Int)) := Lib.hid ⟨mm, rfl, by rw [Int.toNat_natCast]; exact g2, by rw [Int.toNat_natCast]; exact g3⟩
    clear g2 g3
    go_wp2_with fail
    refine (awake_any w6).mono ?_
    rintro e w8 ⟨rfl, hb8⟩
    have hb38 := hb36.trans (hb8.mono hb36.size)
    have hrd8 := (hrd6.below hb8).mono hb8.size
    have hsz8 := hb38.size
    clear hb8
    go_wp2_with fail
    refine (end_any p ⟨by omega, by omega⟩ hrd8 HL.out HV.out (by omega)).mono ?_
    rintro e w9 ⟨⟨m9, rfl, he9⟩, hb9⟩
    rw [HF.out] at he9
    obtain rfl : m9 = (mm : Int) := endIs_unique he9 HE.out
    have hb39 := hb38.trans (hb9.mono hb38.size)
    clear hb9 he9 hrd8
    go_wp2_with fail
    refine (end_high (99 + p) (by omega) _).mono ?_
    rintro e z2 ⟨rfl, rfl⟩
    go_wp2_with fail
    refine (end_low (1 - p) (by omega) _).mono ?_
    rintro e z3 ⟨rfl, rfl⟩
    go_wp2_with fail
    go_ret
    exact ⟨rfl, hb39⟩
end Go.Proofs.Ytbogmkhoppffgaa
