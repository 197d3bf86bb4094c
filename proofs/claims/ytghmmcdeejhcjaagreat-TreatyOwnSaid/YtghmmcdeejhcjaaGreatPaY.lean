/- The hand's texts: digits, percent, Pick, version. -/
import Derived.Test.YtghmmcdeejhcjaaGreatQb
import Derived.Test.YtghmmcdeejhcjaaGreatSpA
namespace Go.Proofs.YtghmmcdeejhcjaaGreat
open Go.RowKit

/-- Some string of at most so many bytes; the world stands. -/
def RetSz (N : Nat) (w : World) (e : Ending) (w' : World) : Prop := ∃ s : ByteArray, e = .returned (.string s) ∧ s.size ≤ N ∧ w = w'
theorem lit_size (a : Array UInt8) : (ByteArray.mk a).size = a.size := rfl
theorem ext_size (s : ByteArray) (a b : Nat) (h : a + 1 = b) : (s.extract a b).size ≤ 1 := by rw [ByteArray.size_extract]; omega
set_option maxHeartbeats 2000000 in
theorem hdig_any {x : Int} (h0 : 0 ≤ x) (h1 : x ≤ 9000) (w : World) : Calls Tryz.prog 28 #[.int .i64 x] w fun e w' => (∃ s : ByteArray, e = .returned (.string s) ∧ 9 * (s.size : Int) ≤ x + 9) ∧ w = w' := by
  obtain ⟨n, rfl⟩ : ∃ n : Nat, x = (n : Int) := ⟨x.toNat, by omega⟩
  go_enter Tryz.func28, Tryz.ntmps28
  go_wp2_with fail
  go_loop [0, 3] (fun i v => ∃ (k : Nat) (s : ByteArray), 9 * s.size + k ≤ n ∧ i = .int .i64 (k : Int) ∧ v = .string s) (fun i _ => (intOf i).toNat)
  case atStart => exact ⟨n, ⟨#[]⟩, by rw [lit_size]; simp, rfl, rfl⟩
  case round =>
    obtain ⟨k, s, hk, rfl, rfl⟩ := hrel
    have m0 : k % 10 < 10 := Nat.mod_lt _ (by omega)
    have m1 : k / 10 ≤ k := Nat.div_le_self _ _
    have m2 : (k : Int).tmod 10 = ((k % 10 : Nat) : Int) := by rw [Int.tmod_eq_emod_of_nonneg (by omega)]; omega
    have m3 : (k : Int).tdiv 10 = ((k / 10 : Nat) : Int) := by rw [Int.tdiv_eq_ediv_of_nonneg (by omega)]; omega
    by_cases hlt : 9 < k
    · have d0 : decide (9 < (k : Int)) = true := decide_eq_true (by omega)
      have m4 : 9 + k / 10 ≤ k := by omega
      go_wp2_with fail
      go_round
      case rel => exact ⟨k / 10, _, by rw [ByteArray.size_append]; have := ext_size ⟨#[48, 49, 50, 51, 52, 53, 54, 55, 56, 57]⟩ (k % 10) (k % 10 + 1) rfl; omega, by go_num, rfl⟩
      case measure => simp [intOf]; omega
    · have d0 : decide (9 < (k : Int)) = false := decide_eq_false (by omega)
      go_wp2_with fail
      go_ret
      exact ⟨⟨_, rfl, by rw [ByteArray.size_append]; have := ext_size ⟨#[48, 49, 50, 51, 52, 53, 54, 55, 56, 57]⟩ k (k + 1) rfl; omega⟩, rfl⟩
set_option maxHeartbeats 2000000 in
theorem hpct_any {x : Int} (h0 : 0 ≤ x) (h1 : x ≤ 1000) (w : World) : Calls Tryz.prog 44 #[.int .i64 x] w fun e w' => (∃ s : ByteArray, e = .returned (.string s) ∧ (s.size : Int) ≤ 10) ∧ w = w' := by
  have a1 : x.tdiv 100 = x / 100 := Int.tdiv_eq_ediv_of_nonneg h0
  have a2 : x.tdiv 10 = x / 10 := Int.tdiv_eq_ediv_of_nonneg h0
  have a3 : (x / 10).tmod 10 = x / 10 % 10 := Int.tmod_eq_emod_of_nonneg (by omega)
  have a4 : x.tmod 10 = x % 10 := Int.tmod_eq_emod_of_nonneg h0
  go_enter Tryz.func44, Tryz.ntmps44
  go_wp2_with fail
  refine (hdig_any (by omega) (by omega) _).mono ?_
  rintro e w1 ⟨⟨s1, rfl, b1⟩, rfl⟩
  go_wp2_with fail
  refine (hdig_any (by omega) (by omega) _).mono ?_
  rintro e w1 ⟨⟨s2, rfl, b2⟩, rfl⟩
  go_wp2_with fail
  refine (hdig_any (by omega) (by omega) _).mono ?_
  rintro e w1 ⟨⟨s3, rfl, b3⟩, rfl⟩
  go_wp2_with fail
  go_ret
  exact ⟨⟨_, rfl, by simp only [ByteArray.size_append, lit_size, List.size_toArray, List.length_cons, List.length_nil]; omega⟩, rfl⟩
theorem hmod_any {n m : Int} (h1 : 1 ≤ m) (h2 : m ≤ 100000) (w : World) : Calls Tryz.prog 12 #[.int .i64 n, .int .i64 m] w fun e w' => (∃ z : Int, e = .returned (.int .i64 z) ∧ n % m = z ∧ 0 ≤ z ∧ z < m) ∧ w = w' := by
  have g1 := Int.lt_tmod_of_pos n (show 0 < m by omega)
  have g2 := Int.tmod_lt_of_pos n (show 0 < m by omega)
  have c1 := Int.emod_nonneg n (show m ≠ 0 by omega)
  have c2 := Int.emod_lt_of_pos n (show 0 < m by omega)
  have hs := tmod_split n m
  have hm0 : (m == 0) = false := beq_eq_false_iff_ne.2 (by omega)
  by_cases hn : n.tmod m < 0
  · have hv : n % m = n.tmod m + m := by
      rw [hs, ← Int.add_emod_right, Int.emod_eq_of_lt (by omega) (by omega)]
    rw [hv] at c1 c2
    have HV := Lib.hid hv
    clear hs hv
    go_enter Tryz.func12, Tryz.ntmps12
    go_wp2
    go_ret
    exact ⟨⟨_, rfl, HV.out, c1, c2⟩, rfl⟩
  · have hv : n % m = n.tmod m := by rw [hs, Int.emod_eq_of_lt (by omega) (by omega)]
    rw [hv] at c1 c2
    have HV := Lib.hid hv
    clear hs hv
    go_enter Tryz.func12, Tryz.ntmps12
    go_wp2
    go_ret
    exact ⟨⟨_, rfl, HV.out, c1, c2⟩, rfl⟩
set_option maxRecDepth 100000 in
set_option maxHeartbeats 4000000 in
theorem hpick_any {A : Option Addr} {m c : Nat} {l : List Int} {w : World} (h : Rd w w.heap.size 1 A m (ints l)) (hm : m ≤ 100000) (i : Int) : Calls Tryz.prog 13 #[.slice A m c, .int .i64 i] w fun e w' => (∃ v : Int, e = .returned (.int .i64 v)) ∧ w = w' := by
  have hl := h.len1
  by_cases h0 : m = 0
  · subst h0
    go_enter Tryz.func13, Tryz.ntmps13
    go_wp2_with fail
    go_ret
    exact ⟨⟨0, rfl⟩, rfl⟩
  · have hm0 : ((m : Int) == 0) = false := beq_eq_false_iff_ne.2 (by omega)
    go_enter Tryz.func13, Tryz.ntmps13
    go_wp2_with fail
    refine (hmod_any (by omega) (by omega) _).mono ?_
    rintro e w1 ⟨⟨z, rfl, -, g1, g2⟩, rfl⟩
    obtain ⟨k, rfl⟩ : ∃ k : Nat, z = (k : Int) := ⟨z.toNat, by omega⟩
    obtain ⟨x, hx⟩ : ∃ x, l[k]? = some x := ⟨_, List.getElem?_eq_getElem (by omega)⟩
    obtain ⟨_, b, o, rfl, hbl, hc⟩ := h.int hx
    clear hx hl
    go_wp2_with fail
    go_ret
    exact ⟨⟨x, rfl⟩, rfl⟩
set_option maxRecDepth 100000 in
set_option maxHeartbeats 16000000 in
theorem hver_any {A : Option Addr} {m c : Nat} {l : List Int} {w : World} (h : Rd w w.heap.size 1 A m (ints l)) (hm : m ≤ 100000) (F : ByteArray) (hF : F.size ≤ 20) {x : Int} (hx0 : 0 ≤ x) (hx1 : x ≤ 1000) : Calls Tryz.prog 29 #[.string F, .slice A m c, .int .i64 x] w (RetSz 3000 w) := by
  go_enter Tryz.func29, Tryz.ntmps29
  go_wp2_with fail
  refine (hpick_any h hm _).mono ?_
  rintro e w1 ⟨⟨p, rfl⟩, rfl⟩
  go_wp2_with fail
  refine (hmod_any (by omega) (by omega) _).mono ?_
  rintro e w1 ⟨⟨zy, rfl, -, zya, zyb⟩, rfl⟩
  go_wp2_with fail
  refine (hdig_any (by omega) (by omega) _).mono ?_
  rintro e w1 ⟨⟨dy, rfl, dyb⟩, rfl⟩
  go_wp2_with fail
  refine (hpick_any h hm _).mono ?_
  rintro e w1 ⟨⟨p, rfl⟩, rfl⟩
  go_wp2_with fail
  refine (hmod_any (by omega) (by omega) _).mono ?_
  rintro e w1 ⟨⟨zm, rfl, -, zma, zmb⟩, rfl⟩
  go_upto_block 0 with (fail)
  go_cut [8] from 23 to 36 (fun v wx => ∃ S : ByteArray, v = .string S ∧ S.size ≤ 100 ∧ w = wx)
  case first =>
    rcases (show zm = 0 ∨ zm = 1 ∨ zm = 2 ∨ zm = 3 by omega) with rfl | rfl | rfl | rfl
    all_goals
      go_wp2_with fail
      go_meet
      exact ⟨_, rfl, by first | omega | (simp only [ByteArray.size_append, lit_size, List.size_toArray, List.length_cons, List.length_nil]; omega), rfl⟩
  case rest =>
   obtain ⟨S, rfl, hS, rfl⟩ := hcut
   go_upto_region 11 with (fail)
   go_cut [8] from 37 to 47 (fun v wx => ∃ S : ByteArray, v = .string S ∧ S.size ≤ 300 ∧ w = wx)
   case first =>
     go_wp2_with fail
     refine (hpick_any h hm _).mono ?_
     rintro e w1 ⟨⟨p, rfl⟩, rfl⟩
     go_wp2_with fail
     refine (hmod_any (by omega) (by omega) _).mono ?_
     rintro e w1 ⟨⟨z0, rfl, -, z0a, z0b⟩, rfl⟩
     go_wp2_with fail
     refine (hdig_any (by omega) (by omega) _).mono ?_
     rintro e w1 ⟨⟨d0, rfl, d0b⟩, rfl⟩
     go_wp2_with fail
     go_meet
     exact ⟨_, rfl, by first | omega | (simp only [ByteArray.size_append, lit_size, List.size_toArray, List.length_cons, List.length_nil]; omega), rfl⟩
   case rest =>
    obtain ⟨S, rfl, hS, rfl⟩ := hcut
    go_wp2_with fail
    refine (hpick_any h hm _).mono ?_
    rintro e w1 ⟨⟨p, rfl⟩, rfl⟩
    go_wp2_with fail
    refine (hmod_any (by omega) (by omega) _).mono ?_
    rintro e w1 ⟨⟨z, rfl, -, za, zb⟩, rfl⟩
    obtain ⟨kb, hkb⟩ : ∃ b, decide (0 < z) = b := ⟨_, rfl⟩
    go_upto_if 53 with (fail)
    clear hkb
    go_cut [8] from 54 to 64 (fun v wx => ∃ S : ByteArray, v = .string S ∧ S.size ≤ 500 ∧ w = wx)
    case first =>
      cases kb
      ·
        go_wp2_with fail
        go_meet
        exact ⟨_, rfl, by first | omega | (simp only [ByteArray.size_append, lit_size, List.size_toArray, List.length_cons, List.length_nil]; omega), rfl⟩
      ·
        go_wp2_with fail
        refine (hpick_any h hm _).mono ?_
        rintro e w1 ⟨⟨p, rfl⟩, rfl⟩
        go_wp2_with fail
        refine (hmod_any (by omega) (by omega) _).mono ?_
        rintro e w1 ⟨⟨z0, rfl, -, z0a, z0b⟩, rfl⟩
        go_wp2_with fail
        refine (hdig_any (by omega) (by omega) _).mono ?_
        rintro e w1 ⟨⟨d0, rfl, d0b⟩, rfl⟩
        go_wp2_with fail
        go_meet
        exact ⟨_, rfl, by first | omega | (simp only [ByteArray.size_append, lit_size, List.size_toArray, List.length_cons, List.length_nil]; omega), rfl⟩
    case rest =>
     obtain ⟨S, rfl, hS, rfl⟩ := hcut
     go_wp2_with fail
     refine (hpick_any h hm _).mono ?_
     rintro e w1 ⟨⟨p, rfl⟩, rfl⟩
     go_wp2_with fail
     refine (hmod_any (by omega) (by omega) _).mono ?_
     rintro e w1 ⟨⟨z, rfl, -, za, zb⟩, rfl⟩
     obtain ⟨kb, hkb⟩ : ∃ b, (z == 0) = b := ⟨_, rfl⟩
     go_upto_if 70 with (fail)
     clear hkb
     go_cut [8] from 71 to 72 (fun v wx => ∃ S : ByteArray, v = .string S ∧ S.size ≤ 600 ∧ w = wx)
     case first =>
       cases kb
       ·
         go_wp2_with fail
         go_meet
         exact ⟨_, rfl, by first | omega | (simp only [ByteArray.size_append, lit_size, List.size_toArray, List.length_cons, List.length_nil]; omega), rfl⟩
       ·
         go_wp2_with fail
         go_meet
         exact ⟨_, rfl, by first | omega | (simp only [ByteArray.size_append, lit_size, List.size_toArray, List.length_cons, List.length_nil]; omega), rfl⟩
     case rest =>
      obtain ⟨S, rfl, hS, rfl⟩ := hcut
      go_upto_region 16 with (fail)
      go_cut [8] from 73 to 92 (fun v wx => ∃ S : ByteArray, v = .string S ∧ S.size ≤ 700 ∧ w = wx)
      case first =>
        go_wp2_with fail
        refine (hpick_any h hm _).mono ?_
        rintro e w1 ⟨⟨p, rfl⟩, rfl⟩
        go_wp2_with fail
        refine (hmod_any (by omega) (by omega) _).mono ?_
        rintro e w1 ⟨⟨z0, rfl, -, z0a, z0b⟩, rfl⟩
        go_wp2_with fail
        refine (hpct_any (by omega) (by omega) _).mono ?_
        rintro e w1 ⟨⟨d0, rfl, d0b⟩, rfl⟩
        go_wp2_with fail
        refine (hpick_any h hm _).mono ?_
        rintro e w1 ⟨⟨p, rfl⟩, rfl⟩
        go_wp2_with fail
        refine (hmod_any (by omega) (by omega) _).mono ?_
        rintro e w1 ⟨⟨z1, rfl, -, z1a, z1b⟩, rfl⟩
        go_wp2_with fail
        refine (hpct_any (by omega) (by omega) _).mono ?_
        rintro e w1 ⟨⟨d1, rfl, d1b⟩, rfl⟩
        go_wp2_with fail
        go_meet
        exact ⟨_, rfl, by first | omega | (simp only [ByteArray.size_append, lit_size, List.size_toArray, List.length_cons, List.length_nil]; omega), rfl⟩
      case rest =>
       obtain ⟨S, rfl, hS, rfl⟩ := hcut
       go_upto_region 17 with (fail)
       go_cut [8] from 93 to 106 (fun v wx => ∃ S : ByteArray, v = .string S ∧ S.size ≤ 900 ∧ w = wx)
       case first =>
         go_wp2_with fail
         refine (hpick_any h hm _).mono ?_
         rintro e w1 ⟨⟨p, rfl⟩, rfl⟩
         go_wp2_with fail
         refine (hmod_any (by omega) (by omega) _).mono ?_
         rintro e w1 ⟨⟨z0, rfl, -, z0a, z0b⟩, rfl⟩
         go_wp2_with fail
         refine (hpct_any (by omega) (by omega) _).mono ?_
         rintro e w1 ⟨⟨d0, rfl, d0b⟩, rfl⟩
         go_wp2_with fail
         go_meet
         exact ⟨_, rfl, by first | omega | (simp only [ByteArray.size_append, lit_size, List.size_toArray, List.length_cons, List.length_nil]; omega), rfl⟩
       case rest =>
        obtain ⟨S, rfl, hS, rfl⟩ := hcut
        go_upto_region 18 with (fail)
        go_cut [8] from 107 to 133 (fun v wx => ∃ S : ByteArray, v = .string S ∧ S.size ≤ 1800 ∧ w = wx)
        case first =>
          go_wp2_with fail
          refine (hpick_any h hm _).mono ?_
          rintro e w1 ⟨⟨p, rfl⟩, rfl⟩
          go_wp2_with fail
          refine (hmod_any (by omega) (by omega) _).mono ?_
          rintro e w1 ⟨⟨z0, rfl, -, z0a, z0b⟩, rfl⟩
          go_wp2_with fail
          refine (hdig_any (by omega) (by omega) _).mono ?_
          rintro e w1 ⟨⟨d0, rfl, d0b⟩, rfl⟩
          go_wp2_with fail
          refine (hpick_any h hm _).mono ?_
          rintro e w1 ⟨⟨p, rfl⟩, rfl⟩
          go_wp2_with fail
          refine (hmod_any (by omega) (by omega) _).mono ?_
          rintro e w1 ⟨⟨z1, rfl, -, z1a, z1b⟩, rfl⟩
          go_wp2_with fail
          refine (hdig_any (by omega) (by omega) _).mono ?_
          rintro e w1 ⟨⟨d1, rfl, d1b⟩, rfl⟩
          go_wp2_with fail
          refine (hpick_any h hm _).mono ?_
          rintro e w1 ⟨⟨p, rfl⟩, rfl⟩
          go_wp2_with fail
          refine (hmod_any (by omega) (by omega) _).mono ?_
          rintro e w1 ⟨⟨z2, rfl, -, z2a, z2b⟩, rfl⟩
          go_wp2_with fail
          refine (hdig_any (by omega) (by omega) _).mono ?_
          rintro e w1 ⟨⟨d2, rfl, d2b⟩, rfl⟩
          go_wp2_with fail
          go_meet
          exact ⟨_, rfl, by first | omega | (simp only [ByteArray.size_append, lit_size, List.size_toArray, List.length_cons, List.length_nil]; omega), rfl⟩
        case rest =>
         obtain ⟨S, rfl, hS, rfl⟩ := hcut
         go_upto_region 19 with (fail)
         go_cut [8] from 134 to 152 (fun v wx => ∃ S : ByteArray, v = .string S ∧ S.size ≤ 2100 ∧ w = wx)
         case first =>
           go_wp2_with fail
           refine (hpick_any h hm _).mono ?_
           rintro e w1 ⟨⟨p, rfl⟩, rfl⟩
           go_wp2_with fail
           refine (hmod_any (by omega) (by omega) _).mono ?_
           rintro e w1 ⟨⟨z0, rfl, -, z0a, z0b⟩, rfl⟩
           go_wp2_with fail
           refine (hdig_any (by omega) (by omega) _).mono ?_
           rintro e w1 ⟨⟨d0, rfl, d0b⟩, rfl⟩
           go_wp2_with fail
           refine (hpick_any h hm _).mono ?_
           rintro e w1 ⟨⟨p, rfl⟩, rfl⟩
           go_wp2_with fail
           refine (hmod_any (by omega) (by omega) _).mono ?_
           rintro e w1 ⟨⟨z1, rfl, -, z1a, z1b⟩, rfl⟩
           go_wp2_with fail
           refine (hpct_any (by omega) (by omega) _).mono ?_
           rintro e w1 ⟨⟨d1, rfl, d1b⟩, rfl⟩
           go_wp2_with fail
           go_meet
           exact ⟨_, rfl, by first | omega | (simp only [ByteArray.size_append, lit_size, List.size_toArray, List.length_cons, List.length_nil]; omega), rfl⟩
         case rest =>
          obtain ⟨S, rfl, hS, rfl⟩ := hcut
          go_wp2_with fail
          refine (hpick_any h hm _).mono ?_
          rintro e w1 ⟨⟨p, rfl⟩, rfl⟩
          go_wp2_with fail
          refine (hmod_any (by omega) (by omega) _).mono ?_
          rintro e w1 ⟨⟨z, rfl, -, za, zb⟩, rfl⟩
          obtain ⟨kb, hkb⟩ : ∃ b, decide (0 < z) = b := ⟨_, rfl⟩
          go_upto_if 158 with (fail)
          clear hkb
          go_cut [8] from 159 to 160 (fun v wx => ∃ S : ByteArray, v = .string S ∧ S.size ≤ 2200 ∧ w = wx)
          case first =>
            cases kb
            ·
              go_wp2_with fail
              go_meet
              exact ⟨_, rfl, by first | omega | (simp only [ByteArray.size_append, lit_size, List.size_toArray, List.length_cons, List.length_nil]; omega), rfl⟩
            ·
              go_wp2_with fail
              go_meet
              exact ⟨_, rfl, by first | omega | (simp only [ByteArray.size_append, lit_size, List.size_toArray, List.length_cons, List.length_nil]; omega), rfl⟩
          case rest =>
           obtain ⟨S, rfl, hS, rfl⟩ := hcut
           go_upto_region 22 with (fail)
           go_cut [8] from 161 to 179 (fun v wx => ∃ S : ByteArray, v = .string S ∧ S.size ≤ 2400 ∧ w = wx)
           case first =>
             go_wp2_with fail
             refine (hpick_any h hm _).mono ?_
             rintro e w1 ⟨⟨p, rfl⟩, rfl⟩
             go_wp2_with fail
             refine (hmod_any (by omega) (by omega) _).mono ?_
             rintro e w1 ⟨⟨z0, rfl, -, z0a, z0b⟩, rfl⟩
             go_wp2_with fail
             refine (hdig_any (by omega) (by omega) _).mono ?_
             rintro e w1 ⟨⟨d0, rfl, d0b⟩, rfl⟩
             go_wp2_with fail
             refine (hpick_any h hm _).mono ?_
             rintro e w1 ⟨⟨p, rfl⟩, rfl⟩
             go_wp2_with fail
             refine (hmod_any (by omega) (by omega) _).mono ?_
             rintro e w1 ⟨⟨z1, rfl, -, z1a, z1b⟩, rfl⟩
             go_wp2_with fail
             refine (hdig_any (by omega) (by omega) _).mono ?_
             rintro e w1 ⟨⟨d1, rfl, d1b⟩, rfl⟩
             go_wp2_with fail
             go_meet
             exact ⟨_, rfl, by first | omega | (simp only [ByteArray.size_append, lit_size, List.size_toArray, List.length_cons, List.length_nil]; omega), rfl⟩
           case rest =>
            obtain ⟨S, rfl, hS, rfl⟩ := hcut
            go_upto_region 23 with (fail)
            go_cut [8] from 180 to 189 (fun v wx => ∃ S : ByteArray, v = .string S ∧ S.size ≤ 2550 ∧ w = wx)
            case first =>
              go_wp2_with fail
              refine (hpick_any h hm _).mono ?_
              rintro e w1 ⟨⟨p, rfl⟩, rfl⟩
              go_wp2_with fail
              refine (hmod_any (by omega) (by omega) _).mono ?_
              rintro e w1 ⟨⟨z0, rfl, -, z0a, z0b⟩, rfl⟩
              go_wp2_with fail
              refine (hdig_any (by omega) (by omega) _).mono ?_
              rintro e w1 ⟨⟨d0, rfl, d0b⟩, rfl⟩
              go_wp2_with fail
              go_meet
              exact ⟨_, rfl, by first | omega | (simp only [ByteArray.size_append, lit_size, List.size_toArray, List.length_cons, List.length_nil]; omega), rfl⟩
            case rest =>
             obtain ⟨S, rfl, hS, rfl⟩ := hcut
             go_wp2_with fail
             refine (hpick_any h hm _).mono ?_
             rintro e w1 ⟨⟨p, rfl⟩, rfl⟩
             go_wp2_with fail
             refine (hmod_any (by omega) (by omega) _).mono ?_
             rintro e w1 ⟨⟨z, rfl, -, za, zb⟩, rfl⟩
             obtain ⟨kb, hkb⟩ : ∃ b, decide (0 < z) = b := ⟨_, rfl⟩
             go_upto_if 195 with (fail)
             clear hkb
             go_cut [8] from 196 to 206 (fun v wx => ∃ S : ByteArray, v = .string S ∧ S.size ≤ 2650 ∧ w = wx)
             case first =>
               cases kb
               ·
                 go_wp2_with fail
                 go_meet
                 exact ⟨_, rfl, by first | omega | (simp only [ByteArray.size_append, lit_size, List.size_toArray, List.length_cons, List.length_nil]; omega), rfl⟩
               ·
                 go_wp2_with fail
                 refine (hpick_any h hm _).mono ?_
                 rintro e w1 ⟨⟨p, rfl⟩, rfl⟩
                 go_wp2_with fail
                 refine (hmod_any (by omega) (by omega) _).mono ?_
                 rintro e w1 ⟨⟨z0, rfl, -, z0a, z0b⟩, rfl⟩
                 go_wp2_with fail
                 refine (hpct_any (by omega) (by omega) _).mono ?_
                 rintro e w1 ⟨⟨d0, rfl, d0b⟩, rfl⟩
                 go_wp2_with fail
                 go_meet
                 exact ⟨_, rfl, by first | omega | (simp only [ByteArray.size_append, lit_size, List.size_toArray, List.length_cons, List.length_nil]; omega), rfl⟩
             case rest =>
              obtain ⟨S, rfl, hS, rfl⟩ := hcut
              go_wp2_with fail
              refine (hpick_any h hm _).mono ?_
              rintro e w1 ⟨⟨p, rfl⟩, rfl⟩
              go_wp2_with fail
              refine (hmod_any (by omega) (by omega) _).mono ?_
              rintro e w1 ⟨⟨z, rfl, -, za, zb⟩, rfl⟩
              obtain ⟨kb, hkb⟩ : ∃ b, (z == 0) = b := ⟨_, rfl⟩
              go_upto_if 212 with (fail)
              clear hkb
              go_cut [8] from 213 to 214 (fun v wx => ∃ S : ByteArray, v = .string S ∧ S.size ≤ 2750 ∧ w = wx)
              case first =>
                cases kb
                ·
                  go_wp2_with fail
                  go_meet
                  exact ⟨_, rfl, by first | omega | (simp only [ByteArray.size_append, lit_size, List.size_toArray, List.length_cons, List.length_nil]; omega), rfl⟩
                ·
                  go_wp2_with fail
                  go_meet
                  exact ⟨_, rfl, by first | omega | (simp only [ByteArray.size_append, lit_size, List.size_toArray, List.length_cons, List.length_nil]; omega), rfl⟩
              case rest =>
               obtain ⟨S, rfl, hS, rfl⟩ := hcut
               go_wp2_with fail
               go_ret
               exact ⟨_, rfl, by first | omega | (simp only [ByteArray.size_append, lit_size, List.size_toArray, List.length_cons, List.length_nil]; omega), rfl⟩
set_option maxRecDepth 100000 in
set_option maxHeartbeats 8000000 in
theorem htext_any {A : Option Addr} {m c : Nat} {l : List Int} {w : World} (h : Rd w w.heap.size 1 A m (ints l)) (hm : m ≤ 100000) {x : Int} (hx0 : 0 ≤ x) (hx1 : x ≤ 2) : Calls Tryz.prog 11 #[.int .i64 x, .slice A m c] w fun e w' => (∃ s : ByteArray, e = .returned (.string s) ∧ s.size ≤ 10000) ∧ Below w.heap.size w w' := by
  go_enter Tryz.func11, Tryz.ntmps11
  go_upto_region 2 with (fail)
  obtain ⟨W, hW⟩ : ∃ W, W = w.alloc (.cells #[.string ⟨#[97, 108, 98, 97]⟩, .string ⟨#[98, 111, 114, 97]⟩, .string ⟨#[99, 101, 100, 97, 114]⟩] 82) := ⟨_, rfl⟩
  have hrow : W.heap[w.heap.size]? = some (.cells #[.string ⟨#[97, 108, 98, 97]⟩, .string ⟨#[98, 111, 114, 97]⟩, .string ⟨#[99, 101, 100, 97, 114]⟩] 82 (0, 0)) := by rw [hW]; exact heap_alloc_new w _
  have hbW : Below w.heap.size w W := by rw [hW]; exact (Below.refl _ _).alloc (Nat.le_refl _) _
  rw [← hW]
  clear hW
  have hd : Rd W.drew W.drew.heap.size 1 A m (ints l) := (h.below hbW.drew).mono hbW.size
  have hbd : Below w.heap.size w W.drew := hbW.drew
  have hn : ∃ N : ByteArray, W.cell? ⟨w.heap.size, x.toNat, none⟩ = some (.string N) ∧ N.size ≤ 5 := by
    rcases (show x = 0 ∨ x = 1 ∨ x = 2 by omega) with rfl | rfl | rfl
    · exact ⟨⟨#[97, 108, 98, 97]⟩, by rw [cell_of_row _ _ _ _ _ _ hrow]; rfl, by decide⟩
    · exact ⟨⟨#[98, 111, 114, 97]⟩, by rw [cell_of_row _ _ _ _ _ _ hrow]; rfl, by decide⟩
    · exact ⟨⟨#[99, 101, 100, 97, 114]⟩, by rw [cell_of_row _ _ _ _ _ _ hrow]; rfl, by decide⟩
  obtain ⟨N, hN, hN5⟩ := hn
  obtain ⟨k, rfl⟩ : ∃ k : Nat, x = (k : Int) := ⟨x.toNat, by omega⟩
  have hk3 : (k : Int) < 3 := by omega
  rw [Int.toNat_natCast] at hN
  have k1 : IntKind.i64.wrap (1 + (k : Int)) = 1 + (k : Int) := IntWalk.i64_in _ (by omega)
  have k7 : IntKind.i64.wrap (7 * (k : Int)) = 7 * (k : Int) := IntWalk.i64_in _ (by omega)
  clear h hrow
  go_cut [6] from 8 to 22 (fun v wx => ∃ S : ByteArray, v = .string S ∧ S.size ≤ 3200 ∧ Below w.heap.size w wx ∧ Rd wx wx.heap.size 1 A m (ints l))
  case first =>
    go_region_with (first
        | (go_at_call 28; ((with_reducible refine (hdig_any (x := 1 + (k : Int)) (by omega) (by omega) _).mono ?_)); rintro e w2 ⟨⟨s1, rfl, b1⟩, rfl⟩)
        | (go_at_call 29; ((with_reducible refine (hver_any (w := W.drew) (x := 7 * (k : Int)) hd hm _ (by decide) (by omega) (by omega)).mono ?_)); rintro e w3 ⟨s2, rfl, b2, rfl⟩))
    all_goals (go_wp2_with fail; go_meet)
    all_goals exact ⟨_, rfl, by simp only [ByteArray.size_append, lit_size, List.size_toArray, List.length_cons, List.length_nil]; omega, hbd, hd⟩
  case rest =>
   obtain ⟨S, rfl, hS, hbx, hrx⟩ := hcut
   clear hd hbd hN hbW
   clear k1 k7
   go_wp2_with fail
   refine (hpick_any hrx hm _).mono ?_
   rintro e w1 ⟨⟨p, rfl⟩, rfl⟩
   go_wp2_with fail
   refine (hmod_any (by omega) (by omega) _).mono ?_
   rintro e w1 ⟨⟨z, rfl, -, za, zb⟩, rfl⟩
   obtain ⟨kb, hkb⟩ : ∃ b, decide (0 < z) = b := ⟨_, rfl⟩
   go_upto_if 28 with (fail)
   clear hkb
   go_cut [6] from 29 to 35 (fun v wx => ∃ S : ByteArray, v = .string S ∧ S.size ≤ 6200 ∧ wc = wx)
   case first =>
     cases kb
     · go_wp2_with fail
       go_meet
       exact ⟨_, rfl, by omega, rfl⟩
     · go_wp2_with fail
       refine (hver_any hrx hm _ (by decide) (by omega) (by omega)).mono ?_
       rintro e w1 ⟨s2, rfl, b2, rfl⟩
       go_wp2_with fail
       go_meet
       exact ⟨_, rfl, by simp only [ByteArray.size_append]; omega, rfl⟩
   case rest =>
    obtain ⟨S2, rfl, hS2, rfl⟩ := hcut
    go_wp2_with fail
    refine (hpick_any hrx hm _).mono ?_
    rintro e w1 ⟨⟨p, rfl⟩, rfl⟩
    go_wp2_with fail
    refine (hmod_any (by omega) (by omega) _).mono ?_
    rintro e w1 ⟨⟨z, rfl, -, za, zb⟩, rfl⟩
    obtain ⟨kb, hkb⟩ : ∃ b, (z == 0) = b := ⟨_, rfl⟩
    go_upto_if 41 with (fail)
    clear hkb
    go_cut [6] from 42 to 48 (fun v wx => ∃ S : ByteArray, v = .string S ∧ S.size ≤ 9200 ∧ wc = wx)
    case first =>
      cases kb
      · go_wp2_with fail
        go_meet
        exact ⟨_, rfl, by omega, rfl⟩
      · go_wp2_with fail
        refine (hver_any hrx hm _ (by decide) (by omega) (by omega)).mono ?_
        rintro e w1 ⟨s2, rfl, b2, rfl⟩
        go_wp2_with fail
        go_meet
        exact ⟨_, rfl, by simp only [ByteArray.size_append]; omega, rfl⟩
    case rest =>
     obtain ⟨S3, rfl, hS3, rfl⟩ := hcut
     go_wp2_with fail
     go_ret
     exact ⟨⟨_, rfl, by simp only [ByteArray.size_append, lit_size, List.size_toArray, List.length_cons, List.length_nil]; omega⟩, hbx⟩

end Go.Proofs.YtghmmcdeejhcjaaGreat
