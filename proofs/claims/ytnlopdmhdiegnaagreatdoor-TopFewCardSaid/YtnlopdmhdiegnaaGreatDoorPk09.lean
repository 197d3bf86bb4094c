/- Lemmas (no conditions): ClA, ClB, Tke, Tkf, Tkg -/
import Derived.Test.YtnlopdmhdiegnaaGreatDoorPk05
import Derived.Test.YtnlopdmhdiegnaaGreatDoorPk06
set_option linter.unusedSimpArgs false
set_option linter.unusedVariables false
set_option maxRecDepth 100000
set_option maxHeartbeats 64000000
namespace Go.Proofs.YtnlopdmhdiegnaaGreatDoor
open Go.RowKit
section
theorem tleap_any (y : Int) (h0 : 0 <= y) (w : World) : Calls Tryz.prog 195 #[.int .i64 y] w fun e w' => e = .returned (.bool (lpY y.toNat)) /\ w = w' := by
 have e4 : y.tmod 4 = y % 4 := Int.tmod_eq_emod_of_nonneg h0
 have e1 : y.tmod 100 = y % 100 := Int.tmod_eq_emod_of_nonneg h0
 have e2 : y.tmod 400 = y % 400 := Int.tmod_eq_emod_of_nonneg h0
 obtain ⟨b, hb⟩ : ∃ b, lpY y.toNat = b := ⟨_, rfl⟩
 rw [hb]
 unfold lpY at hb
 by_cases p4 : y % 4 = 0
 ·have b4 : (y % 4 == 0) = true := by simp [p4]
  by_cases p1 : y % 100 = 0
  ·have b1 : (y % 100 != 0) = false := by simp [p1]
   by_cases p2 : y % 400 = 0
   ·have b2 : (y % 400 == 0) = true := by simp [p2]
    have HB : Hid (b = true) := Lib.hid (by
     have q4 : y.toNat % 4 = 0 := by omega
     have q1 : y.toNat % 100 = 0 := by omega
     have q2 : y.toNat % 400 = 0 := by omega
     rw [<- hb]
     simp [q4, q1, q2] <;> omega)
    clear hb e4 e1 e2
    go_enter Tryz.func195, Tryz.ntmps195
    go_wp2_with fail
    go_ret
    exact ⟨by rw [HB.out]; rfl, rfl⟩
   ·have b2 : (y % 400 == 0) = false := by simp [p2]
    have HB : Hid (b = false) := Lib.hid (by
     have q4 : y.toNat % 4 = 0 := by omega
     have q1 : y.toNat % 100 = 0 := by omega
     have q2 : y.toNat % 400 ≠ 0 := by omega
     rw [<- hb]
     simp [q4, q1, q2] <;> omega)
    clear hb e4 e1 e2
    go_enter Tryz.func195, Tryz.ntmps195
    go_wp2_with fail
    go_ret
    exact ⟨by rw [HB.out]; rfl, rfl⟩
  ·have b1 : (y % 100 != 0) = true := by simp [p1]
   by_cases p2 : y % 400 = 0
   ·have b2 : (y % 400 == 0) = true := by simp [p2]
    have HB : Hid (b = true) := Lib.hid (by
     have q4 : y.toNat % 4 = 0 := by omega
     have q1 : y.toNat % 100 ≠ 0 := by omega
     have q2 : y.toNat % 400 = 0 := by omega
     rw [<- hb]
     simp [q4, q2] <;> omega)
    clear hb e4 e1 e2
    go_enter Tryz.func195, Tryz.ntmps195
    go_wp2_with fail
    go_ret
    exact ⟨by rw [HB.out]; rfl, rfl⟩
   ·have b2 : (y % 400 == 0) = false := by simp [p2]
    have HB : Hid (b = true) := Lib.hid (by
     have q4 : y.toNat % 4 = 0 := by omega
     have q1 : y.toNat % 100 ≠ 0 := by omega
     have q2 : y.toNat % 400 ≠ 0 := by omega
     rw [<- hb]
     simp [q4, q1, q2] <;> omega)
    clear hb e4 e1 e2
    go_enter Tryz.func195, Tryz.ntmps195
    go_wp2_with fail
    go_ret
    exact ⟨by rw [HB.out]; rfl, rfl⟩
 ·have b4 : (y % 4 == 0) = false := by simp [p4]
  by_cases p1 : y % 100 = 0
  ·have b1 : (y % 100 != 0) = false := by simp [p1]
   by_cases p2 : y % 400 = 0
   ·exfalso; omega
   ·have b2 : (y % 400 == 0) = false := by simp [p2]
    have HB : Hid (b = false) := Lib.hid (by
     have q4 : y.toNat % 4 ≠ 0 := by omega
     have q1 : y.toNat % 100 = 0 := by omega
     have q2 : y.toNat % 400 ≠ 0 := by omega
     rw [<- hb]
     simp [q1, q2] <;> omega)
    clear hb e4 e1 e2
    go_enter Tryz.func195, Tryz.ntmps195
    go_wp2_with fail
    go_ret
    exact ⟨by rw [HB.out]; rfl, rfl⟩
  ·have b1 : (y % 100 != 0) = true := by simp [p1]
   by_cases p2 : y % 400 = 0
   ·exfalso; omega
   ·have b2 : (y % 400 == 0) = false := by simp [p2]
    have HB : Hid (b = false) := Lib.hid (by
     have q4 : y.toNat % 4 ≠ 0 := by omega
     have q1 : y.toNat % 100 ≠ 0 := by omega
     have q2 : y.toNat % 400 ≠ 0 := by omega
     rw [<- hb]
     simp [q4, q1, q2] <;> omega)
    clear hb e4 e1 e2
    go_enter Tryz.func195, Tryz.ntmps195
    go_wp2_with fail
    go_ret
    exact ⟨by rw [HB.out]; rfl, rfl⟩
theorem ylen_any (n : Nat) (w : World) : Calls Tryz.prog 130 #[.int .i64 (1900 + (n : Int))] w fun e w' => e = .returned (.int .i64 (lenY (1900 + n) : Int)) /\ w = w' := by
 obtain ⟨b, hb⟩ : ∃ b, lpY (1900 + (n : Int)).toNat = b := ⟨_, rfl⟩
 have HE : Hid ((lenY (1900 + n) : Int) = if b = true then 366 else 365) := Lib.hid (by
  rw [show (1900 + (n : Int)).toNat = 1900 + n by omega] at hb
  show ((if lpY (1900 + n) = true then 366 else 365 : Nat) : Int) = _
  rw [hb]
  cases b <;> rfl)
 have HB := Lib.hid hb
 clear hb
 go_enter Tryz.func130, Tryz.ntmps130
 go_wp2_with fail
 refine (tleap_any _ (by omega) _).mono ?_
 rintro e w1 ⟨rfl, rfl⟩
 rw [HB.out]
 cases b
 all_goals
  go_wp2_with fail
  go_ret
  exact ⟨by rw [HE.out]; rfl, rfl⟩
theorem ystart_any (n : Nat) (hn : n <= 200) (w : World) : Calls Tryz.prog 129 #[.int .i64 (1900 + (n : Int))] w fun e w' => e = .returned (.int .i64 (msM (12 * n) : Int)) /\ w = w' := by
 have HE : Hid ((msM (12 * n) : Int) = 365 * (n : Int) + ((n - 1 : Nat) : Int) / 4) := Lib.hid (by rw [msM_start n hn]; omega)
 have hw0 : IntKind.i64.wrap (1900 + (n : Int) - 1900) = (n : Int) := by rw [show 1900 + (n : Int) - 1900 = (n : Int) by omega]; exact IntWalk.i64_in _ (by omega)
 have hw1 : IntKind.i64.wrap (365 * (n : Int)) = 365 * (n : Int) := IntWalk.i64_in _ (by omega)
 by_cases h0 : n = 0
 ·subst h0
  go_enter Tryz.func129, Tryz.ntmps129
  go_wp2_with fail
  go_ret
  exact ⟨by rw [HE.out]; rfl, rfl⟩
 ·have h1 : (0 : Int) < (n : Int) := by omega
  have h2 : 0 < n := by omega
  have hq : ((n : Int) - 1).tdiv 4 = ((n - 1 : Nat) : Int) / 4 := by
   rw [Int.tdiv_eq_ediv_of_nonneg (by omega)]
   omega
  have hw2 : IntKind.i64.wrap ((n : Int) - 1) = (n : Int) - 1 := IntWalk.i64_in _ (by omega)
  have hw3 : IntKind.i64.wrap (365 * (n : Int) + ((n - 1 : Nat) : Int) / 4) = 365 * (n : Int) + ((n - 1 : Nat) : Int) / 4 := IntWalk.i64_in _ (by omega)
  have hw4 : IntKind.i64.wrap (((n - 1 : Nat) : Int) / 4) = ((n - 1 : Nat) : Int) / 4 := IntWalk.i64_in _ (by omega)
  go_enter Tryz.func129, Tryz.ntmps129
  go_wp2_with fail
  go_ret
  exact ⟨by rw [HE.out]; rfl, rfl⟩
theorem tlen_any (y : Int) (k : Nat) (hk : k < 12) (h0 : 0 <= y) (w : World) : Calls Tryz.prog 131 #[.int .i64 y, .int .i64 ((k : Int) + 1)] w fun e w' => e = .returned (.int .i64 (lenYM y.toNat k : Int)) /\ Below w.heap.size w w' := by
 have hc : k = 0 ∨ k = 1 ∨ k = 2 ∨ k = 3 ∨ k = 4 ∨ k = 5 ∨ k = 6 ∨ k = 7 ∨ k = 8 ∨ k = 9 ∨ k = 10 ∨ k = 11 := by omega
 rcases hc with rfl | rfl | rfl | rfl | rfl | rfl | rfl | rfl | rfl | rfl | rfl | rfl
 case inr.inl =>
  obtain ⟨b, hb⟩ : ∃ b, lpY y.toNat = b := ⟨_, rfl⟩
  have HE : Hid ((lenYM y.toNat 1 : Int) = if b = true then 29 else 28) := Lib.hid (by
   show ((if lpY y.toNat = true then 29 else 28 : Nat) : Int) = _
   rw [hb]
   cases b <;> rfl)
  have HB := Lib.hid hb
  clear hb
  go_enter Tryz.func131, Tryz.ntmps131
  go_wp2_with fail
  refine (tleap_any y h0 _).mono ?_
  rintro e w1 ⟨rfl, rfl⟩
  rw [HB.out]
  cases b
  all_goals
   go_wp2_with fail
   go_ret
   exact ⟨by rw [HE.out]; rfl, (Below.refl _ _).alloc (Nat.le_refl _) _⟩
 all_goals
  go_enter Tryz.func131, Tryz.ntmps131
  go_wp2_with fail
  go_ret
  exact ⟨rfl, (Below.refl _ _).alloc (Nat.le_refl _) _⟩
theorem tvd_any (d : Nat) (hd : d <= 73048) (w : World) : Calls Tryz.prog 64 #[.int .i64 (d : Int)] w fun e w' => e = .returned (.bool true) /\ w = w' := by
 have h1 : (0 : Int) <= (d : Int) := by omega
 have h2 : (d : Int) <= 73048 := by omega
 go_enter Tryz.func64, Tryz.ntmps64
 go_wp2_with fail
 go_ret
 exact ⟨rfl, rfl⟩
end
section
theorem msM_top : msM 2400 = 73049 := msM_start 200 (Nat.le_refl _)
theorem tlen_to {y z l : Int} {k : Nat} (hk : k < 12) (h0 : 0 <= y) (hz : (k : Int) + 1 = z) (hl : (lenYM y.toNat k : Int) = l) (w : World) : Calls Tryz.prog 131 #[.int .i64 y, .int .i64 z] w fun e w' => e = .returned (.int .i64 l) /\ Below w.heap.size w w' := by
 subst hz hl
 exact tlen_any y k hk h0 w
theorem ystart_to {n : Nat} (hn : n <= 200) {s : Int} (hs : (msM (12 * n) : Int) = s) (w : World) : Calls Tryz.prog 129 #[.int .i64 (1900 + (n : Int))] w fun e w' => e = .returned (.int .i64 s) /\ w = w' := by
 subst hs
 exact ystart_any n hn w
theorem ylen_to {n : Nat} {s : Int} (hs : (lenY (1900 + n) : Int) = s) (w : World) : Calls Tryz.prog 130 #[.int .i64 (1900 + (n : Int))] w fun e w' => e = .returned (.int .i64 s) /\ w = w' := by
 subst hs
 exact ylen_any n w
theorem lenY_bd (y : Nat) : 365 <= lenY y /\ lenY y <= 366 := by
 unfold lenY
 split <;> omega
theorem date_any (d : Nat) (hd : d <= 73048) (w : World) : Calls Tryz.prog 74 #[.int .i64 (d : Int)] w fun e w' => (∃ (n k : Nat) (r : Int), e = .returned (.tuple #[.int .i64 (1900 + (n : Int)), .int .i64 ((k : Int) + 1), .int .i64 r, .bool true]) /\ k < 12 /\ n <= 199 /\ msM (12 * n + k) <= d /\ d < msM (12 * n + k + 1)) /\ Below w.heap.size w w' := by
 have htop : msM 2400 = 73049 := msM_top
 have HT := Lib.hid htop
 clear htop
 have hq : (d : Int).tdiv 366 = (d : Int) / 366 := Int.tdiv_eq_ediv_of_nonneg (by omega)
 have hw1 : IntKind.i64.wrap (1900 + (d : Int) / 366) = 1900 + (d : Int) / 366 := IntWalk.i64_in _ (by omega)
 go_enter Tryz.func74, Tryz.ntmps74
 go_wp2_with fail
 refine (tvd_any d hd _).mono ?_
 rintro e w1 ⟨rfl, rfl⟩
 go_wp2_with fail
 go_loopw [2] (fun v wr => ∃ n : Nat, n <= 199 /\ v = .int .i64 (1900 + (n : Int)) /\ msM (12 * n) <= d /\ w = wr) (fun v _ => 2200 - (intOf v).toNat)
 case atStart => exact ⟨d / 366, by omega, rfl, by rw [msM_start _ (by omega)]; omega, rfl⟩
 case round =>
  obtain ⟨n, hn, rfl, hle, rfl⟩ := hrel
  obtain ⟨s, hs⟩ : ∃ s, (msM (12 * n) : Int) = s := ⟨_, rfl⟩
  obtain ⟨y, hy⟩ : ∃ y, (lenY (1900 + n) : Int) = y := ⟨_, rfl⟩
  have HS := Lib.hid hs
  have HY := Lib.hid hy
  have HN := Lib.hid (msM_next n)
  have hb := lenY_bd (1900 + n)
  have hs2 : 0 <= s /\ s <= d := by omega
  have hy2 : 365 <= y /\ y <= 366 := by omega
  clear hs hy hb
  have hw2 : IntKind.i64.wrap (s + y) = s + y := IntWalk.i64_in _ (by omega)
  go_wp2_with fail
  refine (ystart_to (n := n) (by omega) HS.out _).mono ?_
  rintro e w1 ⟨rfl, rfl⟩
  go_wp2_with fail
  refine (ylen_to (n := n) HY.out _).mono ?_
  rintro e w1 ⟨rfl, rfl⟩
  by_cases hc : s + y <= (d : Int)
  ·have hm : msM (12 * (n + 1)) <= d := by have := HN.out; have h1 := HS.out; have h2 := HY.out; omega
   have hn2 : n + 1 <= 199 := by
    by_cases e : n + 1 <= 199
    ·exact e
    ·exfalso
     obtain rfl : n = 199 := by omega
     have := HT.out
     have h3 : msM (12 * (199 + 1)) = msM 2400 := rfl
     omega
   have HM := Lib.hid hm
   clear hm
   go_wp2_with fail
   go_roundw
   case rel => exact ⟨n + 1, hn2, by go_num, HM.out, by first | trivial | rfl⟩
   case measure => simp [intOf]; omega
  ·have hlt : d < msM (12 * (n + 1)) := by have := HN.out; have h1 := HS.out; have h2 := HY.out; omega
   have HLT := Lib.hid hlt
   clear hlt
   have hw3 : IntKind.i64.wrap ((d : Int) - s) = (d : Int) - s := IntWalk.i64_in _ (by omega)
   go_wp2_with fail
   refine (ystart_to (n := n) (by omega) HS.out _).mono ?_
   rintro e w1 ⟨rfl, rfl⟩
   go_wp2_with fail
   go_loopw [6, 3] (fun v i wr => ∃ k : Nat, k < 12 /\ i = .int .i64 ((k : Int) + 1) /\ v = .int .i64 ((d : Int) - (msM (12 * n + k) : Int)) /\ msM (12 * n + k) <= d /\ Below w.heap.size w wr) (fun _ i _ => 14 - (intOf i).toNat)
   case atStart => exact ⟨0, by omega, rfl, by rw [Nat.add_zero, HS.out], hle, Below.refl _ _⟩
   case round =>
    obtain ⟨k, hk, rfl, rfl, hle2, hbr⟩ := hrel
    obtain ⟨l, hl⟩ : ∃ l, (lenYM (1900 + (n : Int)).toNat k : Int) = l := ⟨_, rfl⟩
    have hb2 := lenYM_pos (1900 + (n : Int)).toNat k
    have hl2 : 28 <= l /\ l <= 31 := by omega
    have hnx : (msM (12 * n + k + 1) : Int) = (msM (12 * n + k) : Int) + l := by
     rw [<- hl, show (1900 + (n : Int)).toNat = 1900 + n by omega]
     show ((msM (12 * n + k) + lenMo (12 * n + k) : Nat) : Int) = _
     unfold lenMo
     rw [show (12 * n + k) / 12 = n by omega, show (12 * n + k) % 12 = k by omega]
     omega
    have HL := Lib.hid hl
    have HX := Lib.hid hnx
    clear hl hb2 hnx
    go_wp2_with fail
    refine (tlen_to hk (by omega) rfl HL.out _).mono ?_
    rintro e w2 ⟨rfl, hb2⟩
    have hbr2 := hbr.trans (hb2.mono hbr.size)
    by_cases hc2 : l <= (d : Int) - (msM (12 * n + k) : Int)
    ·have hk2 : k + 1 < 12 := by
      by_cases e : k + 1 < 12
      ·exact e
      ·exfalso
       obtain rfl : k = 11 := by omega
       have h1 := HX.out
       have h2 := HLT.out
       have h3 : 12 * n + 11 + 1 = 12 * (n + 1) := by omega
       rw [h3] at h1
       omega
     have hw4 : IntKind.i64.wrap ((d : Int) - (msM (12 * n + k) : Int) - l) = (d : Int) - (msM (12 * n + k) : Int) - l := IntWalk.i64_in _ (by omega)
     have hw5 : IntKind.i64.wrap ((k : Int) + 1 + 1) = (k : Int) + 1 + 1 := IntWalk.i64_in _ (by omega)
     go_wp2_with fail
     refine (tlen_to hk (by omega) rfl HL.out _).mono ?_
     rintro e w3 ⟨rfl, hb3⟩
     have hbr3 := hbr2.trans (hb3.mono hbr2.size)
     go_wp2_with fail
     go_roundw
     case rel => exact ⟨k + 1, hk2, by go_num, by rw [show 12 * n + (k + 1) = 12 * n + k + 1 by omega, HX.out]; congr 1; omega, by rw [show 12 * n + (k + 1) = 12 * n + k + 1 by omega]; have := HX.out; omega, hbr3⟩
     case measure => simp [intOf]; omega
    ·have hw6 : IntKind.i64.wrap ((d : Int) - (msM (12 * n + k) : Int) + 1) = (d : Int) - (msM (12 * n + k) : Int) + 1 := IntWalk.i64_in _ (by omega)
     go_wp2_with fail
     exact bodyPost_ret (v := .tuple #[.int .i64 (1900 + (n : Int)), .int .i64 ((k : Int) + 1), .int .i64 ((d : Int) - (msM (12 * n + k) : Int) + 1), .bool true]) (by simp [results, Tryz.f74, go_sem]) rfl ⟨⟨n, k, _, rfl, hk, hn, hle2, by have := HX.out; omega⟩, hbr2⟩
end
section
theorem cnumber_ok (l : By) (hl : ∀ c ∈ l, 48 <= c.toNat /\ c.toNat <= 57) (h9 : l.length <= 9) (w : World) :
  Calls Tryz.prog 95 #[.string (bs l)] w fun e w' => e = .returned (.tuple #[.int .i64 (valD l : Int), .bool true]) /\ w = w' := by
 have hsz := bs_size l
 go_enter Tryz.func95, Tryz.ntmps95
 go_wp2_with fail
 go_loop [4, 5] (fun x i => ∃ k : Nat, k <= l.length /\ x = .int .i64 (valD (l.take k) : Int) /\ i = .int .i64 (k : Int)) (fun _ i => l.length - (intOf i).toNat)
 case atStart => exact ⟨0, by omega, rfl, rfl⟩
 case round =>
  obtain ⟨k, hk, rfl, rfl⟩ := hrel
  by_cases hlt : k < l.length
  ·have hk2 : k < (bs l).size := by omega
   have hg : (bs l)[k] = l[k] := bs_get l k hk2
   obtain ⟨c1, c2⟩ := hl l[k] (List.getElem_mem hlt)
   have hv : valD (l.take (k + 1)) = 10 * valD (l.take k) + (l[k].toNat - 48) := (congrArg valD (List.take_succ_eq_append_getElem hlt)).trans (valD_snoc _ _)
   have hb : valD (l.take k) < 1000000000 := by
    have h1 := valD_lt k (l.take k) (by simp; omega) fun c hc => hl c (List.mem_of_mem_take hc)
    have h2 : 10 ^ k <= 10 ^ 9 := Nat.pow_le_pow_right (by omega) (by omega)
    omega
   rw [<- hg] at c1 c2 hv
   have d1 : decide (((bs l)[k].toNat : Int) < 48) = false := decide_eq_false (by omega)
   have d2 : decide (57 < ((bs l)[k].toNat : Int)) = false := decide_eq_false (by omega)
   have HV := Lib.hid hv
   clear hv hg
   generalize hX : valD (l.take k) = X at *
   have HX := Lib.hid hX
   clear hX
   go_wp2_with fail
   go_round
   case rel => exact ⟨k + 1, by omega, by rw [HV.out]; go_num, by go_num⟩
   case measure => simp [intOf]; omega
  ·obtain rfl : k = l.length := by omega
   rw [List.take_length]
   go_wp2_with fail
   go_ret2
   exact ⟨rfl, rfl⟩
theorem cnumber_to (s : ByteArray) (l : By) (v : Nat) (hs : s = bs l) (hv : valD l = v) (hl : ∀ c ∈ l, 48 <= c.toNat /\ c.toNat <= 57) (h9 : l.length <= 9) (w : World) :
  Calls Tryz.prog 95 #[.string s] w fun e w' => e = .returned (.tuple #[.int .i64 (v : Int), .bool true]) /\ w = w' := by
 subst hs hv
 exact cnumber_ok l hl h9 w
theorem cday_first (w : World) : Calls Tryz.prog 96 #[.int .i64 1900, .int .i64 1, .int .i64 1] w fun e w' => e = .returned (.tuple #[.int .i64 0, .bool true]) /\ Below w.heap.size w w' := by
 have hl := fun u => tlen_to (y := 1900) (z := 1) (l := 31) (k := 0) (by omega) (by omega) rfl (by decide) u
 have hy := fun u => ystart_to (n := 0) (by omega) (s := 0) (by decide) u
 go_enter Tryz.func96, Tryz.ntmps96
 go_wp2_with fail
 refine (hl _).mono ?_
 rintro e w1 ⟨rfl, hb⟩
 go_wp2_with fail
 refine (hy _).mono ?_
 rintro e w2 ⟨rfl, rfl⟩
 go_wp2_with fail
 refine wp_loop_rounds 1 ?_
 rw [rounds_succ]
 go_wp2_with fail
 go_ret2
 exact ⟨rfl, hb⟩
def day0 : By := [49, 57, 48, 48, 45, 48, 49, 45, 48, 49]
theorem cparse_first (S : ByteArray) (hS : S = bs day0) (w : World) : Calls Tryz.prog 48 #[.string S] w fun e w' => e = .returned (.tuple #[.int .i64 0, .bool true]) /\ Below w.heap.size w w' := by
 have hz : S.size = 10 := by rw [hS, bs_size]; rfl
 have h4 : (4 : Nat) < S.size := by omega
 have h7 : (7 : Nat) < S.size := by omega
 have e4 : (S[4].toNat : Int) = 45 := by subst hS; rfl
 have e7 : (S[7].toNat : Int) = 45 := by subst hS; rfl
 have n1 := fun u => cnumber_to (S.extract 0 4) [49, 57, 48, 48] 1900 (by subst hS; rw [bs_ext]; rfl) (by decide) (by decide) (by decide) u
 have n2 := fun u => cnumber_to (S.extract 5 7) [48, 49] 1 (by subst hS; rw [bs_ext]; rfl) (by decide) (by decide) (by decide) u
 have n3 := fun u => cnumber_to (S.extract 8 10) [48, 49] 1 (by subst hS; rw [bs_ext]; rfl) (by decide) (by decide) (by decide) u
 clear hS
 go_enter Tryz.func48, Tryz.ntmps48
 go_wp2_with fail
 refine (n1 _).mono ?_
 rintro e w1 ⟨rfl, rfl⟩
 go_wp2_with fail
 refine (n2 _).mono ?_
 rintro e w1 ⟨rfl, rfl⟩
 go_wp2_with fail
 refine (n3 _).mono ?_
 rintro e w1 ⟨rfl, rfl⟩
 go_wp2_with fail
 refine (cday_first _).mono ?_
 rintro e w1 ⟨rfl, hb⟩
 go_wp2_with fail
 go_ret2
 exact ⟨rfl, hb⟩
end
section
theorem extent_date (s : ByteArray) (a : Nat) (hsz : a + 11 <= s.size) (hs : s.size <= 100000) (h0 : atB s a = 64) (hx : s.extract (a + 1) (a + 11) = bs day0) (w : World) :
  Calls Tryz.prog 152 #[.string s, .int .i64 (a : Int)] w fun e w' => e = .returned (.tuple #[.int .i64 ((a + 11 : Nat) : Int), .int .i64 3]) /\ Below w.heap.size w w' := by
 have ha : a < s.size := by omega
 rw [atB_lt ha] at h0
 have hl : letV (s[a].toNat : Int) = false := by rw [h0]; rfl
 have hd : digV (s[a].toNat : Int) = false := by rw [h0]; rfl
 have d0 : ((s[a].toNat : Int) == 64) = true := beq_iff_eq.2 h0
 have hp := fun u => cparse_first (s.extract (a + 1) (a + 11)) hx u
 have HL := Lib.hid hl
 have HD := Lib.hid hd
 have q1 : decide ((a : Int) + 11 <= (s.size : Int)) = true := decide_eq_true (by omega)
 have q2 : ((a : Int) + 1).toNat = a + 1 := by omega
 have q3 : ((a : Int) + 11).toNat = a + 11 := by omega
 have q4 : (a : Int) + 11 <= (s.size : Int) := by omega
 clear h0 hx hl hd
 go_enter Tryz.func152, Tryz.ntmps152
 go_wp2_with fail
 refine (lower_to HL.out _).mono ?_
 rintro e w1 ⟨rfl, rfl⟩
 go_wp2_with fail
 refine (tdigit_to HD.out _).mono ?_
 rintro e w1 ⟨rfl, rfl⟩
 go_wp2_with fail
 refine (hp _).mono ?_
 rintro e w1 ⟨rfl, hb⟩
 go_wp2_with fail
 go_ret2
 exact ⟨rfl, hb⟩
def sgB : List By := [[60, 61], [62, 61], [60, 62], [60], [62], [61], [43], [45], [42], [47], [40], [41], [123], [125], [44], [59]]
def sgS (k : Nat) : ByteArray := bs (sgB.getD k [])
theorem sign_law (k : Nat) (hk : k < 16) (u : World) : (Instr.index 345 (.agg #[.string ⟨#[60, 61]⟩, .string ⟨#[62, 61]⟩, .string ⟨#[60, 62]⟩, .string ⟨#[60]⟩, .string ⟨#[62]⟩, .string ⟨#[61]⟩, .string ⟨#[43]⟩, .string ⟨#[45]⟩, .string ⟨#[42]⟩, .string ⟨#[47]⟩, .string ⟨#[40]⟩, .string ⟨#[41]⟩, .string ⟨#[123]⟩, .string ⟨#[125]⟩, .string ⟨#[44]⟩, .string ⟨#[59]⟩]) (.int .i64 (k : Int))).run Tryz.prog u = .ok (.string (sgS k)) u := by
 unfold Instr.index
 match k, hk with
 | 0, _ => simp [run_underlying Tryz.underlying345, asIntOf, part, go_sem, sgS, sgB, bs]
 | 1, _ => simp [run_underlying Tryz.underlying345, asIntOf, part, go_sem, sgS, sgB, bs]
 | 2, _ => simp [run_underlying Tryz.underlying345, asIntOf, part, go_sem, sgS, sgB, bs]
 | 3, _ => simp [run_underlying Tryz.underlying345, asIntOf, part, go_sem, sgS, sgB, bs]
 | 4, _ => simp [run_underlying Tryz.underlying345, asIntOf, part, go_sem, sgS, sgB, bs]
 | 5, _ => simp [run_underlying Tryz.underlying345, asIntOf, part, go_sem, sgS, sgB, bs]
 | 6, _ => simp [run_underlying Tryz.underlying345, asIntOf, part, go_sem, sgS, sgB, bs]
 | 7, _ => simp [run_underlying Tryz.underlying345, asIntOf, part, go_sem, sgS, sgB, bs]
 | 8, _ => simp [run_underlying Tryz.underlying345, asIntOf, part, go_sem, sgS, sgB, bs]
 | 9, _ => simp [run_underlying Tryz.underlying345, asIntOf, part, go_sem, sgS, sgB, bs]
 | 10, _ => simp [run_underlying Tryz.underlying345, asIntOf, part, go_sem, sgS, sgB, bs]
 | 11, _ => simp [run_underlying Tryz.underlying345, asIntOf, part, go_sem, sgS, sgB, bs]
 | 12, _ => simp [run_underlying Tryz.underlying345, asIntOf, part, go_sem, sgS, sgB, bs]
 | 13, _ => simp [run_underlying Tryz.underlying345, asIntOf, part, go_sem, sgS, sgB, bs]
 | 14, _ => simp [run_underlying Tryz.underlying345, asIntOf, part, go_sem, sgS, sgB, bs]
 | 15, _ => simp [run_underlying Tryz.underlying345, asIntOf, part, go_sem, sgS, sgB, bs]
 | k + 16, h => omega
theorem hasPre_to {s p : ByteArray} {b : Bool} (h : Lib.hasPrefix s.data.toList p.data.toList = b) (w : World) : Calls Tryz.prog 216 #[.string s, .string p] w fun e w' => e = .returned (.bool b) /\ w = w' := by
 subst h
 exact (Tryz.strings_HasPrefix s p w).mono fun _ _ h => ⟨h.1, h.2.symm⟩
theorem extent_sign (s : ByteArray) (a j n : Nat) (hj : j < 16) (hn : (sgS j).size = n) (hn2 : n <= 2) (ha : a < s.size) (hs : s.size <= 100000) (h1 : letV (atB s a) = false) (h2 : digV (atB s a) = false) (h3 : (atB s a == 64) = false)
  (hf : ∀ i, i < j -> Lib.hasPrefix (s.extract a s.size).data.toList (sgS i).data.toList = false) (ht : Lib.hasPrefix (s.extract a s.size).data.toList (sgS j).data.toList = true) (w : World) :
  Calls Tryz.prog 152 #[.string s, .int .i64 (a : Int)] w fun e w' => e = .returned (.tuple #[.int .i64 ((a + n : Nat) : Int), .int .i64 4]) /\ w = w' := by
 rw [atB_lt ha] at h1 h2 h3
 have H1 := Lib.hid h1
 have H2 := Lib.hid h2
 have HF := Lib.hid hf
 have HT := Lib.hid ht
 have hq : (a : Int) <= (s.size : Int) := by omega
 have hm1 : maxLen = 9223372036854775807 := rfl
 clear h1 h2 hf ht
 go_enter Tryz.func152, Tryz.ntmps152
 go_wp2_with fail
 refine (lower_to H1.out _).mono ?_
 rintro e w1 ⟨rfl, rfl⟩
 go_wp2_with fail
 refine (tdigit_to H2.out _).mono ?_
 rintro e w1 ⟨rfl, rfl⟩
 go_wp2_with fail
 go_loop [13, 19] (fun _ x => ∃ m : Nat, m <= j /\ x = .int .i64 (m : Int)) (fun _ x => j - (intOf x).toNat)
 case atStart => exact ⟨0, by omega, rfl⟩
 case round =>
  obtain ⟨m, hm, rfl⟩ := hrel
  have hi := fun u => sign_law m (by omega) u
  have q1 : decide ((m : Int) < 16) = true := decide_eq_true (by omega)
  by_cases hlt : m < j
  ·have hh := HF.out m hlt
   have HH := Lib.hid hh
   clear hh
   go_wp2_with fail
   refine (hasPre_to HH.out _).mono ?_
   rintro e w1 ⟨rfl, rfl⟩
   go_wp2_with fail
   go_round
   case rel => exact ⟨m + 1, by omega, by go_num⟩
   case measure => simp [intOf]; omega
  ·obtain rfl : m = j := by omega
   go_wp2_with fail
   refine (hasPre_to HT.out _).mono ?_
   rintro e w1 ⟨rfl, rfl⟩
   go_wp2_with fail
   go_ret2
   exact ⟨rfl, rfl⟩
end
section
structure Tk where
 k : Int
 t : ByteArray
 a : Int
def Tk.cells (x : Tk) : List Value := [.int .i64 x.k, .string x.t, .int .i64 x.a]
def Tk.agg (x : Tk) : Value := .agg #[.int .i64 x.k, .string x.t, .int .i64 x.a]
structure Ext (s : ByteArray) (a b : Nat) (kd : Int) : Prop where
 lt : a < b
 le : b <= s.size
 nb : atB s a ≠ 32 /\ atB s a ≠ 9 /\ atB s a ≠ 10 /\ atB s a ≠ 13 /\ atB s a ≠ 35
 k0 : kd ≠ 0
 ex : ∀ w, Ml w -> Calls Tryz.prog 152 #[.string s, .int .i64 (a : Int)] w fun e w' => e = .returned (.tuple #[.int .i64 (b : Int), .int .i64 kd]) /\ Below w.heap.size w w'
def tkOf (s : ByteArray) (a b : Nat) (kd : Int) : Tk := ⟨kd, s.extract a b, a⟩
theorem next_tok (s : ByteArray) (k a b : Nat) (kd : Int) (hka : k <= a) (hbl : ∀ i, k <= i -> i < a -> atB s i = 32) (hx : Ext s a b kd) (hs : s.size <= 100000) (w : World) (hw : Ml w) :
  Calls Tryz.prog 90 #[.string s, .int .i64 (k : Int)] w fun e w' => e = .returned (.tuple #[(tkOf s a b kd).agg, .int .i64 (b : Int), .int .i64 0]) /\ Below w.heap.size w w' := by
 obtain ⟨hab, hb, hnb, hk0, hex⟩ := hx
 have d1 : decide ((k : Int) < 0) = false := decide_eq_false (by omega)
 have d2 : decide ((s.size : Int) < (k : Int)) = false := decide_eq_false (by omega)
 have d3 : ((a : Int) == (s.size : Int)) = false := by simp; omega
 have d4 : (kd == 0) = false := beq_eq_false_iff_ne.2 hk0
 have hab2 : a <= b := by omega
 have hsk := fun u => tskip_to s hka (by omega) hs hbl hnb u
 have hbel := (Below.refl w.heap.size w).alloc (Nat.le_refl _) (.cells #[.int .i64 0, .string ⟨#[]⟩, .int .i64 0] 124)
 have hr := heap_alloc_new w (.cells #[.int .i64 0, .string ⟨#[]⟩, .int .i64 0] 124)
 have HEX := Lib.hid hex
 clear hnb hbl hex hk0
 go_enter Tryz.func90, Tryz.ntmps90
 go_wp2_with fail
 obtain ⟨W, hW⟩ : ∃ W, w.alloc (.cells #[.int .i64 0, .string ⟨#[]⟩, .int .i64 0] 124) = W := ⟨_, rfl⟩
 rw [hW] at hbel hr ⊢
 refine (hsk _).mono ?_
 rintro e w1 ⟨rfl, rfl⟩
 have hex := HEX.out W (hw.below hbel hw.1)
 clear hW HEX hsk
 go_wp2_with fail
 refine hex.mono ?_
 rintro e w1 ⟨rfl, hb1⟩
 have r1 := (hb1.block w.heap.size (gis hr).1).trans hr
 have f0 : w1.cell? ⟨w.heap.size, 0, none⟩ = some (.int .i64 0) := by rw [cell_of_row _ _ _ _ _ _ r1]; rfl
 have f1 : w1.cell? ⟨w.heap.size, 1, none⟩ = some (.string ⟨#[]⟩) := by rw [cell_of_row _ _ _ _ _ _ r1]; rfl
 have f2 : w1.cell? ⟨w.heap.size, 2, none⟩ = some (.int .i64 0) := by rw [cell_of_row _ _ _ _ _ _ r1]; rfl
 have y0 := frozen_of_row w1 w.heap.size 0 _ _ r1
 have y1 := frozen_of_row w1 w.heap.size 1 _ _ r1
 have y2 := frozen_of_row w1 w.heap.size 2 _ _ r1
 have hbb := hbel.trans (hb1.mono hbel.size)
 clear r1 hr hb1 hbel hex
 go_wp2_with fail
 exact bodyPost_ret (v := .tuple #[.agg #[.int .i64 kd, .string (s.extract a b), .int .i64 (a : Int)], .int .i64 (b : Int), .int .i64 0]) (by simp [results, Tryz.f90, go_sem, f0, f1, f2]) rfl ⟨rfl, ((hbb.setCell (p := ⟨w.heap.size, 0, none⟩) (Nat.le_refl _) _).setCell (p := ⟨w.heap.size, 1, none⟩) (Nat.le_refl _) _).setCell (p := ⟨w.heap.size, 2, none⟩) (Nat.le_refl _) _⟩
theorem next_end (s : ByteArray) (k : Nat) (hk : k <= s.size) (hbl : ∀ i, k <= i -> i < s.size -> atB s i = 32) (hs : s.size <= 100000) (w : World) :
  Calls Tryz.prog 90 #[.string s, .int .i64 (k : Int)] w fun e w' => e = .returned (.tuple #[.agg #[.int .i64 0, .string ⟨#[]⟩, .int .i64 (s.size : Int)], .int .i64 (s.size : Int), .int .i64 0]) /\ Below w.heap.size w w' := by
 have d1 : decide ((k : Int) < 0) = false := decide_eq_false (by omega)
 have d2 : decide ((s.size : Int) < (k : Int)) = false := decide_eq_false (by omega)
 have hend : atB s s.size = -1 := atB_ge (by omega)
 have hsk := fun u => tskip_to s hk (Nat.le_refl _) hs hbl (by rw [hend]; decide) u
 have hbel := (Below.refl w.heap.size w).alloc (Nat.le_refl _) (.cells #[.int .i64 0, .string ⟨#[]⟩, .int .i64 0] 124)
 have r1 := heap_alloc_new w (.cells #[.int .i64 0, .string ⟨#[]⟩, .int .i64 0] 124)
 clear hbl hend
 go_enter Tryz.func90, Tryz.ntmps90
 go_wp2_with fail
 obtain ⟨w1, hW⟩ : ∃ W, w.alloc (.cells #[.int .i64 0, .string ⟨#[]⟩, .int .i64 0] 124) = W := ⟨_, rfl⟩
 rw [hW] at hbel r1 ⊢
 refine (hsk _).mono ?_
 rintro e w2 ⟨rfl, rfl⟩
 have f0 : w1.cell? ⟨w.heap.size, 0, none⟩ = some (.int .i64 0) := by rw [cell_of_row _ _ _ _ _ _ r1]; rfl
 have f1 : w1.cell? ⟨w.heap.size, 1, none⟩ = some (.string ⟨#[]⟩) := by rw [cell_of_row _ _ _ _ _ _ r1]; rfl
 have f2 : w1.cell? ⟨w.heap.size, 2, none⟩ = some (.int .i64 0) := by rw [cell_of_row _ _ _ _ _ _ r1]; rfl
 have y0 := frozen_of_row w1 w.heap.size 0 _ _ r1
 have y1 := frozen_of_row w1 w.heap.size 1 _ _ r1
 have y2 := frozen_of_row w1 w.heap.size 2 _ _ r1
 clear r1 hW
 go_wp2_with fail
 exact bodyPost_ret (v := .tuple #[.agg #[.int .i64 0, .string ⟨#[]⟩, .int .i64 (s.size : Int)], .int .i64 (s.size : Int), .int .i64 0]) (by simp [results, Tryz.f90, go_sem, f0, f1, f2]) rfl ⟨rfl, ((hbel.setCell (p := ⟨w.heap.size, 0, none⟩) (Nat.le_refl _) _).setCell (p := ⟨w.heap.size, 1, none⟩) (Nat.le_refl _) _).setCell (p := ⟨w.heap.size, 2, none⟩) (Nat.le_refl _) _⟩
inductive Lx (s : ByteArray) : Nat -> List Tk -> Prop where
 | nil {k : Nat} (hk : k <= s.size) (hb : ∀ i, k <= i -> i < s.size -> atB s i = 32) : Lx s k []
 | cons {k a b : Nat} {kd : Int} {L : List Tk} (hk : k <= a) (hb : ∀ i, k <= i -> i < a -> atB s i = 32) (hx : Ext s a b kd) (h : Lx s b L) : Lx s k (tkOf s a b kd :: L)
theorem info_tok : (Tryz.prog.info? 124).map (fun i => (i.zero, i.size, i.bytes)) = some (some (.agg #[.int .i64 0, .string ⟨#[]⟩, .int .i64 0]), 3, 32) := by kernel_rfl
theorem tk_one (x : Tk) : ∀ u ∈ x.cells, u.oneCell' = true := by
 intro u hu
 simp only [Tk.cells, List.mem_cons, List.not_mem_nil, or_false] at hu
 rcases hu with rfl | rfl | rfl <;> rfl
theorem own_underP {w w' : World} {base e sz n : Nat} {v : Value} {xs : List Value} (h : w.ownsRow base e sz v n xs) (hb : Below w.heap.size w w') : w'.ownsRow base e sz v n xs :=
 h.kept (row := none) (grownBy_of_below hb none) (Classical.em _)
theorem all_ok (s : ByteArray) (hs : s.size <= 8000) (L : List Tk) (hL : Lx s 0 L) (w : World) (hw : Ml w) :
  Calls Tryz.prog 42 #[.string s] w fun e w' => ∃ (A : Option Addr) (c : Nat), e = .returned (.tuple #[.slice A L.length c, .int .i64 0, .int .i64 0]) /\ w'.ownsRow w.heap.size 124 3 (.slice A L.length c) L.length (flat Tk.cells L) /\ Below w.heap.size w w' := by
 obtain ⟨i0, hi0, hz0, hz1, hz2⟩ := info_parts info_tok
 have d8 : ¬ (8000 : Int) < (s.size : Int) := by omega
 have HL := Lib.hid hL
 clear hL
 go_enter Tryz.func42, Tryz.ntmps42
 go_wp2_with fail
 go_loopw [2, 3] (fun v i wr => ∃ (k n c : Nat) (A : Option Addr) (O R : List Tk), k <= s.size /\ i = .int .i64 (k : Int) /\ v = .slice A n c /\ O.length = n /\ n <= k /\ Hid (L = O ++ R /\ Lx s k R) /\ wr.ownsRow w.heap.size 124 3 (.slice A n c) n (flat Tk.cells O) /\ Below w.heap.size w wr) (fun _ i _ => s.size - (intOf i).toNat)
 case atStart => exact ⟨0, 0, 0, none, [], L, by omega, rfl, rfl, rfl, by omega, Lib.hid ⟨rfl, HL.out⟩, World.ownsRow_nil _ _ _ _, Below.refl _ _⟩
 case round =>
  obtain ⟨k, n, c, A, O, R, hk, rfl, rfl, hol, hnk, hR, hown, hb⟩ := hrel
  have HO := Lib.hid hol
  have hsz := hb.size
  have hwr : Ml wr := hw.below hb hw.1
  clear hol HL
  obtain ⟨hLR, hlx⟩ := hR.out
  have HLR := Lib.hid hLR
  clear hR hLR
  cases hlx with
  | nil hk2 hbl =>
   have hne := fun u => next_end s k hk2 hbl (by omega) u
   clear hk2 hbl
   go_wp2_with fail
   refine (hne _).mono ?_
   rintro e w1 ⟨rfl, hb1⟩
   have hown1 : w1.ownsRow w.heap.size 124 3 (.slice A n c) n (flat Tk.cells O) := own_underP hown hb1
   have hbb := hb.trans (hb1.mono hsz)
   have hzz := hbb.size
   clear hb1 hown hne
   go_wp2_with fail
   go_ret3
   have hl : L = O := by rw [HLR.out, List.append_nil]
   have hn : L.length = n := by rw [hl]; exact HO.out
   rw [hn, hl]
   exact ⟨A, c, rfl, hown1.alloc _, hbb.alloc hzz _⟩
  | cons hka hbl hx hrest =>
   rename_i a b kd R2
   have hnx := fun u hu => next_tok s k a b kd hka hbl hx (by omega) u hu
   have hab := hx.lt
   have hbs := hx.le
   have d0 : (kd == 0) = false := beq_eq_false_iff_ne.2 hx.k0
   have HR := Lib.hid hrest
   obtain ⟨t, ht⟩ : ∃ t, tkOf s a b kd = t := ⟨_, rfl⟩
   have htk : t.k = kd := by rw [<- ht]; rfl
   obtain ⟨tk, tt, ta⟩ := t
   obtain rfl : tk = kd := htk
   rw [ht] at hnx HLR
   clear hbl hx hrest ht
   have hn1 := hnx _ hwr
   dsimp only [Tk.agg] at hn1
   clear hnx
   go_wp2_with fail
   refine hn1.mono ?_
   rintro e w1 ⟨rfl, hb1⟩
   have hown1 : w1.ownsRow w.heap.size 124 3 (.slice A n c) n (flat Tk.cells O) := own_underP hown hb1
   have hbb := hb.trans (hb1.mono hsz)
   have hzz := hbb.size
   clear hb1 hown hn1
   go_wp2_with (at_builtin; go_loud (refine wpList_append_rd (by rfl) (.tmp 26) (.tmp 28) 118 (by rfl) w.heap.size 124 i0 _ 3 32 Tryz.underlying118 hi0 hz0 hz1 hz2 rfl (by omega) (.slice A n c) n (flat Tk.cells O) (by rfl) ((hown1.alloc _).alloc _) (w1.heap.size + 2) (some ⟨w1.heap.size + 1, 0, none⟩) 1 1 (Tk.cells ⟨tk, tt, ta⟩) (by rfl) (Rd.built (cs := (Tk.cells ⟨tk, tt, ta⟩).toArray) (heap_alloc2_new w1 _ _) (by omega) rfl) (tk_one _) (by unfold maxLen; omega) (by omega) (by simp; omega) ?_); intro v4 w4 hown4 hg4 hat4)
   have hb4 := ((hbb.alloc hzz (.cells (Tk.cells ⟨tk, tt, ta⟩).toArray 124)).alloc (by simp; omega) (.cells (Tk.cells ⟨tk, tt, ta⟩).toArray 124)).grown hg4 (by simp; omega) (fun g e => (hown1.lt g e).1)
   obtain ⟨A4, c4, rfl, _, _, _⟩ := own_form hown4
   go_roundw
   case rel => exact ⟨b, n + 1, c4, A4, O ++ [⟨tk, tt, ta⟩], R2, by omega, rfl, rfl, by rw [List.length_append, HO.out]; rfl, by omega, Lib.hid ⟨by rw [HLR.out, List.append_assoc]; rfl, HR.out⟩, by rw [flat_append, flat_one]; exact hown4, hb4⟩
   case measure => simp [intOf]; omega
end
end Go.Proofs.YtnlopdmhdiegnaaGreatDoor
