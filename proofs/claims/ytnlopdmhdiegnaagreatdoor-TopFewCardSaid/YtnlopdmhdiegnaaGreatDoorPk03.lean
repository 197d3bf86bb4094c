/- Lemmas (no conditions): OpenN, SpA, Tka, Tkb -/
import Derived.Deep.Slices
import Derived.Deep.Fields
import Derived.ChangeSame
import Derived.OwnWalk
import Derived.IntWalk
import Derived.Deep.QuietTactic
import Derived.BigQuiet
import Derived.Deep.LoopGhost
import Derived.Deep.RegionHeld3
import Derived.Test.YtnlopdmhdiegnaaGreatDoorShelf
import Derived.BigGuardPart
import Derived.WalkMore
import Derived.Test.YtnlopdmhdiegnaaGreatDoorPk02
set_option linter.unusedSimpArgs false
set_option linter.unusedVariables false
set_option maxRecDepth 100000
set_option maxHeartbeats 64000000
namespace Go.Proofs.YtnlopdmhdiegnaaGreatDoor
open Go.RowKit
section
open Go.ChangeShapes Go.WideShapes Go.Deep Go.RowKit
def I64 (n : Int) : Prop := -9223372036854775808 <= n /\ n <= 9223372036854775807
section
variable {H : Type} {enc : TypeId × Value -> H} {P : Program} {w : World} {base : Nat} {spare : Nat -> Bool} {held : Bool}
end
theorem wf_i64 {n : Int} (h : (Lit.int .i64 n).wf = true) : I64 n := by
 have h2 : decide (IntKind.i64.min <= n) = true /\ decide (n <= IntKind.i64.max) = true := by simpa [Lit.wf] using h
 have e1 : IntKind.i64.min = -9223372036854775808 := by decide
 have e2 : IntKind.i64.max = 9223372036854775807 := by decide
 rw [e1, e2] at h2
 exact ⟨of_decide_eq_true h2.1, of_decide_eq_true h2.2⟩
theorem list_ofN {α : Type} (Q : Nat -> α -> Prop) : ∀ n : Nat, (∀ i, i < n -> ∃ r, Q i r) -> ∃ l : List α, l.length = n /\ ∀ i r, l[i]? = some r -> Q i r
 | 0, _ => ⟨[], rfl, by simp⟩
 | n + 1, h => by
  obtain ⟨l, hl, hq⟩ := list_ofN Q n fun i hi => h i (by omega)
  obtain ⟨r, hr⟩ := h n (by omega)
  refine ⟨l ++ [r], by simp [hl], fun i x hx => ?_⟩
  rw [List.getElem?_append] at hx
  split at hx
  ·exact hq i x hx
  ·have hi : i - l.length = 0 := by
    apply Classical.byContradiction
    intro h0
    rw [List.getElem?_eq_none (by simp; omega)] at hx
    cases hx
   rw [hi] at hx
   have : r = x := by simpa using hx
   subst this
   have : i = n := by omega
   subst this
   exact hr
end
section
theorem ret_int {k : IntKind} {a b : Int} (h : a = b) : Ending.returned (.int k a) = .returned (.int k b) := by rw [h]
theorem ret_bool {a b : Bool} (h : a = b) : Ending.returned (.bool a) = .returned (.bool b) := by rw [h]
def Sp.cells (s : Sp) : List Value := [.int .i64 s.f, .int .i64 s.t]
theorem sp_len (x : Sp) : x.cells.length = 2 := rfl
theorem sp_flen (l : List Sp) : (flat Sp.cells l).length = l.length * 2 := flat_length sp_len l
theorem sp_cells {w : World} {B n : Nat} {A : Option Addr} {l : List Sp} (h : Rd w B 2 A n (flat Sp.cells l)) {k : Nat} {x : Sp} (hx : l[k]? = some x) :
  k < n /\ ∃ b o, A = some ⟨b, o, none⟩ /\ b < B /\ w.cell? ⟨b, o + k * 2, none⟩ = some (.int .i64 x.f) /\ w.cell? ⟨b, o + k * 2 + 1, none⟩ = some (.int .i64 x.t) := by
 obtain ⟨hk, b, o, e, hb, hc⟩ := h.elem sp_len hx (by omega)
 exact ⟨hk, b, o, e, hb, by simpa using hc 0 _ rfl, hc 1 _ rfl⟩
theorem Rd.lenS {w : World} {B n : Nat} {A : Option Addr} {l : List Sp} (h : Rd w B 2 A n (flat Sp.cells l)) : l.length = n := by
 have := h.1
 rw [sp_flen] at this
 omega
def Sp.ok (s : Sp) : Prop := I64 s.f /\ I64 s.t
theorem info_span : (Tryz.prog.info? 32).map (fun i => (i.zero, i.size, i.bytes)) = some (some (.agg #[.int .i64 0, .int .i64 0]), 2, 16) := by kernel_rfl
theorem clamp_any (f t : Int) (w : World) :
  Calls Tryz.prog 208 #[.agg #[.int .i64 f, .int .i64 t]] w fun e w' => e = .returned (.agg #[.int .i64 (max f 0), .int .i64 (min t 73049)]) ∧
   (w.alloc (.cells #[.int .i64 f, .int .i64 t] 32)).alloc (.cells #[.int .i64 (max f 0), .int .i64 (min t 73049)] 32) = w' := by
 go_enter Tryz.func208, Tryz.ntmps208
 have h1 : (if f < 0 then 0 else f) = max f 0 := by split <;> omega
 have h2 : (if 73049 < t then 73049 else t) = min t 73049 := by split <;> omega
 go_wp2
 exact bodyPost_ret (v := .agg #[.int .i64 (max f 0), .int .i64 (min t 73049)]) (by simp [results, Tryz.results208, go_sem]) rfl ⟨rfl, rfl⟩
theorem tmod_split (n m : Int) : n % m = n.tmod m % m := by
 have h := Int.mul_tdiv_add_tmod n m
 have h2 : n % m = (n.tmod m + m * n.tdiv m) % m := by rw [Int.add_comm, h]
 rw [h2, Int.add_mul_emod_self_left]
def pick (n k : Int) : Int := if k < 1 then 0 else n % k
theorem pick_bd (n k : Int) (h : 1 <= k) : 0 <= pick n k /\ pick n k < k := by
 unfold pick
 rw [if_neg (by omega)]
 exact ⟨Int.emod_nonneg _ (by omega), Int.emod_lt_of_pos _ (by omega)⟩
theorem pick_any (n k : Int) (w : World) (hk : k <= 4611686018427387904) :
  Calls Tryz.prog 5 #[.int .i64 n, .int .i64 k] w fun e w' => e = .returned (.int .i64 (pick n k)) /\ w = w' := by
 by_cases h : k < 1
 ·go_enter Tryz.func5, Tryz.ntmps5
  go_wp2
  go_ret
  exact ⟨ret_int (by simp [pick, h]), rfl⟩
 ·have h1 := Int.lt_tmod_of_pos n (show 0 < k by omega)
  have h2 := Int.tmod_lt_of_pos n (show 0 < k by omega)
  have hk1 : 1 <= k := by omega
  have hs := tmod_split n k
  have HS := Lib.hid hs
  have hk0 : (k == 0) = false := beq_eq_false_iff_ne.2 (by omega)
  clear hs
  go_enter Tryz.func5, Tryz.ntmps5
  go_wp2
  go_ret
  refine ⟨ret_int ?_, rfl⟩
  have h2 : ¬ k < 1 := by omega
  simp only [pick, h2, if_false]
  rw [HS.out]
end
section
def letV (c : Int) : Bool := decide (97 <= c) && decide (c <= 122)
def digV (c : Int) : Bool := decide (48 <= c) && decide (c <= 57)
def inwV (c : Int) : Bool := letV c || digV c || (c == 95)
theorem lower_any (c : Int) (w : World) : Calls Tryz.prog 153 #[.int .u8 c] w fun e w' => e = .returned (.bool (letV c)) /\ w = w' := by
 by_cases h : 97 <= c
 ·by_cases h2 : c <= 122
  ·have d1 : decide (97 <= c) = true := decide_eq_true h
   have d2 : decide (c <= 122) = true := decide_eq_true h2
   go_enter Tryz.func153, Tryz.ntmps153
   go_wp2_with fail
   go_ret
   exact ⟨ret_bool (by simp [letV]; omega), rfl⟩
  ·have d1 : decide (97 <= c) = true := decide_eq_true h
   have d2 : decide (c <= 122) = false := decide_eq_false h2
   go_enter Tryz.func153, Tryz.ntmps153
   go_wp2_with fail
   go_ret
   exact ⟨ret_bool (by simp [letV]; omega), rfl⟩
 ·have d1 : decide (97 <= c) = false := decide_eq_false h
  go_enter Tryz.func153, Tryz.ntmps153
  go_wp2_with fail
  go_ret
  exact ⟨ret_bool (by simp [letV]; omega), rfl⟩
theorem tdigit_any (c : Int) (w : World) : Calls Tryz.prog 215 #[.int .u8 c] w fun e w' => e = .returned (.bool (digV c)) /\ w = w' := by
 by_cases h : 48 <= c
 ·by_cases h2 : c <= 57
  ·have d1 : decide (48 <= c) = true := decide_eq_true h
   have d2 : decide (c <= 57) = true := decide_eq_true h2
   go_enter Tryz.func215, Tryz.ntmps215
   go_wp2_with fail
   go_ret
   exact ⟨ret_bool (by simp [digV]; omega), rfl⟩
  ·have d1 : decide (48 <= c) = true := decide_eq_true h
   have d2 : decide (c <= 57) = false := decide_eq_false h2
   go_enter Tryz.func215, Tryz.ntmps215
   go_wp2_with fail
   go_ret
   exact ⟨ret_bool (by simp [digV]; omega), rfl⟩
 ·have d1 : decide (48 <= c) = false := decide_eq_false h
  go_enter Tryz.func215, Tryz.ntmps215
  go_wp2_with fail
  go_ret
  exact ⟨ret_bool (by simp [digV]; omega), rfl⟩
theorem lower_to {c : Int} {v : Bool} (h : letV c = v) (w : World) : Calls Tryz.prog 153 #[.int .u8 c] w fun e w' => e = .returned (.bool v) /\ w = w' := by
 subst h
 exact lower_any c w
theorem tdigit_to {c : Int} {v : Bool} (h : digV c = v) (w : World) : Calls Tryz.prog 215 #[.int .u8 c] w fun e w' => e = .returned (.bool v) /\ w = w' := by
 subst h
 exact tdigit_any c w
theorem inword_to {c : Int} {v : Bool} (h : inwV c = v) (w : World) : Calls Tryz.prog 154 #[.int .u8 c] w fun e w' => e = .returned (.bool v) /\ w = w' := by
 subst h
 obtain ⟨a, ha⟩ : ∃ a, letV c = a := ⟨_, rfl⟩
 obtain ⟨b, hb⟩ : ∃ a, digV c = a := ⟨_, rfl⟩
 obtain ⟨d, hd⟩ : ∃ a, (c == 95) = a := ⟨_, rfl⟩
 have hv : inwV c = (a || b || d) := by unfold inwV; rw [ha, hb, hd]
 have HA := Lib.hid ha
 have HB := Lib.hid hb
 rw [hv]
 clear ha hb hv
 go_enter Tryz.func154, Tryz.ntmps154
 go_wp2_with fail
 refine (lower_to HA.out _).mono ?_
 rintro e w1 ⟨rfl, rfl⟩
 cases a
 ·go_wp2_with fail
  refine (tdigit_to HB.out _).mono ?_
  rintro e w1 ⟨rfl, rfl⟩
  cases b
  ·go_wp2_with fail
   go_ret
   exact ⟨ret_bool (by simp), rfl⟩
  ·go_wp2_with fail
   go_ret
   exact ⟨ret_bool (by simp), rfl⟩
 ·go_wp2_with fail
  go_ret
  exact ⟨ret_bool (by simp), rfl⟩
def atB (s : ByteArray) (i : Nat) : Int := if h : i < s.size then (s[i].toNat : Int) else -1
theorem atB_lt {s : ByteArray} {i : Nat} (h : i < s.size) : atB s i = (s[i].toNat : Int) := dif_pos h
theorem atB_ge {s : ByteArray} {i : Nat} (h : ¬ i < s.size) : atB s i = -1 := dif_neg h
theorem tskip_to (s : ByteArray) {k j : Nat} (hkj : k <= j) (hj : j <= s.size) (hs : s.size <= 100000) (hb : ∀ i, k <= i -> i < j -> atB s i = 32) (he : atB s j ≠ 32 /\ atB s j ≠ 9 /\ atB s j ≠ 10 /\ atB s j ≠ 13 /\ atB s j ≠ 35) (w : World) :
  Calls Tryz.prog 151 #[.string s, .int .i64 (k : Int)] w fun e w' => e = .returned (.int .i64 (j : Int)) /\ w = w' := by
 have HB := Lib.hid hb
 have HE := Lib.hid he
 clear hb he
 go_enter Tryz.func151, Tryz.ntmps151
 go_wp2_with fail
 go_step3
 go_wp2_with fail
 go_step3
 go_wp2_with fail
 go_loop [1] (fun i => ∃ m : Nat, k <= m /\ m <= j /\ i = .int .i64 (m : Int)) (fun i => j - (intOf i).toNat)
 case atStart => exact ⟨k, by omega, hkj, rfl⟩
 case round =>
  obtain ⟨m, hm1, hm2, rfl⟩ := hrel
  by_cases hlt : m < j
  ·have hsz : m < s.size := by omega
   have e0 := HB.out m hm1 hlt
   rw [atB_lt hsz] at e0
   have d0 : ((s[m].toNat : Int) == 32) = true := beq_iff_eq.2 e0
   clear e0
   go_wp2_with fail
   go_round
   case rel => exact ⟨m + 1, by omega, by omega, by go_num⟩
   case measure => simp [intOf]; omega
  ·obtain rfl : m = j := by omega
   by_cases hsz : m < s.size
   ·obtain ⟨e1, e2, e3, e4, e5⟩ := HE.out
    rw [atB_lt hsz] at e1 e2 e3 e4 e5
    have d1 : ((s[m].toNat : Int) == 32) = false := beq_eq_false_iff_ne.2 e1
    have d2 : ((s[m].toNat : Int) == 9) = false := beq_eq_false_iff_ne.2 e2
    have d3 : ((s[m].toNat : Int) == 10) = false := beq_eq_false_iff_ne.2 e3
    have d4 : ((s[m].toNat : Int) == 13) = false := beq_eq_false_iff_ne.2 e4
    have d5 : ((s[m].toNat : Int) == 35) = false := beq_eq_false_iff_ne.2 e5
    clear e1 e2 e3 e4 e5
    go_wp2_with fail
    go_ret
    exact ⟨rfl, rfl⟩
   ·obtain rfl : m = s.size := by omega
    go_wp2_with fail
    go_ret
    exact ⟨rfl, rfl⟩
theorem natural_ok (l : By) (hl : ∀ c ∈ l, 48 <= c.toNat /\ c.toNat <= 57) (h9 : l.length <= 9) (w : World) :
  Calls Tryz.prog 156 #[.string (bs l)] w fun e w' => e = .returned (.tuple #[.int .i64 (valD l : Int), .bool true]) /\ w = w' := by
 have hsz := bs_size l
 go_enter Tryz.func156, Tryz.ntmps156
 go_wp2_with fail
 go_loop [2, 4] (fun x i => ∃ k : Nat, k <= l.length /\ x = .int .i64 (valD (l.take k) : Int) /\ i = .int .i64 (k : Int)) (fun _ i => l.length - (intOf i).toNat)
 case atStart => exact ⟨0, by omega, rfl, rfl⟩
 case round =>
  obtain ⟨k, hk, rfl, rfl⟩ := hrel
  by_cases hlt : k < l.length
  ·have hk2 : k < (bs l).size := by omega
   have hg : (bs l)[k] = l[k] := bs_get l k hk2
   obtain ⟨c1, c2⟩ := hl l[k] (List.getElem_mem hlt)
   have hv : valD (l.take (k + 1)) = 10 * valD (l.take k) + (l[k].toNat - 48) := (congrArg valD (List.take_succ_eq_append_getElem hlt)).trans (valD_snoc _ _)
   have hb : valD (l.take k) < 1000000000 := by
    have h1 := valD_lt k (l.take k) (by simp; omega) fun c hc => hl c (List.mem_of_mem_take hc)
    have h2 : 10 ^ k <= 10 ^ 9 := Nat.pow_le_pow_right (by omega) (by omega)
    omega
   have hd : digV ((bs l)[k].toNat : Int) = true := by rw [hg]; simp [digV]; omega
   rw [<- hg] at c1 c2 hv
   have HV := Lib.hid hv
   have HD := Lib.hid hd
   clear hv hd hg
   generalize hX : valD (l.take k) = X at *
   have HX := Lib.hid hX
   clear hX
   go_wp2_with fail
   refine (tdigit_to HD.out _).mono ?_
   rintro e w1 ⟨rfl, rfl⟩
   go_wp2_with fail
   go_round
   case rel => exact ⟨k + 1, by omega, by rw [HV.out]; go_num, by go_num⟩
   case measure => simp [intOf]; omega
  ·obtain rfl : k = l.length := by omega
   rw [List.take_length]
   go_wp2_with fail
   go_ret2
   exact ⟨rfl, rfl⟩
end
section
theorem drewN_drewN (w : World) (a b : Nat) : ∃ q, (w.drewN a).drewN b = w.drewN q := ⟨_, World.drewN_drewN w a b⟩
theorem below_to_drewN {n : Nat} {w v : World} (h : Below n w v) (q : Nat) : Below n w (v.drewN q) := ⟨h.os, h.tape, h.output, h.size, h.block⟩
theorem box_drewN {w : World} (o : Obj) (q : Nat) : Below w.heap.size w ((w.alloc o).drewN q) := by
 have h := (Below.refl w.heap.size w).alloc (Nat.le_refl _) o
 exact ⟨h.os, h.tape, h.output, h.size, h.block⟩
theorem gcdP_fn (a b : Nat) (ha : a <= 9000000000000000000) (hb : b <= 9000000000000000000) (w : World) : Calls Tryz.prog 148 #[.int .u64 (a : Int), .int .u64 (b : Int)] w fun e w' => e = .returned (.int .u64 ((Nat.gcd a b : Nat) : Int)) /\ ∃ q, w' = w.drewN q := by
 go_enter Tryz.func148, Tryz.ntmps148
 go_wp2_with fail
 go_loopw [0, 1] (fun u v wr => ∃ x y : Nat, u = .int .u64 (x : Int) /\ v = .int .u64 (y : Int) /\ x <= 9000000000000000000 /\ y <= 9000000000000000000 /\ Hid (Nat.gcd x y = Nat.gcd a b) /\ ∃ q, wr = w.drewN q) (fun _ v _ => (intOf v).toNat)
 case atStart => exact ⟨a, b, rfl, rfl, ha, hb, Lib.hid rfl, 0, rfl⟩
 case round =>
  obtain ⟨x, y, rfl, rfl, hx, hy, hg, q, rfl⟩ := hrel
  by_cases h0 : y = 0
  ·subst h0
   go_wp2_with fail
   go_ret
   refine ⟨?_, _, rfl⟩
   show Ending.returned (.int .u64 (x : Int)) = _
   rw [<- hg.out, Nat.gcd_zero_right]
  ·have d0 : ((y : Int) != 0) = true := by simp; omega
   have hym : x % y < y := Nat.mod_lt _ (by omega)
   have hy1 : 1 <= y := by omega
   go_wp2_with fail
   go_quiet (fail)
   go_wp2_with fail
   go_roundw
   case rel => exact ⟨y, x % y, rfl, by go_num, hy, by omega, Lib.hid (by rw [<- hg.out, Nat.gcd_comm x y, Nat.gcd_rec y x, Nat.gcd_comm]), drewN_drewN _ _ _⟩
   case measure => simp [intOf]; omega
theorem sizeP_nn (n : Int) (h0 : 0 <= n) (h1 : n <= 9000000000000000000) (w : World) : Calls Tryz.prog 149 #[.int .i64 n] w fun e w' => e = .returned (.int .u64 n) /\ w' = w := by
 go_enter Tryz.func149, Tryz.ntmps149
 go_wp2_with fail
 go_ret
 exact ⟨rfl, rfl⟩
theorem validP_ok (x y : Nat) (hx : x <= 1000000000000000) (hy1 : 1 <= y) (hy2 : y <= 1000000000) (hg : Nat.gcd x y = 1) (w : World) :
  Calls Tryz.prog 85 #[.agg #[.int .i64 (x : Int), .int .i64 (y : Int)]] w fun e w' => e = .returned (.bool true) /\ Below w.heap.size w w' := by
 have t1 : decide (1 <= (y : Int)) = true := decide_eq_true (by omega)
 have t2 : decide ((y : Int) <= 1000000000) = true := decide_eq_true (by omega)
 have t3 : decide (-1000000000000000 <= (x : Int)) = true := decide_eq_true (by omega)
 have t4 : decide ((x : Int) <= 1000000000000000) = true := decide_eq_true (by omega)
 have hs1 := fun u => sizeP_nn (x : Int) (by omega) (by omega) u
 have hs2 := fun u => sizeP_nn (y : Int) (by omega) (by omega) u
 have hg1 := fun u => gcdP_fn x y (by omega) (by omega) u
 rw [hg] at hg1
 clear hg
 go_enter Tryz.func85, Tryz.ntmps85
 go_upto_region 1 with (fail)
 go_quiet (first
  | (go_at_call 149; first | exact Calls.quiet_of_same (hs1 _) | exact Calls.quiet_of_same (hs2 _))
  | (go_at_call 148; exact Calls.quiet_of (hg1 _)))
 go_wp2_with fail
 go_ret
 exact ⟨rfl, box_drewN _ _⟩
end
end Go.Proofs.YtnlopdmhdiegnaaGreatDoor
