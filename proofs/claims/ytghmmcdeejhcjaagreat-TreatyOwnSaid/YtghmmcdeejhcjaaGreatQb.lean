/- The reader: what it holds; stop, is, take, want, kind. Words, and fractions: the reference's keyword, IsWord, IsName, Kind, Benefit, mode, size, gcd, over, lowest, MakeFraction. Fractions out of numbers' texts: the library's Div64 below 2^64; over, lowest, MakeFraction, Decimal. Fractions out of numbers' texts: the reference's MakeFraction, Decimal. -/
import Derived.Test.YtghmmcdeejhcjaaGreatQa
import Derived.Deep.QuietTactic
import Derived.BigQuiet
import Derived.Deep.RegionHeld3
namespace Go.Proofs.YtghmmcdeejhcjaaGreat
open Go.RowKit

/-- What a reader holds throughout: the slice of its tokens, the tokens, the text's length. -/
structure RC where
  A : Option Addr
  c : Nat
  L : List Tk
  z : Int
/-- A reader in memory, at a token, bad or not. -/
structure Rdr (w : World) (R : Nat) (K : RC) (a : Nat) (b : Bool) : Prop where
  row : w.heap[R]? = some (.cells #[.slice K.A K.L.length K.c, .int .i64 (a : Int), .int .i64 K.z, .bool b] 68 (0, 0))
  toks : Rd w R 3 K.A K.L.length (flat Tk.cells K.L)
  le : a ≤ K.L.length
  ok : ∀ x ∈ K.L, x.Ok
  len : K.L.length ≤ 8000
theorem Rdr.lt {w : World} {R : Nat} {K : RC} {a : Nat} {b : Bool} (h : Rdr w R K a b) : R < w.heap.size := (Array.getElem?_eq_some_iff.1 h.row).1
theorem Rdr.to {w w' : World} {R : Nat} {K : RC} {a : Nat} {b : Bool} (h : Rdr w R K a b) (hb : Below w.heap.size w w') : Rdr w' R K a b :=
  ⟨(hb.block R h.lt).trans h.row, h.toks.below (hb.mono (Nat.le_of_lt h.lt)), h.le, h.ok, h.len⟩
/-- Blocks but the reader's stand. -/
abbrev Kp (R : Nat) (w w' : World) : Prop := w.grownBy w' (some R)
theorem Kp.refl (R : Nat) (w : World) : Kp R w w := ⟨rfl, rfl, rfl, Nat.le_refl _, fun _ _ _ => rfl⟩
theorem Kp.trans {R : Nat} {a b c : World} (h : Kp R a b) (k : Kp R b c) : Kp R a c := grownBy_trans h k
theorem Kp.of {R : Nat} {w w' : World} (h : Below w.heap.size w w') : Kp R w w' := grownBy_of_below h _
theorem Rdr.set {w : World} {R : Nat} {K : RC} {a : Nat} {b : Bool} (h : Rdr w R K a b) {a' : Nat} {b' : Bool} (j : Nat) (v : Value)
    (hv : (#[.slice K.A K.L.length K.c, .int .i64 (a : Int), .int .i64 K.z, .bool b] : Array Value).setIfInBounds j v = #[.slice K.A K.L.length K.c, .int .i64 (a' : Int), .int .i64 K.z, .bool b']) (hle : a' ≤ K.L.length) : Rdr (w.setCell ⟨R, j, none⟩ v) R K a' b' := by
  refine ⟨by rw [heap_setCell_same w _ _ _ _ _ h.row, hv], ?_, hle, h.ok, h.len⟩
  exact h.toks.below ((Below.refl R w).setCell (Nat.le_refl R) v)
theorem Kp.set {R : Nat} (w : World) (j : Nat) (v : Value) : Kp R w (w.setCell ⟨R, j, none⟩ v) :=
  ⟨rfl, rfl, rfl, by simp [World.setCell], fun k _ hk => Below.heap_setCell _ _ _ _ (fun e => hk (by rw [e]))⟩
/-- A method leaves the reader at the same token or behind it. -/
def Mv (R : Nat) (K : RC) (a : Nat) (b : Bool) (w w' : World) : Prop := ∃ (a' : Nat) (b' : Bool), a ≤ a' ∧ (b = true → b' = true) ∧ Rdr w' R K a' b' ∧ Kp R w w'
/-- No result. -/
def RetN (R : Nat) (K : RC) (a : Nat) (b : Bool) (w : World) (e : Ending) (w' : World) : Prop := e = .returned (.tuple #[]) ∧ Mv R K a b w w'

set_option maxHeartbeats 1000000 in
theorem stop_any {R : Nat} {K : RC} {a : Nat} {b : Bool} {w : World} (h : Rdr w R K a b) : Calls Tryz.prog 35 #[.pointer (some ⟨R, 0, none⟩)] w fun e w' => e = .returned (.tuple #[]) ∧ Rdr w' R K a true ∧ Kp R w w' := by
  have c3 : w.cell? ⟨R, 3, none⟩ = some (.bool b) := by rw [cell_of_row _ _ _ _ _ _ h.row]; rfl
  have z3 := frozen_of_row w R 3 _ _ h.row
  go_enter Tryz.func35, Tryz.ntmps35
  go_wp2_with fail
  go_end0
  exact ⟨rfl, h.set 3 (.bool true) rfl h.le, Kp.set w 3 (.bool true)⟩
/-- The answer of is and kind. -/
def RetIs (K : RC) (a : Nat) (b : Bool) (S : Tk → Prop) (w : World) (e : Ending) (w' : World) : Prop := ∃ v : Bool, e = .returned (.bool v) ∧ (v = true → b = false ∧ ∃ x, K.L[a]? = some x ∧ S x) ∧ Below w.heap.size w w'
theorem below_N (w : World) (q : Nat) : Below w.heap.size w (w.drewN q) := ⟨rfl, rfl, rfl, Nat.le_refl _, fun _ _ => rfl⟩
set_option maxHeartbeats 4000000 in
theorem is_any {R : Nat} {K : RC} {a : Nat} {b : Bool} {w : World} (h : Rdr w R K a b) (s : ByteArray) : Calls Tryz.prog 39 #[.pointer (some ⟨R, 0, none⟩), .string s] w (RetIs K a b (fun _ => True) w) := by
  have c0 : w.cell? ⟨R, 0, none⟩ = some (.slice K.A K.L.length K.c) := by rw [cell_of_row _ _ _ _ _ _ h.row]; rfl
  have c1 : w.cell? ⟨R, 1, none⟩ = some (.int .i64 (a : Int)) := by rw [cell_of_row _ _ _ _ _ _ h.row]; rfl
  have c3 : w.cell? ⟨R, 3, none⟩ = some (.bool b) := by rw [cell_of_row _ _ _ _ _ _ h.row]; rfl
  have hL := h.len
  cases b
  · by_cases hlt : a < K.L.length
    · obtain ⟨x, hx⟩ : ∃ x, K.L[a]? = some x := ⟨_, List.getElem?_eq_getElem hlt⟩
      obtain ⟨_, g, o, hA, hgR, hc⟩ := h.toks.elem tk_len hx (by omega)
      have e1 : w.cell? ⟨g, o + a * 3 + 1, none⟩ = some (.string x.t) := hc 1 _ rfl
      have HX := Lib.hid hx
      have hd : decide ((a : Int) < (K.L.length : Int)) = true := decide_eq_true (by omega)
      have hlo : (0 : Int) ≤ (a : Int) := by omega
      have hhi : (a : Int) < (K.L.length : Int) := by omega
      rw [hA] at c0
      clear hx hc hA
      go_enter Tryz.func39, Tryz.ntmps39
      go_upto_region 1 with (fail)
      go_quiet (fail)
      go_wp2_with fail
      go_ret
      exact ⟨_, rfl, (fun _ => ⟨rfl, x, HX.out, trivial⟩), below_N _ _⟩
    · have hd : decide ((a : Int) < (K.L.length : Int)) = false := decide_eq_false (by omega)
      go_enter Tryz.func39, Tryz.ntmps39
      go_upto_region 1 with (fail)
      go_quiet (fail)
      go_wp2_with fail
      go_ret
      exact ⟨false, rfl, (fun h => by cases h), below_N _ _⟩
  · go_enter Tryz.func39, Tryz.ntmps39
    go_upto_region 1 with (fail)
    go_quiet (fail)
    go_wp2_with fail
    go_ret
    exact ⟨false, rfl, (fun h => by cases h), below_N _ _⟩
set_option maxHeartbeats 4000000 in
theorem kind_any {R : Nat} {K : RC} {a : Nat} {b : Bool} {w : World} (h : Rdr w R K a b) (k : Int) : Calls Tryz.prog 36 #[.pointer (some ⟨R, 0, none⟩), .int .i64 k] w (RetIs K a b (fun x => x.k = k) w) := by
  have c0 : w.cell? ⟨R, 0, none⟩ = some (.slice K.A K.L.length K.c) := by rw [cell_of_row _ _ _ _ _ _ h.row]; rfl
  have c1 : w.cell? ⟨R, 1, none⟩ = some (.int .i64 (a : Int)) := by rw [cell_of_row _ _ _ _ _ _ h.row]; rfl
  have c3 : w.cell? ⟨R, 3, none⟩ = some (.bool b) := by rw [cell_of_row _ _ _ _ _ _ h.row]; rfl
  have hL := h.len
  cases b
  · by_cases hlt : a < K.L.length
    · obtain ⟨x, hx⟩ : ∃ x, K.L[a]? = some x := ⟨_, List.getElem?_eq_getElem hlt⟩
      obtain ⟨_, g, o, hA, hgR, hc⟩ := h.toks.elem tk_len hx (by omega)
      have e1 : w.cell? ⟨g, o + a * 3, none⟩ = some (.int .i64 x.k) := hc 0 _ rfl
      have HX := Lib.hid hx
      have hd : decide ((a : Int) < (K.L.length : Int)) = true := decide_eq_true (by omega)
      have hlo : (0 : Int) ≤ (a : Int) := by omega
      have hhi : (a : Int) < (K.L.length : Int) := by omega
      rw [hA] at c0
      clear hx hc hA
      go_enter Tryz.func36, Tryz.ntmps36
      go_upto_region 1 with (fail)
      go_quiet (fail)
      go_wp2_with fail
      go_ret
      exact ⟨_, rfl, (fun h => ⟨rfl, x, HX.out, by simpa using h⟩), below_N _ _⟩
    · have hd : decide ((a : Int) < (K.L.length : Int)) = false := decide_eq_false (by omega)
      go_enter Tryz.func36, Tryz.ntmps36
      go_upto_region 1 with (fail)
      go_quiet (fail)
      go_wp2_with fail
      go_ret
      exact ⟨false, rfl, (fun h => by cases h), below_N _ _⟩
  · go_enter Tryz.func36, Tryz.ntmps36
    go_upto_region 1 with (fail)
    go_quiet (fail)
    go_wp2_with fail
    go_ret
    exact ⟨false, rfl, (fun h => by cases h), below_N _ _⟩
/-- The answer of take. -/
def RetTake (R : Nat) (K : RC) (a : Nat) (b : Bool) (w : World) (e : Ending) (w' : World) : Prop := ∃ v : Bool, e = .returned (.bool v) ∧ ((v = true ∧ b = false ∧ Rdr w' R K (a + 1) false) ∨ (v = false ∧ Rdr w' R K a b)) ∧ Kp R w w'
set_option maxHeartbeats 1000000 in
theorem take_any {R : Nat} {K : RC} {a : Nat} {b : Bool} {w : World} (h : Rdr w R K a b) (s : ByteArray) : Calls Tryz.prog 24 #[.pointer (some ⟨R, 0, none⟩), .string s] w (RetTake R K a b w) := by
  have hL := h.len
  have hle := h.le
  go_enter Tryz.func24, Tryz.ntmps24
  go_wp2_with fail
  refine (is_any h s).mono ?_
  rintro e w1 ⟨v, rfl, hv, hb⟩
  have h1 := h.to hb
  cases v
  · go_wp2_with fail
    go_ret
    exact ⟨false, rfl, .inr ⟨rfl, h1⟩, Kp.of hb⟩
  · obtain ⟨rfl, x, hx, -⟩ := hv rfl
    have hlt := (List.getElem?_eq_some_iff.1 hx).1
    clear hx hv
    have c1 : w1.cell? ⟨R, 1, none⟩ = some (.int .i64 (a : Int)) := by rw [cell_of_row _ _ _ _ _ _ h1.row]; rfl
    have z1 := frozen_of_row w1 R 1 _ _ h1.row
    go_wp2_with fail
    go_ret
    exact ⟨true, rfl, .inl ⟨rfl, rfl, h1.set 1 (.int .i64 ((a : Int) + 1)) (by simp) hlt⟩, (Kp.of hb).trans (Kp.set w1 1 _)⟩
set_option maxHeartbeats 1000000 in
theorem want_any {R : Nat} {K : RC} {a : Nat} {b : Bool} {w : World} (h : Rdr w R K a b) (s : ByteArray) : Calls Tryz.prog 21 #[.pointer (some ⟨R, 0, none⟩), .string s] w (RetN R K a b w) := by
  go_enter Tryz.func21, Tryz.ntmps21
  go_wp2_with fail
  refine (take_any h s).mono ?_
  rintro e w1 ⟨v, rfl, hv, hk⟩
  rcases hv with ⟨rfl, rfl, h1⟩ | ⟨rfl, h1⟩
  · go_wp2_with fail
    go_end0
    exact ⟨rfl, a + 1, false, by omega, (fun h => h), h1, hk⟩
  · go_wp2_with fail
    refine (stop_any h1).mono ?_
    rintro e w2 ⟨rfl, h2, hk2⟩
    go_wp2_with fail
    go_end0
    exact ⟨rfl, a, true, by omega, (fun _ => rfl), h2, hk.trans hk2⟩

set_option maxHeartbeats 4000000 in
theorem keyword_any (s : ByteArray) (w : World) : Calls Tryz.prog 53 #[.string s] w (RetB w) := by
  go_enter Tryz.func53, Tryz.ntmps53
  go_wp2_with fail
  all_goals (go_ret; exact ⟨_, rfl, rfl⟩)
set_option maxHeartbeats 4000000 in
theorem isword_any (s : ByteArray) (hs : s.size ≤ 100000) (w : World) : Calls Tryz.prog 52 #[.string s] w (RetB w) := by
  go_enter Tryz.func52, Tryz.ntmps52
  go_wp2_with fail
  go_loop [3] (fun i => ∃ j : Nat, j ≤ s.size ∧ i = .int .i64 (j : Int)) (fun i => s.size - (intOf i).toNat)
  case atStart => exact ⟨0, by omega, rfl⟩
  case round =>
    obtain ⟨j, hj, rfl⟩ := hrel
    by_cases hlt : j < s.size
    · obtain ⟨a, ha⟩ : ∃ a, letV (s[j].toNat : Int) = a := ⟨_, rfl⟩
      obtain ⟨b, hb⟩ : ∃ b, digV (s[j].toNat : Int) = b := ⟨_, rfl⟩
      have HA := Lib.hid ha
      have HB := Lib.hid hb
      clear ha hb
      cases a
      · by_cases h0 : j = 0
        · have d0 : ((j : Int) == 0) = true := by simp [h0]
          clear h0
          go_wp2_with fail
          refine (letter_to HA.out _).mono ?_
          rintro e w1 ⟨rfl, rfl⟩
          go_wp2_with fail
          go_ret
          exact ⟨_, rfl, rfl⟩
        · have d0 : ((j : Int) == 0) = false := by simp [h0]
          clear h0
          cases b
          all_goals
            go_wp2_with fail
            refine (letter_to HA.out _).mono ?_
            rintro e w1 ⟨rfl, rfl⟩
            go_wp2_with fail
            refine (digit_to HB.out _).mono ?_
            rintro e w1 ⟨rfl, rfl⟩
            go_wp2_with fail
            all_goals first
              | (go_ret; exact ⟨_, rfl, rfl⟩)
              | (go_round
                 case rel => exact ⟨j + 1, by omega, by go_num⟩
                 case measure => simp [intOf]; omega)
      · go_wp2_with fail
        refine (letter_to HA.out _).mono ?_
        rintro e w1 ⟨rfl, rfl⟩
        go_wp2_with fail
        go_round
        case rel => exact ⟨j + 1, by omega, by go_num⟩
        case measure => simp [intOf]; omega
    · by_cases h1 : 1 ≤ s.size
      · have hd : decide ((1 : Int) ≤ (s.size : Int)) = true := decide_eq_true (by omega)
        go_wp2_with fail
        go_ret
        exact ⟨_, rfl, rfl⟩
      · have hd : decide ((1 : Int) ≤ (s.size : Int)) = false := decide_eq_false (by omega)
        go_wp2_with fail
        go_ret
        exact ⟨_, rfl, rfl⟩
theorem isname_any (s : ByteArray) (hs : s.size ≤ 100000) (w : World) : Calls Tryz.prog 37 #[.string s] w (RetB w) := by
  go_enter Tryz.func37, Tryz.ntmps37
  go_wp2_with fail
  refine (isword_any s hs _).mono ?_
  rintro e w1 ⟨b, rfl, rfl⟩
  cases b
  · go_wp2_with fail
    go_ret
    exact ⟨_, rfl, rfl⟩
  · go_wp2_with fail
    refine (keyword_any s _).mono ?_
    rintro e w1 ⟨c, rfl, rfl⟩
    go_wp2_with fail
    go_ret
    exact ⟨_, rfl, rfl⟩
theorem kindw_any (s : ByteArray) (w : World) : Calls Tryz.prog 57 #[.string s] w (RetI w 0 14) := by
  go_enter Tryz.func57, Tryz.ntmps57
  go_wp2_with fail
  all_goals (go_ret; exact ⟨_, rfl, by omega, by omega, rfl⟩)
theorem benefitw_any (s : ByteArray) (w : World) : Calls Tryz.prog 58 #[.string s] w (RetI w 0 14) := by
  go_enter Tryz.func58, Tryz.ntmps58
  go_wp2_with fail
  all_goals (go_ret; exact ⟨_, rfl, by omega, by omega, rfl⟩)
theorem modew_any (s : ByteArray) (w : World) : Calls Tryz.prog 59 #[.string s] w (RetI w 0 14) := by
  go_enter Tryz.func59, Tryz.ntmps59
  go_wp2_with fail
  all_goals (go_ret; exact ⟨_, rfl, by omega, by omega, rfl⟩)

/-! Fractions. -/
theorem size_any (n : Int) (h0 : 0 ≤ n) (h1 : n ≤ 9000000000000000000) (w : World) : Calls Tryz.prog 87 #[.int .i64 n] w fun e w' => e = .returned (.int .u64 n) ∧ w = w' := by
  go_enter Tryz.func87, Tryz.ntmps87
  go_wp2_with fail
  go_ret
  exact ⟨rfl, rfl⟩
def RetU (w : World) (lo hi : Int) (e : Ending) (w' : World) : Prop := ∃ r : Int, e = .returned (.int .u64 r) ∧ lo ≤ r ∧ r ≤ hi ∧ Below w.heap.size w w'
set_option maxHeartbeats 1000000 in
theorem gcd_any (a b : Nat) (ha : a ≤ 9000000000000000000) (hb : b ≤ 9000000000000000000) (h1 : 1 ≤ a ∨ 1 ≤ b) (w : World) : Calls Tryz.prog 121 #[.int .u64 (a : Int), .int .u64 (b : Int)] w (RetU w 1 9000000000000000000) := by
  go_enter Tryz.func121, Tryz.ntmps121
  go_wp2_with fail
  go_loopw [0, 1] (fun u v wr => ∃ x y : Nat, u = .int .u64 (x : Int) ∧ v = .int .u64 (y : Int) ∧ x ≤ 9000000000000000000 ∧ y ≤ 9000000000000000000 ∧ (1 ≤ x ∨ 1 ≤ y) ∧ Below w.heap.size w wr) (fun _ v _ => (intOf v).toNat)
  case atStart => exact ⟨a, b, rfl, rfl, ha, hb, h1, Below.refl _ _⟩
  case round =>
    obtain ⟨x, y, rfl, rfl, hx, hy, hxy, hbr⟩ := hrel
    by_cases h0 : y = 0
    · subst h0
      have hx1 : 1 ≤ x := by omega
      go_wp2_with fail
      go_ret
      exact ⟨_, rfl, by omega, by omega, hbr⟩
    · have d0 : ((y : Int) != 0) = true := by simp; omega
      have hym : x % y < y := Nat.mod_lt _ (by omega)
      have hy1 : 1 ≤ y := by omega
      go_wp2_with fail
      go_quiet (fail)
      go_wp2_with fail
      trace_state
      go_roundw
      case rel => exact ⟨y, x % y, rfl, by go_num, hy, by omega, .inl hy1, hbr.trans (below_N _ _ |>.mono hbr.size)⟩
      case measure => simp [intOf]; omega

set_option maxRecDepth 100000 in
set_option maxHeartbeats 1000000 in
theorem div64_any (n d : Nat) (hn : n ≤ 9000000000000000000) (hd : 1 ≤ d) (hd2 : d ≤ 9000000000000000000) (w : World) : Calls Tryz.prog 135 #[.int .u64 0, .int .u64 (n : Int), .int .u64 (d : Int)] w fun e w' => e = .returned (.tuple #[.int .u64 ((n : Int) / (d : Int)), .int .u64 ((n : Int) % (d : Int))]) ∧ ∃ q, w' = w.drewN q := by
  have e1 : ((d : Int) == 0) = false := by simp; omega
  have e2 : decide ((d : Int) ≤ 0) = false := decide_eq_false (by omega)
  have e3 : ¬ (d : Int) ≤ 0 := by omega
  have e4 : (1 : Int) ≤ (d : Int) := by omega
  have q0 : 0 ≤ (n : Int) / (d : Int) := Int.ediv_nonneg (by omega) (by omega)
  have q1 : (n : Int) / (d : Int) ≤ n := Int.ediv_le_self _ (by omega)
  have q2 : IntKind.u64.wrap ((n : Int) / (d : Int)) = (n : Int) / (d : Int) := IntWalk.u64_in _ (by omega)
  go_enter Tryz.func135, Tryz.ntmps135
  go_wp2_with fail
  go_quiet (fail)
  go_wp2_with fail
  go_ret2
  exact ⟨rfl, _, rfl⟩
theorem below_aaN (w : World) (o1 o2 : Obj) (q : Nat) : Below w.heap.size w (((w.alloc o1).alloc o2).drewN q) := by
  have h := ((Below.refl w.heap.size w).alloc (Nat.le_refl _) o1).alloc (by simp) o2
  exact ⟨h.os, h.tape, h.output, h.size, h.block⟩
set_option maxRecDepth 100000 in
set_option maxHeartbeats 1000000 in
theorem over_any (n d : Nat) (hn : n ≤ 9000000000000000000) (hd : 1 ≤ d) (hd2 : d ≤ 9000000000000000000) (w : World) : Calls Tryz.prog 120 #[.agg #[.int .u64 0, .int .u64 (n : Int)], .int .u64 (d : Int)] w fun e w' => e = .returned (.tuple #[.agg #[.int .u64 0, .int .u64 ((n : Int) / (d : Int))], .int .u64 ((n : Int) % (d : Int))]) ∧ Below w.heap.size w w' := by
  have e4 : (1 : Int) ≤ (d : Int) := by omega
  have z0 : (0 : Int) % (d : Int) = 0 := Int.zero_emod _
  have z1 : (0 : Int) / (d : Int) = 0 := Int.zero_ediv _
  have z2 : (0 : Int).tmod (d : Int) = 0 := Int.zero_tmod _
  have z3 : (0 : Int).tdiv (d : Int) = 0 := Int.zero_tdiv _
  go_enter Tryz.func120, Tryz.ntmps120
  go_upto_region 1 with (fail)
  go_quiet ((go_at_call 135; exact Calls.quiet_of (div64_any n d hn hd hd2 _)))
  go_wp2_with fail
  exact bodyPost_ret (v := .tuple #[.agg #[.int .u64 0, .int .u64 ((n : Int) / (d : Int))], .int .u64 ((n : Int) % (d : Int))]) (by simp [results, Tryz.f120, go_sem]) rfl ⟨rfl, ((below_aaN w _ _ _).setCell (p := ⟨w.heap.size + 1, 0, none⟩) (Nat.le_succ _) _).setCell (p := ⟨w.heap.size + 1, 1, none⟩) (Nat.le_succ _) _⟩
theorem gcd_z {a b : Int} (ha : 0 ≤ a ∧ a ≤ 9000000000000000000) (hb : 0 ≤ b ∧ b ≤ 9000000000000000000) (h1 : 1 ≤ a ∨ 1 ≤ b) (w : World) : Calls Tryz.prog 121 #[.int .u64 a, .int .u64 b] w (RetU w 1 9000000000000000000) := by
  obtain ⟨x, rfl⟩ : ∃ x : Nat, a = (x : Int) := ⟨a.toNat, by omega⟩
  obtain ⟨y, rfl⟩ : ∃ y : Nat, b = (y : Int) := ⟨b.toNat, by omega⟩
  exact gcd_any x y (by omega) (by omega) (by omega) w
theorem over_z {n d : Int} (hn : 0 ≤ n ∧ n ≤ 9000000000000000000) (hd : 1 ≤ d ∧ d ≤ 9000000000000000000) (w : World) : Calls Tryz.prog 120 #[.agg #[.int .u64 0, .int .u64 n], .int .u64 d] w fun e w' => (∃ q r : Int, e = .returned (.tuple #[.agg #[.int .u64 0, .int .u64 q], .int .u64 r]) ∧ 0 ≤ q ∧ q ≤ n ∧ 0 ≤ r ∧ r < d) ∧ Below w.heap.size w w' := by
  obtain ⟨x, rfl⟩ : ∃ x : Nat, n = (x : Int) := ⟨n.toNat, by omega⟩
  obtain ⟨y, rfl⟩ : ∃ y : Nat, d = (y : Int) := ⟨d.toNat, by omega⟩
  refine (over_any x y (by omega) (by omega) (by omega) w).mono ?_
  rintro e w' ⟨rfl, hb⟩
  exact ⟨⟨_, _, rfl, Int.ediv_nonneg (by omega) (by omega), Int.ediv_le_self _ (by omega), Int.emod_nonneg _ (by omega), Int.emod_lt_of_pos _ (by omega)⟩, hb⟩
/-- Fractions that come out of numbers' texts are small. -/
def FrOk (n d : Int) : Prop := 0 ≤ n ∧ n ≤ 1000000000000000 ∧ 0 ≤ d ∧ d ≤ 1000000000
def RetFr (w : World) (e : Ending) (w' : World) : Prop := ∃ n d er : Int, e = .returned (.tuple #[.agg #[.int .i64 n, .int .i64 d], .int .i64 er]) ∧ FrOk n d ∧ Below w.heap.size w w'
set_option maxRecDepth 100000 in
set_option maxHeartbeats 2000000 in
theorem lowest_any (n d : Nat) (hn : n ≤ 1000000000000000000) (hd : 1 ≤ d) (hd2 : d ≤ 1000000000000000000) (w : World) : Calls Tryz.prog 86 #[.bool false, .agg #[.int .u64 0, .int .u64 (n : Int)], .int .u64 (d : Int)] w (RetFr w) := by
  obtain ⟨W, hW, r0, r1, hz, hbel⟩ : ∃ W, W = (w.alloc (.cells #[.int .u64 0, .int .u64 (n : Int)] 160)).alloc (.cells #[.int .i64 0, .int .i64 0] 38) ∧ W.heap[w.heap.size]? = some (.cells #[.int .u64 0, .int .u64 (n : Int)] 160 (0, 0)) ∧ W.heap[w.heap.size + 1]? = some (.cells #[.int .i64 0, .int .i64 0] 38 (0, 0)) ∧ W.heap.size = w.heap.size + 2 ∧ Below w.heap.size w W := by
    refine ⟨_, rfl, (Below.heap_alloc _ _ _ (by simp)).trans (heap_alloc_new w _), heap_alloc2_new w _ _, by simp, ((Below.refl _ w).alloc (Nat.le_refl _) _).alloc (by simp) _⟩
  go_enter Tryz.func86, Tryz.ntmps86
  go_upto_region 1 with (fail)
  rw [← hW]
  clear hW
  have c0 : W.cell? ⟨w.heap.size, 0, none⟩ = some (.int .u64 0) := by rw [cell_of_row _ _ _ _ _ _ r0]; rfl
  have c1 : W.cell? ⟨w.heap.size, 1, none⟩ = some (.int .u64 (n : Int)) := by rw [cell_of_row _ _ _ _ _ _ r0]; rfl
  go_wp2_with fail
  refine (over_z (n := (n : Int)) (d := (d : Int)) (by omega) (by omega) _).mono ?_
  rintro e w1 ⟨⟨q, r, rfl, hq0, hq1, hr0, hr1⟩, hb1⟩
  have r0' := (hb1.block w.heap.size (by omega)).trans r0
  have r1' := (hb1.block (w.heap.size + 1) (by omega)).trans r1
  have hbb := hbel.trans (hb1.mono (by omega))
  have hz1 := hb1.size
  clear r0 r1 hb1 hbel c0 c1
  go_upto_region 2 with (fail)
  obtain ⟨V, hV, k0, k1, hzV, hbV⟩ : ∃ V, V = w1.alloc (.cells #[.int .u64 0, .int .u64 q] 160) ∧ V.heap[w.heap.size]? = some (.cells #[.int .u64 0, .int .u64 (n : Int)] 160 (0, 0)) ∧ V.heap[w.heap.size + 1]? = some (.cells #[.int .i64 0, .int .i64 0] 38 (0, 0)) ∧ w.heap.size + 2 ≤ V.heap.size ∧ Below w.heap.size w V :=
    ⟨_, rfl, (Below.heap_alloc _ _ _ (by omega)).trans r0', (Below.heap_alloc _ _ _ (by omega)).trans r1', by simp; omega, hbb.alloc (by omega) _⟩
  rw [← hV]
  clear hV r0' r1' hbb hz1 hz
  go_wp2_with fail
  refine (gcd_z (by omega) (by omega) (by omega) _).mono ?_
  rintro e w2 ⟨g, rfl, hg1, hg2, hb2⟩
  have c0 : w2.cell? ⟨w.heap.size, 0, none⟩ = some (.int .u64 0) := by rw [cell_of_row _ _ _ _ _ _ ((hb2.block w.heap.size (by omega)).trans k0)]; rfl
  have c1 : w2.cell? ⟨w.heap.size, 1, none⟩ = some (.int .u64 (n : Int)) := by rw [cell_of_row _ _ _ _ _ _ ((hb2.block w.heap.size (by omega)).trans k0)]; rfl
  have k0' := (hb2.block w.heap.size (by omega)).trans k0
  have k1' := (hb2.block (w.heap.size + 1) (by omega)).trans k1
  have hbb2 := hbV.trans (hb2.mono (by omega))
  have hz2 := hb2.size
  clear k0 k1 hbV hb2
  go_wp2_with fail
  refine (over_z (n := (n : Int)) (d := g) (by omega) (by omega) _).mono ?_
  rintro e w3 ⟨⟨q2, r2, rfl, hq20, hq21, hr20, hr21⟩, hb3⟩
  have k0 := (hb3.block w.heap.size (by omega)).trans k0'
  have k1 := (hb3.block (w.heap.size + 1) (by omega)).trans k1'
  have hbb3 := hbb2.trans (hb3.mono (by omega))
  have hz3 := hb3.size
  clear k0' k1' c0 c1 hbb2 hb3
  have c0 : w3.cell? ⟨w.heap.size, 0, none⟩ = some (.int .u64 0) := by rw [cell_of_row _ _ _ _ _ _ k0]; rfl
  have c1 : w3.cell? ⟨w.heap.size, 1, none⟩ = some (.int .u64 (n : Int)) := by rw [cell_of_row _ _ _ _ _ _ k0]; rfl
  have z0 := frozen_of_row w3 w.heap.size 0 _ _ k0
  have z1 := frozen_of_row w3 w.heap.size 1 _ _ k0
  have f0 : w3.cell? ⟨w.heap.size + 1, 0, none⟩ = some (.int .i64 0) := by rw [cell_of_row _ _ _ _ _ _ k1]; rfl
  have f1 : w3.cell? ⟨w.heap.size + 1, 1, none⟩ = some (.int .i64 0) := by rw [cell_of_row _ _ _ _ _ _ k1]; rfl
  have y0 := frozen_of_row w3 (w.heap.size + 1) 0 _ _ k1
  have y1 := frozen_of_row w3 (w.heap.size + 1) 1 _ _ k1
  have t0 : 0 ≤ (d : Int) / g := Int.ediv_nonneg (by omega) (by omega)
  have t1 : (d : Int) / g ≤ d := Int.ediv_le_self _ (by omega)
  have t2 : IntKind.u64.wrap ((d : Int) / g) = (d : Int) / g := IntWalk.u64_in _ (by omega)
  obtain ⟨D, hD⟩ : ∃ D, (d : Int) / g = D := ⟨_, rfl⟩
  rw [hD] at t0 t1 t2
  have HD := Lib.hid hD
  have hx1 : w.heap.size + 1 < w3.heap.size := by omega
  have hx2 : w.heap.size < w3.heap.size := by omega
  have hS : ∀ u0 u1, Below w.heap.size w ((w3.setCell ⟨w.heap.size, 0, none⟩ u0).setCell ⟨w.heap.size, 1, none⟩ u1) := fun u0 u1 => (hbb3.setCell (Nat.le_refl _) _).setCell (Nat.le_refl _) _
  by_cases g1 : 1000000000000000 < q2
  · have e1 : decide (1000000000000000 < q2) = true := decide_eq_true g1
    clear hD
    go_wp2_with fail
    exact bodyPost_ret (v := .tuple #[.agg #[.int .i64 0, .int .i64 0], .int .i64 2]) (by simp [results, Tryz.f86, go_sem, f0, f1]) rfl ⟨0, 0, 2, rfl, ⟨by omega, by omega, by omega, by omega⟩, ((hS _ _).setCell (p := ⟨w.heap.size + 1, 0, none⟩) (Nat.le_succ _) _).setCell (p := ⟨w.heap.size + 1, 1, none⟩) (Nat.le_succ _) _⟩
  · have e1 : decide (1000000000000000 < q2) = false := decide_eq_false g1
    by_cases g2 : 1000000000 < D
    · have e2 : decide (1000000000 < D) = true := decide_eq_true g2
      go_wp2_with fail
      exact bodyPost_ret (v := .tuple #[.agg #[.int .i64 0, .int .i64 0], .int .i64 2]) (by simp [results, Tryz.f86, go_sem, f0, f1]) rfl ⟨0, 0, 2, rfl, ⟨by omega, by omega, by omega, by omega⟩, ((hS _ _).setCell (p := ⟨w.heap.size + 1, 0, none⟩) (Nat.le_succ _) _).setCell (p := ⟨w.heap.size + 1, 1, none⟩) (Nat.le_succ _) _⟩
    · have e2 : decide (1000000000 < D) = false := decide_eq_false g2
      go_wp2_with fail
      exact bodyPost_ret (v := .tuple #[.agg #[.int .i64 q2, .int .i64 D], .int .i64 0]) (by simp [results, Tryz.f86, go_sem, f0, f1, hx1]) rfl ⟨q2, D, 0, rfl, ⟨by omega, by omega, by omega, by omega⟩, (((hS _ _).setCell (p := ⟨w.heap.size + 1, 0, none⟩) (Nat.le_succ _) _).setCell (p := ⟨w.heap.size + 1, 1, none⟩) (Nat.le_succ _) _).alloc (by simp; omega) _⟩

set_option maxRecDepth 100000 in
set_option maxHeartbeats 2000000 in
theorem makefr_any (n d : Nat) (hn : n ≤ 1000000000000000000) (hd : 1 ≤ d) (hd2 : d ≤ 1000000000000000000) (w : World) : Calls Tryz.prog 55 #[.int .i64 (n : Int), .int .i64 (d : Int)] w (RetFr w) := by
  have e0 : ((d : Int) == 0) = false := by simp; omega
  have e1 : ¬ (n : Int) < 0 := by omega
  have e2 : ¬ (d : Int) < 0 := by omega
  have hr := heap_alloc_new w (.cells #[.int .i64 0, .int .i64 0] 38)
  have hbel := (Below.refl w.heap.size w).alloc (Nat.le_refl _) (.cells #[.int .i64 0, .int .i64 0] 38)
  go_enter Tryz.func55, Tryz.ntmps55
  go_wp2_with fail
  refine (size_any (n : Int) (by omega) (by omega) _).mono ?_
  rintro e w1 ⟨rfl, rfl⟩
  go_wp2_with fail
  refine (size_any (d : Int) (by omega) (by omega) _).mono ?_
  rintro e w1 ⟨rfl, rfl⟩
  go_wp2_with fail
  refine (lowest_any n d hn hd hd2 _).mono ?_
  rintro e w1 ⟨x, y, er, rfl, hf, hb⟩
  have r1 := (hb.block w.heap.size (by simp)).trans hr
  have f0 : w1.cell? ⟨w.heap.size, 0, none⟩ = some (.int .i64 0) := by rw [cell_of_row _ _ _ _ _ _ r1]; rfl
  have f1 : w1.cell? ⟨w.heap.size, 1, none⟩ = some (.int .i64 0) := by rw [cell_of_row _ _ _ _ _ _ r1]; rfl
  have y0 := frozen_of_row w1 w.heap.size 0 _ _ r1
  have y1 := frozen_of_row w1 w.heap.size 1 _ _ r1
  have hbb := hbel.trans (hb.mono hbel.size)
  have HF := Lib.hid hf
  clear r1 hr hb hbel hf
  go_wp2_with fail
  exact bodyPost_ret (v := .tuple #[.agg #[.int .i64 x, .int .i64 y], .int .i64 er]) (by simp [results, Tryz.f55, go_sem, f0, f1]) rfl ⟨x, y, er, rfl, HF.out, (hbb.setCell (p := ⟨w.heap.size, 0, none⟩) (Nat.le_refl _) _).setCell (p := ⟨w.heap.size, 1, none⟩) (Nat.le_refl _) _⟩
/-- What Decimal returns: a fraction, a dimension. -/
def RetDec (w : World) (e : Ending) (w' : World) : Prop := ∃ (n d dim : Int) (ok : Bool), e = .returned (.tuple #[.agg #[.int .i64 n, .int .i64 d], .int .i64 dim, .bool ok]) ∧ FrOk n d ∧ 0 ≤ dim ∧ dim ≤ 4 ∧ Below w.heap.size w w'
theorem u8_bd (c : Int) : 0 ≤ IntKind.u8.wrap c ∧ IntKind.u8.wrap c ≤ 255 := by
  have h : IntKind.u8.wrap c = c % 256 := by rfl
  rw [h]
  omega
set_option maxRecDepth 100000 in
set_option maxHeartbeats 4000000 in
theorem decimal_any (s : ByteArray) (hs : s.size ≤ 100000) (w : World) : Calls Tryz.prog 38 #[.string s] w (RetDec w) := by
  have hbel := (Below.refl w.heap.size w).alloc (Nat.le_refl _) (.cells #[.int .i64 0, .int .i64 0] 38)
  go_enter Tryz.func38, Tryz.ntmps38
  go_wp2_with fail
  refine (parts_any s hs _).mono ?_
  rintro e w1 ⟨a, b, dim, ok, rfl, hok, rfl⟩
  cases ok
  · clear hok
    go_wp2_with fail
    exact bodyPost_ret (v := .tuple #[.agg #[.int .i64 0, .int .i64 0], .int .i64 0, .bool false]) (by simp [results, Tryz.f38, go_sem]) rfl ⟨0, 0, 0, false, rfl, ⟨by omega, by omega, by omega, by omega⟩, by omega, by omega, hbel⟩
  · obtain ⟨ha, hb, hd1, hd2⟩ := hok rfl
    clear hok
    obtain ⟨ab, hx⟩ : ∃ ab, a ++ b = ab := ⟨_, rfl⟩
    have habs : ab.size = a.size + b.size := by rw [← hx]; exact ByteArray.size_append
    have HAB := Lib.hid habs
    clear habs
    go_wp2_with fail
    go_loopw [9, 10, 11] (fun n d i wr => ∃ (j N D : Nat), j ≤ a.size + b.size ∧ i = .int .i64 (j : Int) ∧ n = .int .i64 (N : Int) ∧ d = .int .i64 (D : Int) ∧ N ≤ 29 * 10 ^ j ∧ N + 29 ≤ 29 * 10 ^ j ∧ 1 ≤ D ∧ D ≤ 10 ^ j ∧ wr = w.alloc (.cells #[.int .i64 0, .int .i64 0] 38)) (fun _ _ i _ => a.size + b.size - (intOf i).toNat)
    case atStart => exact ⟨0, 0, 1, by omega, rfl, rfl, rfl, by omega, by omega, by omega, by omega, rfl⟩
    case round =>
      obtain ⟨j, N, D, hj, rfl, rfl, rfl, hN1, hN2, hD1, hD2, rfl⟩ := hrel
      have hp : 10 ^ j ≤ 10 ^ 13 := Nat.pow_le_pow_right (by omega) (by omega)
      have hps : 10 ^ (j + 1) = 10 * 10 ^ j := by rw [Nat.pow_succ, Nat.mul_comm]
      obtain ⟨P, hP⟩ : ∃ P, 10 ^ j = P := ⟨_, rfl⟩
      rw [hP] at hN1 hN2 hD2 hp hps
      have HPS := Lib.hid hps
      have hp2 : P ≤ 10000000000000 := hp
      clear hP hps hp
      by_cases hlt : j < a.size + b.size
      · have hd5 : decide ((j : Int) < (a.size : Int) + (b.size : Int)) = true := decide_eq_true (by omega)
        have hjx : j < ab.size := by rw [HAB.out]; exact hlt
        obtain ⟨q, hq⟩ : ∃ q, IntKind.u8.wrap ((ab[j].toNat : Int) - 48) = q := ⟨_, rfl⟩
        have hqb := u8_bd ((ab[j].toNat : Int) - 48)
        rw [hq] at hqb
        obtain ⟨Q, rfl⟩ : ∃ Q : Nat, q = (Q : Int) := ⟨q.toNat, by omega⟩
        go_wp2_with fail
        all_goals
          go_roundw
          case rel => first
            | exact ⟨j + 1, N * 10 + Q, D * 10, by omega, by go_num, by go_num, by go_num, by rw [HPS.out]; omega, by rw [HPS.out]; omega, by omega, by rw [HPS.out]; omega, by first | trivial | rfl⟩
            | exact ⟨j + 1, N * 10 + Q, D, by omega, by go_num, by go_num, rfl, by rw [HPS.out]; omega, by rw [HPS.out]; omega, by omega, by rw [HPS.out]; omega, by first | trivial | rfl⟩
          case measure => simp [intOf]; omega
      · have hd5 : decide ((j : Int) < (a.size : Int) + (b.size : Int)) = false := decide_eq_false (by omega)
        clear hx
        have hr := heap_alloc_new w (.cells #[.int .i64 0, .int .i64 0] 38)
        go_wp2_with fail
        refine (makefr_any N D (by omega) hD1 (by omega) _).mono ?_
        rintro e w1 ⟨x, y, er, rfl, hf, hb⟩
        have r1 := (hb.block w.heap.size (by simp)).trans hr
        have f0 : w1.cell? ⟨w.heap.size, 0, none⟩ = some (.int .i64 0) := by rw [cell_of_row _ _ _ _ _ _ r1]; rfl
        have f1 : w1.cell? ⟨w.heap.size, 1, none⟩ = some (.int .i64 0) := by rw [cell_of_row _ _ _ _ _ _ r1]; rfl
        have y0 := frozen_of_row w1 w.heap.size 0 _ _ r1
        have y1 := frozen_of_row w1 w.heap.size 1 _ _ r1
        have hbb := hbel.trans (hb.mono hbel.size)
        have hlt1 : w.heap.size < w1.heap.size := (Array.getElem?_eq_some_iff.1 r1).1
        have HF := Lib.hid hf
        clear r1 hr hb hbel hf
        go_wp2_with fail
        exact bodyPost_ret (v := .tuple #[.agg #[.int .i64 x, .int .i64 y], .int .i64 dim, .bool true]) (by simp [results, Tryz.f38, go_sem, f0, f1, hlt1]) rfl ⟨x, y, dim, true, rfl, HF.out, by omega, by omega, ((hbb.setCell (p := ⟨w.heap.size, 0, none⟩) (Nat.le_refl _) _).setCell (p := ⟨w.heap.size, 1, none⟩) (Nat.le_refl _) _).alloc (by simp; omega) _⟩
end Go.Proofs.YtghmmcdeejhcjaaGreat
