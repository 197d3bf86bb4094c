/- Rows of decisions in memory; the small functions: months, Mod. -/
import Derived.Test.YtbogmkhoppffgaaOpenN
import Derived.Test.YtbogmkhoppffgaaSched
import Derived.OwnWalk
import Derived.IntWalk
import Derived.Deep.QuietTactic
import Derived.BigQuiet
import Derived.Deep.LoopGhost
import Derived.Deep.RegionHeld3
namespace Go.Proofs.Ytbogmkhoppffgaa
open Go.RowKit

theorem ret_int {k : IntKind} {a b : Int} (h : a = b) : Ending.returned (.int k a) = .returned (.int k b) := by rw [h]
theorem ret_bool {a b : Bool} (h : a = b) : Ending.returned (.bool a) = .returned (.bool b) := by rw [h]

def Rw.cells (r : Rw) : List Value := [.int .i64 r.s, .int .i64 r.b, .int .i64 r.m, .int .i64 r.c, .int .i64 r.a, .bool r.p]
theorem rw_len (x : Rw) : x.cells.length = 6 := rfl
theorem rw_flen (l : List Rw) : (flat Rw.cells l).length = l.length * 6 := flat_length rw_len l
theorem rw_one (l : List Rw) : ∀ u ∈ flat Rw.cells l, u.oneCell' = true := by
  intro u hu
  obtain ⟨x, _, hx⟩ := List.mem_flatMap.1 hu
  simp only [Rw.cells, List.mem_cons, List.not_mem_nil, or_false] at hx
  rcases hx with rfl | rfl | rfl | rfl | rfl | rfl <;> rfl
/-- The cells of one row. -/
theorem rw_cells {w : World} {B n : Nat} {A : Option Addr} {l : List Rw} (h : Rd w B 6 A n (flat Rw.cells l)) {k : Nat} {x : Rw} (hx : l[k]? = some x) :
    k < n ∧ ∃ b o, A = some ⟨b, o, none⟩ ∧ b < B ∧ w.cell? ⟨b, o + k * 6, none⟩ = some (.int .i64 x.s) ∧ w.cell? ⟨b, o + k * 6 + 1, none⟩ = some (.int .i64 x.b) ∧ w.cell? ⟨b, o + k * 6 + 2, none⟩ = some (.int .i64 x.m) ∧
      w.cell? ⟨b, o + k * 6 + 3, none⟩ = some (.int .i64 x.c) ∧ w.cell? ⟨b, o + k * 6 + 4, none⟩ = some (.int .i64 x.a) ∧ w.cell? ⟨b, o + k * 6 + 5, none⟩ = some (.bool x.p) := by
  obtain ⟨hk, b, o, e, hb, hc⟩ := h.elem rw_len hx (by omega)
  exact ⟨hk, b, o, e, hb, by simpa using hc 0 _ rfl, hc 1 _ rfl, hc 2 _ rfl, hc 3 _ rfl, hc 4 _ rfl, hc 5 _ rfl⟩
/-- A slice that reads as rows. -/
def Dr (w : World) (A : Option Addr) (n : Nat) (l : List Rw) : Prop := Rd w w.heap.size 6 A n (flat Rw.cells l) ∧ l.length = n
theorem Dr.below {w w' : World} {A : Option Addr} {n : Nat} {l : List Rw} (h : Dr w A n l) (hb : Below w.heap.size w w') : Dr w' A n l := ⟨(h.1.below hb).mono hb.size, h.2⟩
theorem Dr.ofOwn {w : World} {A : Option Addr} {base n c : Nat} {l : List Rw} (h : w.ownsRow base 52 6 (.slice A n c) n (flat Rw.cells l)) (hn : l.length = n) : Dr w A n l := ⟨Rd.ofOwn h, hn⟩
theorem Dr.nil (w : World) : Dr w none 0 [] := ⟨Rd.zero _ _ _ _, rfl⟩
theorem Dr.drewN {w : World} {A : Option Addr} {n : Nat} {l : List Rw} (h : Dr w A n l) (q : Nat) : Dr (w.drewN q) A n l := h
/-- Numbers of a row that came in lie in the range of int. -/
def Rw.ok (r : Rw) : Prop := I64 r.s ∧ I64 r.b ∧ I64 r.m ∧ I64 r.c ∧ I64 r.a
theorem info_row : (Try.prog.info? 52).map (fun i => (i.zero, i.size, i.bytes)) = some (some (.agg #[.int .i64 0, .int .i64 0, .int .i64 0, .int .i64 0, .int .i64 0, .bool false]), 6, 48) := by kernel_rfl
theorem drop_getR {α : Type} {l : List α} {k : Nat} {x : α} (hx : l[k]? = some x) : l.drop k = x :: l.drop (k + 1) := by
  obtain ⟨hl, he⟩ := List.getElem?_eq_some_iff.1 hx
  rw [List.drop_eq_getElem_cons hl, he]

theorem ismon_any (n : Int) (w : World) : Calls Try.prog 35 #[.int .i64 n] w fun e w' => e = .returned (.bool (monB n)) ∧ w = w' := by
  by_cases h : 0 ≤ n
  · have e1 : decide (0 ≤ n) = true := by simpa using h
    by_cases h2 : n ≤ 2399
    · have e2 : decide (n ≤ 2399) = true := by simpa using h2
      rw [(monB_iff n).2 ⟨h, h2⟩]
      go_enter Try.func35, Try.ntmps35
      go_wp2
      go_ret
      exact ⟨rfl, rfl⟩
    · have e2 : decide (n ≤ 2399) = false := by simpa using h2
      rw [(monB_no n).2 (by omega)]
      go_enter Try.func35, Try.ntmps35
      go_wp2
      go_ret
      exact ⟨rfl, rfl⟩
  · have e1 : decide (0 ≤ n) = false := by simpa using h
    rw [(monB_no n).2 (by omega)]
    go_enter Try.func35, Try.ntmps35
    go_wp2
    go_ret
    exact ⟨rfl, rfl⟩

theorem tmod_split (n m : Int) : n % m = n.tmod m % m := by
  have h := Int.mul_tdiv_add_tmod n m
  have h2 : n % m = (n.tmod m + m * n.tdiv m) % m := by rw [Int.add_comm, h]
  rw [h2, Int.add_mul_emod_self_left]
/-- Mod: the remainder from 0 to m - 1. -/
theorem mod_any (n m : Int) (w : World) (h1 : 1 ≤ m) (h2 : m ≤ 4611686018427387904) :
    Calls Try.prog 6 #[.int .i64 n, .int .i64 m] w fun e w' => e = .returned (.int .i64 (n % m)) ∧ w = w' := by
  have g1 := Int.lt_tmod_of_pos n (show 0 < m by omega)
  have g2 := Int.tmod_lt_of_pos n (show 0 < m by omega)
  have hs := tmod_split n m
  have hm0 : (m == 0) = false := beq_eq_false_iff_ne.2 (by omega)
  by_cases hn : n.tmod m < 0
  · have hv : n % m = n.tmod m + m := by
      rw [hs, ← Int.add_emod_right, Int.emod_eq_of_lt (by omega) (by omega)]
    rw [hv]
    clear hs hv
    go_enter Try.func6, Try.ntmps6
    go_wp2
    go_ret
    exact ⟨rfl, rfl⟩
  · have hv : n % m = n.tmod m := by rw [hs, Int.emod_eq_of_lt (by omega) (by omega)]
    rw [hv]
    clear hs hv
    go_enter Try.func6, Try.ntmps6
    go_wp2
    go_ret
    exact ⟨rfl, rfl⟩
theorem mod_bd (n m : Int) (h1 : 1 ≤ m) : 0 ≤ n % m ∧ n % m < m := ⟨Int.emod_nonneg _ (by omega), Int.emod_lt_of_pos _ (by omega)⟩

/-- An amount. -/
def RetAm (w : World) (e : Ending) (w' : World) : Prop := ∃ v : Int, e = .returned (.int .i64 v) ∧ 0 ≤ v ∧ v ≤ 1000000000000 ∧ w = w'
end Go.Proofs.Ytbogmkhoppffgaa
