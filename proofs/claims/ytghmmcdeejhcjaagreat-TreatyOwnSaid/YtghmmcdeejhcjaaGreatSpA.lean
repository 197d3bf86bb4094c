/- Spans in memory; the small functions over them: clamp, the two tests of a normal list, Pick. -/
import Derived.Test.YtghmmcdeejhcjaaGreatOpenN
import Derived.Test.YtghmmcdeejhcjaaGreatSpans
import Derived.OwnWalk
import Derived.IntWalk
import Derived.Deep.QuietTactic
import Derived.BigQuiet
import Derived.Deep.LoopGhost
import Derived.Deep.RegionHeld3
namespace Go.Proofs.YtghmmcdeejhcjaaGreat
open Go.RowKit

theorem ret_int {k : IntKind} {a b : Int} (h : a = b) : Ending.returned (.int k a) = .returned (.int k b) := by rw [h]
theorem ret_bool {a b : Bool} (h : a = b) : Ending.returned (.bool a) = .returned (.bool b) := by rw [h]

def Sp.cells (s : Sp) : List Value := [.int .i64 s.f, .int .i64 s.t]
theorem sp_len (x : Sp) : x.cells.length = 2 := rfl
theorem sp_one (l : List Sp) : ∀ u ∈ flat Sp.cells l, u.oneCell' = true := by
  intro u hu
  obtain ⟨x, _, hx⟩ := List.mem_flatMap.1 hu
  simp only [Sp.cells, List.mem_cons, List.not_mem_nil, or_false] at hx
  rcases hx with rfl | rfl <;> rfl
theorem sp_flen (l : List Sp) : (flat Sp.cells l).length = l.length * 2 := flat_length sp_len l
/-- The cells of one span. -/
theorem sp_cells {w : World} {B n : Nat} {A : Option Addr} {l : List Sp} (h : Rd w B 2 A n (flat Sp.cells l)) {k : Nat} {x : Sp} (hx : l[k]? = some x) :
    k < n ∧ ∃ b o, A = some ⟨b, o, none⟩ ∧ b < B ∧ w.cell? ⟨b, o + k * 2, none⟩ = some (.int .i64 x.f) ∧ w.cell? ⟨b, o + k * 2 + 1, none⟩ = some (.int .i64 x.t) := by
  obtain ⟨hk, b, o, e, hb, hc⟩ := h.elem sp_len hx (by omega)
  exact ⟨hk, b, o, e, hb, by simpa using hc 0 _ rfl, hc 1 _ rfl⟩
theorem Rd.lenS {w : World} {B n : Nat} {A : Option Addr} {l : List Sp} (h : Rd w B 2 A n (flat Sp.cells l)) : l.length = n := by
  have := h.1
  rw [sp_flen] at this
  omega
def Sp.ok (s : Sp) : Prop := I64 s.f ∧ I64 s.t
/-- Numbers, two by two, are spans. -/
theorem spans_of : ∀ (n : Nat) (xs : List Int), xs.length = n * 2 → (∀ x ∈ xs, I64 x) → ∃ l : List Sp, ints xs = flat Sp.cells l ∧ l.length = n ∧ ∀ s ∈ l, s.ok
  | 0, xs, h, _ => by
    have : xs = [] := List.eq_nil_of_length_eq_zero (by omega)
    subst this
    exact ⟨[], rfl, rfl, by simp⟩
  | n + 1, [], h, _ => by simp at h
  | n + 1, [a], h, _ => by simp at h; omega
  | n + 1, a :: b :: r, h, hx => by
    obtain ⟨l, e, hl, hok⟩ := spans_of n r (by simp at h; omega) fun x hm => hx x (by simp [hm])
    refine ⟨⟨a, b⟩ :: l, ?_, by simp [hl], fun s hs => ?_⟩
    · rw [flat_cons, ← e]
      rfl
    · rcases List.mem_cons.1 hs with rfl | hs
      · exact ⟨hx a (by simp), hx b (by simp)⟩
      · exact hok s hs
theorem info_span : (Tryz.prog.info? 59).map (fun i => (i.zero, i.size, i.bytes)) = some (some (.agg #[.int .i64 0, .int .i64 0]), 2, 16) := by kernel_rfl

theorem clamp_any (f t : Int) (w : World) :
    Calls Tryz.prog 48 #[.agg #[.int .i64 f, .int .i64 t]] w fun e w' => e = .returned (.agg #[.int .i64 (max f 0), .int .i64 (min t 73049)]) ∧
      (w.alloc (.cells #[.int .i64 f, .int .i64 t] 59)).alloc (.cells #[.int .i64 (max f 0), .int .i64 (min t 73049)] 59) = w' := by
  go_enter Tryz.func48, Tryz.ntmps48
  have h1 : (if f < 0 then 0 else f) = max f 0 := by split <;> omega
  have h2 : (if 73049 < t then 73049 else t) = min t 73049 := by split <;> omega
  go_wp2
  exact bodyPost_ret (v := .agg #[.int .i64 (max f 0), .int .i64 (min t 73049)]) (by simp [results, Tryz.results48, go_sem]) rfl ⟨rfl, rfl⟩

theorem tmod_split (n m : Int) : n % m = n.tmod m % m := by
  have h := Int.mul_tdiv_add_tmod n m
  have h2 : n % m = (n.tmod m + m * n.tdiv m) % m := by rw [Int.add_comm, h]
  rw [h2, Int.add_mul_emod_self_left]
/-- The remainder, brought to 0 .. k-1. -/
def pick (n k : Int) : Int := if k < 1 then 0 else n % k
theorem pick_bd (n k : Int) (h : 1 ≤ k) : 0 ≤ pick n k ∧ pick n k < k := by
  unfold pick
  rw [if_neg (by omega)]
  exact ⟨Int.emod_nonneg _ (by omega), Int.emod_lt_of_pos _ (by omega)⟩
theorem pick_any (n k : Int) (w : World) (hk : k ≤ 4611686018427387904) :
    Calls Tryz.prog 5 #[.int .i64 n, .int .i64 k] w fun e w' => e = .returned (.int .i64 (pick n k)) ∧ w = w' := by
  by_cases h : k < 1
  · go_enter Tryz.func5, Tryz.ntmps5
    go_wp2
    go_ret
    exact ⟨ret_int (by simp [pick, h]), rfl⟩
  · have h1 := Int.lt_tmod_of_pos n (show 0 < k by omega)
    have h2 := Int.tmod_lt_of_pos n (show 0 < k by omega)
    have hk1 : 1 ≤ k := by omega
    have hs := tmod_split n k
    have HS := Lib.hid hs
    have hk0 : (k == 0) = false := beq_eq_false_iff_ne.2 (by omega)
    clear hs
    go_enter Tryz.func5, Tryz.ntmps5
    go_wp2
    go_ret
    refine ⟨ret_int ?_, rfl⟩
    have h2 : ¬ k < 1 := by omega
    simp only [pick, h2, if_false]
    rw [HS.out]
end Go.Proofs.YtghmmcdeejhcjaaGreat
