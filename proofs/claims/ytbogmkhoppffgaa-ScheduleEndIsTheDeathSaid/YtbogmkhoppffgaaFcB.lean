/- A valid fact is found valid by the program. -/
import Derived.Test.YtbogmkhoppffgaaFcA
import Derived.Test.YtbogmkhoppffgaaShelf
import Derived.Test.YtbogmkhoppffgaaKept
import Derived.Lib.Hide
namespace Go.Proofs.Ytbogmkhoppffgaa
open Go.RowKit

theorem indexB_mem (c : UInt8) : ∀ l : List UInt8, decide (0 ≤ Lib.indexByte l c) = decide (c ∈ l)
  | [] => by simp [Lib.indexByte]
  | b :: l => by
    have ih := indexB_mem c l
    have hge := Lib.indexByte_ge l c
    unfold Lib.indexByte
    by_cases h : b = c
    · subst h
      simp
    · rw [if_neg (by simpa using h)]
      have hm : decide (c ∈ b :: l) = decide (c ∈ l) := by
        have : ¬ c = b := fun e => h e.symm
        simp [this]
      rw [hm, ← ih]
      by_cases h2 : Lib.indexByte l c = -1
      · rw [if_pos (by simpa using h2), h2]
      · rw [if_neg (by simpa using h2)]
        rw [decide_eq_true (by omega), decide_eq_true (by omega)]
set_option maxHeartbeats 1000000 in
theorem within_true {x lo hi : Int} (h1 : lo ≤ x) (h2 : x ≤ hi) (w : World) : Calls Try.prog 66 #[.int .i64 x, .int .i64 lo, .int .i64 hi] w fun e w' => e = .returned (.bool true) ∧ w = w' := by
  have d1 : decide (lo ≤ x) = true := decide_eq_true h1
  have d2 : decide (x ≤ hi) = true := decide_eq_true h2
  go_enter Try.func66, Try.ntmps66
  go_wp2
  go_ret
  exact ⟨rfl, rfl⟩
/-- A field by whether it is used. -/
def FldB (b : Bool) (x lo hi : Int) : Prop := (b = true → lo ≤ x ∧ x ≤ hi) ∧ (b = false → x = 0)
theorem FldOk.b {U : List UInt8} {l : UInt8} {x lo hi : Int} (h : FldOk U l x lo hi) {b : Bool} (hb : decide (l ∈ U) = b) : FldB b x lo hi := by
  subst hb
  exact ⟨fun e => h.1 (of_decide_eq_true e), fun e => h.2 (of_decide_eq_false e)⟩
set_option maxHeartbeats 2000000 in
theorem tfield_true {b : Bool} {x lo hi : Int} (h : FldB b x lo hi) (w : World) : Calls Try.prog 67 #[.bool b, .int .i64 x, .int .i64 lo, .int .i64 hi] w fun e w' => e = .returned (.bool true) ∧ w = w' := by
  cases b with
  | true =>
    obtain ⟨h1, h2⟩ := h.1 rfl
    go_enter Try.func67, Try.ntmps67
    go_wp2_with fail
    refine (within_true h1 h2 _).mono ?_
    rintro e w' ⟨rfl, rfl⟩
    go_wp2_with fail
    go_ret
    exact ⟨rfl, rfl⟩
  | false =>
    obtain rfl := h.2 rfl
    go_enter Try.func67, Try.ntmps67
    go_wp2_with fail
    go_ret
    exact ⟨rfl, rfl⟩
set_option maxHeartbeats 1000000 in
theorem vspan_true {f t : Int} (h1 : 0 ≤ f) (h2 : f < t) (h3 : t ≤ 73049) (w : World) : Calls Try.prog 68 #[.agg #[.int .i64 f, .int .i64 t]] w fun e w' => e = .returned (.bool true) ∧ Below w.heap.size w w' := by
  have d1 : decide (0 ≤ f) = true := decide_eq_true h1
  have d2 : decide (f < t) = true := decide_eq_true h2
  have d3 : decide (t ≤ 73049) = true := decide_eq_true h3
  go_enter Try.func68, Try.ntmps68
  go_wp2
  go_ret
  exact ⟨rfl, (Below.refl _ _).alloc (Nat.le_refl _) _⟩
set_option maxHeartbeats 1000000 in
theorem has_any {k : Int} {c : UInt8} {b : Bool} {p : Addr} {w : World} (hp : w.cell? p = some (.string (useS k))) (hb : decide (c ∈ useL k) = b) : Calls Try.prog 64 #[.string ⟨#[c]⟩, .pointer (some p)] w fun e w' => e = .returned (.bool b) ∧ w = w' := by
  have HB := Lib.hid hb
  clear hb
  go_enter Try.func64, Try.ntmps64
  go_wp2_with fail
  refine (Try.strings_Contains_one (useS k) c _).mono ?_
  rintro e w' ⟨rfl, rfl⟩
  go_wp2_with fail
  go_ret
  exact ⟨ret_bool (by rw [indexB_mem, ← HB.out]; rfl), rfl⟩
theorem has_kept {V : World} {k : Int} {c : UInt8} {b : Bool} {p : Addr} (hp : V.cell? p = some (.string (useS k))) (hl : p.block < V.heap.size) (hb : decide (c ∈ useL k) = b) (u : Kw V) : Calls Try.prog 64 #[.string ⟨#[c]⟩, .pointer (some p)] u.1 fun e w' => e = .returned (.bool b) ∧ ∃ u' : Kw V, w' = u'.1 :=
  (has_any ((u.cell hl hp)) hb).mono fun _ _ ⟨h1, h2⟩ => ⟨h1, u, h2.symm⟩
theorem tfield_kept {V : World} {b : Bool} {x lo hi : Int} (h : FldB b x lo hi) (u : Kw V) : Calls Try.prog 67 #[.bool b, .int .i64 x, .int .i64 lo, .int .i64 hi] u.1 fun e w' => e = .returned (.bool true) ∧ ∃ u' : Kw V, w' = u'.1 :=
  (tfield_true h u.1).mono fun _ _ ⟨h1, h2⟩ => ⟨h1, u, h2.symm⟩
theorem vspan_kept {V : World} {f t : Int} (h1 : 0 ≤ f) (h2 : f < t) (h3 : t ≤ 73049) (u : Kw V) : Calls Try.prog 68 #[.agg #[.int .i64 f, .int .i64 t]] u.1 fun e w' => e = .returned (.bool true) ∧ ∃ u' : Kw V, w' = u'.1 :=
  (vspan_true h1 h2 h3 u.1).mono fun _ _ ⟨h1, h2⟩ => ⟨h1, u.call h2⟩
end Go.Proofs.Ytbogmkhoppffgaa
