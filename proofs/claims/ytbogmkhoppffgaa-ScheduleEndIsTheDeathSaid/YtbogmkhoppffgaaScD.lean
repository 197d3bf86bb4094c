/- The program's Valid. -/
import Derived.Test.YtbogmkhoppffgaaScC
import Derived.Test.YtbogmkhoppffgaaMaps
namespace Go.Proofs.Ytbogmkhoppffgaa
open Go.RowKit

def cmpI (x y : Int) : Int := if x < y then -1 else if y < x then 1 else 0
def or3 (a b c : Int) : Int := if a = 0 then (if b = 0 then c else b) else a
def ordV (p x : Rw) : Int := or3 (cmpI p.s x.s) (cmpI p.b x.b) (cmpI p.m x.m)
theorem cmpI_cases (x y : Int) : (decide (x < y) = true ∧ cmpI x y = -1) ∨ (decide (x < y) = false ∧ decide (y < x) = true ∧ cmpI x y = 1) ∨ (decide (x < y) = false ∧ decide (y < x) = false ∧ cmpI x y = 0) := by
  unfold cmpI
  by_cases h1 : x < y
  · exact .inl ⟨decide_eq_true h1, by rw [if_pos h1]⟩
  · by_cases h2 : y < x
    · exact .inr (.inl ⟨decide_eq_false h1, decide_eq_true h2, by rw [if_neg h1, if_pos h2]⟩)
    · exact .inr (.inr ⟨decide_eq_false h1, decide_eq_false h2, by rw [if_neg h1, if_neg h2]⟩)
theorem ordV_rlt (p x : Rw) : decide (0 ≤ ordV p x) = !(rltB p x) := by
  have h : (0 ≤ ordV p x) ↔ ¬Rlt p x := by
    unfold ordV or3 Rlt
    rcases cmpI_cases p.s x.s with ⟨h1, e1⟩ | ⟨h1, h2, e1⟩ | ⟨h1, h2, e1⟩ <;> rcases cmpI_cases p.b x.b with ⟨g1, e2⟩ | ⟨g1, g2, e2⟩ | ⟨g1, g2, e2⟩ <;> rcases cmpI_cases p.m x.m with ⟨k1, e3⟩ | ⟨k1, k2, e3⟩ | ⟨k1, k2, e3⟩ <;>
      simp only [decide_eq_true_eq, decide_eq_false_iff_not] at * <;> rw [e1, e2, e3] <;> simp <;> omega
  rw [Bool.eq_iff_iff, decide_eq_true_eq, h, Bool.not_eq_true', ← Bool.not_eq_true, rltB_iff]

theorem isnan_any (x : Int) (w : World) : Calls Try.prog 53 #[.int .i64 x] w fun e w' => e = .returned (.bool false) ∧ w = w' := by
  go_enter Try.func53, Try.ntmps53
  go_wp2
  go_ret
  exact ⟨by simp, rfl⟩
set_option maxHeartbeats 1000000 in
theorem compare_any (x y : Int) (w : World) : Calls Try.prog 39 #[.int .i64 x, .int .i64 y] w fun e w' => e = .returned (.int .i64 (cmpI x y)) ∧ w = w' := by
  rcases cmpI_cases x y with ⟨h1, e1⟩ | ⟨h1, h2, e1⟩ | ⟨h1, h2, e1⟩
  all_goals
    rw [e1]
    clear e1
    go_enter Try.func39, Try.ntmps39
    go_wp2_with (go_at_call 53; refine (isnan_any _ _).mono ?_; rintro e w' ⟨rfl, rfl⟩)
    go_ret
    exact ⟨rfl, rfl⟩
theorem or3_cases (a b c : Int) : ((a != 0) = true ∧ or3 a b c = a) ∨ ((a != 0) = false ∧ (b != 0) = true ∧ or3 a b c = b) ∨ ((a != 0) = false ∧ (b != 0) = false ∧ (c != 0) = true ∧ or3 a b c = c) ∨ ((a != 0) = false ∧ (b != 0) = false ∧ (c != 0) = false ∧ or3 a b c = 0) := by
  unfold or3
  by_cases h1 : a = 0
  · by_cases h2 : b = 0
    · by_cases h3 : c = 0
      · exact .inr (.inr (.inr ⟨by simp [h1], by simp [h2], by simp [h3], by rw [if_pos h1, if_pos h2, h3]⟩))
      · exact .inr (.inr (.inl ⟨by simp [h1], by simp [h2], by simp [h3], by rw [if_pos h1, if_pos h2]⟩))
    · exact .inr (.inl ⟨by simp [h1], by simp [h2], by rw [if_pos h1, if_neg h2]⟩)
  · exact .inl ⟨by simp [h1], by rw [if_neg h1]⟩
set_option maxHeartbeats 2000000 in
theorem cmpor_any (g : Nat) (a b c : Int) (w : World) (h0 : w.cell? ⟨g, 0, none⟩ = some (.int .i64 a)) (h1 : w.cell? ⟨g, 1, none⟩ = some (.int .i64 b)) (h2 : w.cell? ⟨g, 2, none⟩ = some (.int .i64 c)) :
    Calls Try.prog 38 #[.slice (some ⟨g, 0, none⟩) 3 3] w fun e w' => e = .returned (.int .i64 (or3 a b c)) ∧ w = w' := by
  rcases or3_cases a b c with ⟨t1, e1⟩ | ⟨t1, t2, e1⟩ | ⟨t1, t2, t3, e1⟩ | ⟨t1, t2, t3, e1⟩
  · rw [e1]
    clear e1
    go_enter Try.func38, Try.ntmps38
    go_wp2_with fail
    refine wp_loop_rounds 1 ?_
    rw [rounds_succ]
    go_wp2_with fail
    go_ret
    exact ⟨rfl, rfl⟩
  · rw [e1]
    clear e1
    go_enter Try.func38, Try.ntmps38
    go_wp2_with fail
    refine wp_loop_rounds 2 ?_
    rw [rounds_succ]
    go_wp2_with fail
    rw [rounds_succ]
    go_wp2_with fail
    go_ret
    exact ⟨rfl, rfl⟩
  · rw [e1]
    clear e1
    go_enter Try.func38, Try.ntmps38
    go_wp2_with fail
    refine wp_loop_rounds 3 ?_
    rw [rounds_succ]
    go_wp2_with fail
    rw [rounds_succ]
    go_wp2_with fail
    rw [rounds_succ]
    go_wp2_with fail
    go_ret
    exact ⟨rfl, rfl⟩
  · rw [e1]
    clear e1
    go_enter Try.func38, Try.ntmps38
    go_wp2_with fail
    refine wp_loop_rounds 4 ?_
    rw [rounds_succ]
    go_wp2_with fail
    rw [rounds_succ]
    go_wp2_with fail
    rw [rounds_succ]
    go_wp2_with fail
    rw [rounds_succ]
    go_wp2_with fail
    go_ret
    exact ⟨rfl, rfl⟩

/-- What the map of currencies holds behind the rows L. -/
def MapOk (M : List (Int × Int)) (L : List Rw) : Prop := (∀ s c, look M s = some c → ∃ r ∈ L, r.s = s) ∧ ∀ L' p, L = L' ++ [p] → look M p.s = some p.c
theorem MapOk.nil : MapOk [] [] := ⟨fun s c h => by simp [look_nil] at h, fun L' p h => by simp at h⟩
theorem MapOk.snoc {M : List (Int × Int)} {L : List Rw} (h : MapOk M L) (x : Rw) : MapOk (setKey M x.s x.c) (L ++ [x]) := by
  refine ⟨fun s c hs => ?_, fun L' p e => ?_⟩
  · rw [look_setKey] at hs
    by_cases h1 : s = x.s
    · exact ⟨x, by simp, h1.symm⟩
    · rw [if_neg h1] at hs
      obtain ⟨r, hr, he⟩ := h.1 s c hs
      exact ⟨r, by simp [hr], he⟩
  · have := List.append_inj_right' e rfl
    injection this with this
    rw [look_setKey, ← this, if_pos rfl]
theorem MapOk.same {M : List (Int × Int)} {L : List Rw} {p x : Rw} (h : MapOk M (L ++ [p])) (hs : p.s = x.s) : look M x.s = some p.c := by rw [← hs]; exact h.2 L p rfl
theorem MapOk.new {M : List (Int × Int)} {L : List Rw} {p x : Rw} (h : MapOk M (L ++ [p])) (hv : vldB (L ++ [p]) = true) (hs : p.s < x.s) : look M x.s = none := by
  cases hl : look M x.s with
  | none => rfl
  | some c =>
    obtain ⟨r, hr, he⟩ := h.1 _ _ hl
    have := vldB_last hv r hr
    omega
theorem MapOk.first {M : List (Int × Int)} {x : Rw} (h : MapOk M []) : look M x.s = none := by
  cases hl : look M x.s with
  | none => rfl
  | some c =>
    obtain ⟨r, hr, _⟩ := h.1 _ _ hl
    simp at hr
theorem zero_int (w : World) : (zeroValue 3).run Try.prog w = .ok (.int .i64 0) w := by simp [go_sem]
end Go.Proofs.Ytbogmkhoppffgaa

