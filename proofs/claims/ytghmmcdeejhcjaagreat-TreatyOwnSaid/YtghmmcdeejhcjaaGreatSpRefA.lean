/- The reference's small functions over spans: ValidDay, Contains, cutSpan, SameSpans, Normal; the program's Normal. -/
import Derived.Test.YtghmmcdeejhcjaaGreatSpA
import Derived.Deep.DeepCutAuto
namespace Go.Proofs.YtghmmcdeejhcjaaGreat
open Go.RowKit

theorem vday_any (n : Int) (w : World) : Calls Tryz.prog 14 #[.int .i64 n] w fun e w' => e = .returned (.bool (isD n)) ∧ w = w' := by
  by_cases h1 : 0 ≤ n
  · by_cases h2 : n ≤ 73048
    · go_enter Tryz.func14, Tryz.ntmps14
      go_wp2
      go_ret
      exact ⟨ret_bool (by simp [isD]; omega), rfl⟩
    · go_enter Tryz.func14, Tryz.ntmps14
      go_wp2
      go_ret
      exact ⟨ret_bool (by simp [isD]; omega), rfl⟩
  · go_enter Tryz.func14, Tryz.ntmps14
    go_wp2
    go_ret
    exact ⟨ret_bool (by simp [isD]; omega), rfl⟩

theorem dset_take {l : List Sp} {k : Nat} {x : Sp} (hx : l[k]? = some x) (d : Int) : dset (l.take (k + 1)) d = (dset (l.take k) d || (isD d && inS x d)) := by
  have h : l.take (k + 1) = l.take k ++ [x] := by
    rw [List.take_add_one, hx]
    rfl
  rw [h, dset_append]
  congr 1
  simp [dset, cov]
theorem dset_mem {l : List Sp} {k : Nat} {x : Sp} (hx : l[k]? = some x) {d : Int} (h1 : isD d = true) (h2 : inS x d = true) : dset l d = true := by
  unfold dset
  rw [h1, Bool.true_and, cov, List.any_eq_true]
  exact ⟨x, List.mem_of_getElem? hx, h2⟩

/-- Two lists are the same. -/
def eqB : List Sp → List Sp → Bool
  | [], [] => true
  | s :: a, p :: b => decide (s.f = p.f ∧ s.t = p.t) && eqB a b
  | _, _ => false
theorem eqB_iff : ∀ (a b : List Sp), eqB a b = true ↔ a = b
  | [], [] => by simp [eqB]
  | [], p :: b => by simp [eqB]
  | s :: a, [] => by simp [eqB]
  | ⟨f, t⟩ :: a, ⟨g, u⟩ :: b => by
    simp only [eqB, Bool.and_eq_true, decide_eq_true_eq, eqB_iff a b, List.cons.injEq, Sp.mk.injEq]
theorem eqB_self (a : List Sp) : eqB a a = true := (eqB_iff a a).2 rfl
theorem eqB_ne {a b : List Sp} (h : a ≠ b) : eqB a b = false := by
  cases hb : eqB a b with
  | false => rfl
  | true => exact absurd ((eqB_iff a b).1 hb) h
theorem take_snocS {l : List Sp} {k : Nat} {x : Sp} (hx : l[k]? = some x) : l.take (k + 1) = l.take k ++ [x] := by
  rw [List.take_add_one, hx]
  rfl

theorem drop_getS {l : List Sp} {k : Nat} {x : Sp} (hx : l[k]? = some x) : l.drop k = x :: l.drop (k + 1) := by
  obtain ⟨hk, e⟩ := List.getElem?_eq_some_iff.1 hx
  rw [List.drop_eq_getElem_cons hk, e]
theorem normB_no {b : Int} {s : Sp} {r : List Sp} (h : ¬(b < s.f ∧ s.f < s.t ∧ s.t ≤ 73049)) : normB b (s :: r) = false := by simp [normB, h]
theorem normB_yes {b : Int} {s : Sp} {r : List Sp} (h : b < s.f ∧ s.f < s.t ∧ s.t ≤ 73049) : normB b (s :: r) = normB s.t r := by simp [normB, h]

end Go.Proofs.YtghmmcdeejhcjaaGreat
