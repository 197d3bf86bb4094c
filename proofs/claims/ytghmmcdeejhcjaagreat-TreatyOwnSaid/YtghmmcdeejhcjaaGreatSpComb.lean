/- The reference's combine, and what is made of it: MakeSpans, Union, Intersect, Subtract, Clip. -/
import Derived.Test.YtghmmcdeejhcjaaGreatSpEdges
namespace Go.Proofs.YtghmmcdeejhcjaaGreat
open Go.RowKit

def gk (kind : Int) (x y : Bool) : Bool := (decide (kind = 1) && x && y) || (decide (kind = 2) && (x || y)) || (decide (kind = 3) && x && !y)
theorem gk_ff (kind : Int) : gk kind false false = false := by simp [gk]
theorem kind_cases {kind : Int} (h : kind = 1 ∨ kind = 2 ∨ kind = 3) :
    ((kind == 1) = true ∧ (kind == 2) = false ∧ (kind == 3) = false ∧ ∀ x y, gk kind x y = (x && y)) ∨ ((kind == 1) = false ∧ (kind == 2) = true ∧ (kind == 3) = false ∧ ∀ x y, gk kind x y = (x || y)) ∨
    ((kind == 1) = false ∧ (kind == 2) = false ∧ (kind == 3) = true ∧ ∀ x y, gk kind x y = (x && !y)) := by
  rcases h with rfl | rfl | rfl
  · exact .inl ⟨rfl, rfl, rfl, fun x y => by cases x <;> cases y <;> rfl⟩
  · exact .inr (.inl ⟨rfl, rfl, rfl, fun x y => by cases x <;> cases y <;> rfl⟩)
  · exact .inr (.inr ⟨rfl, rfl, rfl, fun x y => by cases x <;> cases y <;> rfl⟩)
theorem addS_length : ∀ (l : List Sp) (a b : Int), (addS l a b).length ≤ l.length + 1
  | [], a, b => by simp [addS]
  | [s], a, b => by unfold addS; split <;> simp
  | s :: s' :: r, a, b => by
    have := addS_length (s' :: r) a b
    show (s :: addS (s' :: r) a b).length ≤ _
    simp only [List.length_cons] at *
    omega
theorem quiet_left {P : Program} {f : FuncId} {args : Array Value} {w : World} {n : Nat} {v : Value}
    (h : Calls P f args (w.drewN n) fun e w' => e = .returned v ∧ w.drewN n = w') : Calls P f args (w.drewN n) fun e w'' => e = .returned v ∧ ∃ m, w'' = w.drewN m :=
  h.mono fun _ _ ⟨he, hm⟩ => ⟨he, n, hm.symm⟩

end Go.Proofs.YtghmmcdeejhcjaaGreat
