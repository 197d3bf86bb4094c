/- What the laws share: the reference's lists, small, probe, awake. -/
import Derived.Test.YtghmmcdeejhcjaaGreatSpComb
import Derived.Test.YtghmmcdeejhcjaaGreatSpMake
namespace Go.Proofs.YtghmmcdeejhcjaaGreat
open Go.RowKit

/-- The normal list of a set of days is returned, in memory of the call's own. -/
def RetNf (w : World) (S : Int → Bool) (e : Ending) (w' : World) : Prop :=
  ∃ A c, e = .returned (.slice A (nf S).length c) ∧ w'.ownsRow w.heap.size 59 2 (.slice A (nf S).length c) (nf S).length (flat Sp.cells (nf S)) ∧ Below w.heap.size w w'
theorem retNf_of {w w' : World} {S : Int → Bool} {e : Ending} (h : ∃ v, e = .returned v ∧ w'.ownsRow w.heap.size 59 2 v (nf S).length (flat Sp.cells (nf S)) ∧ Below w.heap.size w w') : RetNf w S e w' := by
  obtain ⟨v, rfl, hown, hb⟩ := h
  obtain ⟨A, c, rfl, _, _, _⟩ := own_form hown
  exact ⟨A, c, rfl, hown, hb⟩
theorem retNf_congr {w w' : World} {S T : Int → Bool} {e : Ending} (h : ∀ x, isD x = true → S x = T x) (hr : RetNf w S e w') : RetNf w T e w' := by
  unfold RetNf at hr ⊢
  rw [← nf_congr h]
  exact hr
/-- A slice that came in or goes on: it reads as spans. -/
def Ds (w : World) (A : Option Addr) (n : Nat) (l : List Sp) : Prop := Rd w w.heap.size 2 A n (flat Sp.cells l) ∧ l.length = n
theorem Ds.below {w w' : World} {A : Option Addr} {n : Nat} {l : List Sp} (h : Ds w A n l) (hb : Below w.heap.size w w') : Ds w' A n l := ⟨(h.1.below hb).mono hb.size, h.2⟩
theorem Ds.ofOwn {w : World} {A : Option Addr} {base n c : Nat} {l : List Sp} (h : w.ownsRow base 59 2 (.slice A n c) n (flat Sp.cells l)) (hn : l.length = n) : Ds w A n l := ⟨Rd.ofOwn h, hn⟩
theorem Ds.nil (w : World) : Ds w none 0 [] := ⟨Rd.zero _ _ _ _, rfl⟩

theorem make_nf {A : Option Addr} {n c : Nat} {l : List Sp} {w : World} (h : Ds w A n l) (hn : n ≤ 1000000) : Calls Tryz.prog 33 #[.slice A n c] w (RetNf w (dset l)) :=
  (make_any A n c l w h.1 h.2 hn).mono fun _ _ h => retNf_of h
theorem gk1 (x y : Bool) : gk 1 x y = (x && y) := by cases x <;> cases y <;> rfl
theorem gk2 (x y : Bool) : gk 2 x y = (x || y) := by cases x <;> cases y <;> rfl
theorem gk3 (x y : Bool) : gk 3 x y = (x && !y) := by cases x <;> cases y <;> rfl

end Go.Proofs.YtghmmcdeejhcjaaGreat
