/- The reference's Union, Intersect, Subtract; slices.Clone at spans; the program's Union. -/
import Derived.Test.YtkncfhdfobcjeaaSpNth
namespace Go.Proofs.Ytkncfhdfobcjeaa
open Go.RowKit

set_option maxHeartbeats 1000000 in
theorem rsub_any {A B : Option Addr} {n m c d : Nat} {la lb : List Sp} {w : World} (ha : Ds w A n la) (hb : Ds w B m lb) (hn : n ≤ 5000) (hm : m ≤ 5000) : Calls Try.prog 37 #[.slice A n c, .slice B m d] w (RetNf w fun x => dset la x && !dset lb x) := by
  go_enter Try.func37, Try.ntmps37
  go_wp2_with fail
  refine (combine_nf (.inr (.inr rfl)) ha hb hn hm).mono ?_
  intro e w1 hr
  have hr2 := retNf_congr (T := fun x => dset la x && !dset lb x) (fun x _ => by rw [gk3]) hr
  obtain ⟨A1, c1, rfl, hown, hb⟩ := hr2
  go_wp2_with fail
  go_ret
  exact ⟨A1, c1, rfl, hown, hb⟩
def RetOwn (w : World) (n : Nat) (l : List Sp) (e : Ending) (w' : World) : Prop :=
  ∃ A1 c1, e = .returned (.slice A1 n c1) ∧ w'.ownsRow w.heap.size 48 2 (.slice A1 n c1) n (flat Sp.cells l) ∧ Below w.heap.size w w'

end Go.Proofs.Ytkncfhdfobcjeaa
