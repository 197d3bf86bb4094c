/- What the laws share: the reference's lists, small, probe, awake. -/
import Derived.Test.YthncjohekjnjaaaSpComb
import Derived.Test.YthncjohekjnjaaaSpMake
namespace Go.Proofs.Ythncjohekjnjaaa
open Go.RowKit

/-- The normal list of a set of days is returned, in memory of the call's own. -/
def RetNf (w : World) (S : Int → Bool) (e : Ending) (w' : World) : Prop :=
  ∃ A c, e = .returned (.slice A (nf S).length c) ∧ w'.ownsRow w.heap.size 48 2 (.slice A (nf S).length c) (nf S).length (flat Sp.cells (nf S)) ∧ Below w.heap.size w w'
theorem retNf_of {w w' : World} {S : Int → Bool} {e : Ending} (h : ∃ v, e = .returned v ∧ w'.ownsRow w.heap.size 48 2 v (nf S).length (flat Sp.cells (nf S)) ∧ Below w.heap.size w w') : RetNf w S e w' := by
  obtain ⟨v, rfl, hown, hb⟩ := h
  obtain ⟨A, c, rfl, _, _, _⟩ := own_form hown
  exact ⟨A, c, rfl, hown, hb⟩
theorem retNf_congr {w w' : World} {S T : Int → Bool} {e : Ending} (h : ∀ x, isD x = true → S x = T x) (hr : RetNf w S e w') : RetNf w T e w' := by
  unfold RetNf at hr ⊢
  rw [← nf_congr h]
  exact hr
/-- A slice that came in or goes on: it reads as spans. -/
def Ds (w : World) (A : Option Addr) (n : Nat) (l : List Sp) : Prop := Rd w w.heap.size 2 A n (flat Sp.cells l) ∧ l.length = n
theorem Ds.below {w w' : World} {A : Option Addr} {n : Nat} {l : List Sp} (h : Ds w A n l) (hb : Below w.heap.size w w') : Ds w' A n l := ⟨(h.1.below hb).mono hb.size, h.2⟩
theorem Ds.ofOwn {w : World} {A : Option Addr} {base n c : Nat} {l : List Sp} (h : w.ownsRow base 48 2 (.slice A n c) n (flat Sp.cells l)) (hn : l.length = n) : Ds w A n l := ⟨Rd.ofOwn h, hn⟩
theorem Ds.nil (w : World) : Ds w none 0 [] := ⟨Rd.zero _ _ _ _, rfl⟩

theorem make_nf {A : Option Addr} {n c : Nat} {l : List Sp} {w : World} (h : Ds w A n l) (hn : n ≤ 1000000) : Calls Try.prog 28 #[.slice A n c] w (RetNf w (dset l)) :=
  (make_any A n c l w h.1 h.2 hn).mono fun _ _ h => retNf_of h
theorem combine_nf {A B : Option Addr} {n m c d : Nat} {la lb : List Sp} {kind : Int} {w : World} (hk : kind = 1 ∨ kind = 2 ∨ kind = 3) (ha : Ds w A n la) (hb : Ds w B m lb) (hn : n ≤ 5000) (hm : m ≤ 5000) :
    Calls Try.prog 39 #[.slice A n c, .slice B m d, .int .i64 kind] w (RetNf w fun x => gk kind (dset la x) (dset lb x)) :=
  (combine_any A B n m c d la lb kind hk w ha.1 hb.1 ha.2 hb.2 hn hm).mono fun _ _ h => retNf_of h
theorem gk1 (x y : Bool) : gk 1 x y = (x && y) := by cases x <;> cases y <;> rfl
theorem gk2 (x y : Bool) : gk 2 x y = (x || y) := by cases x <;> cases y <;> rfl
theorem gk3 (x y : Bool) : gk 3 x y = (x && !y) := by cases x <;> cases y <;> rfl

set_option maxHeartbeats 1000000 in
theorem rmake_nf {A : Option Addr} {n c : Nat} {l : List Sp} {w : World} (h : Ds w A n l) (hn : n ≤ 5000) : Calls Try.prog 30 #[.slice A n c] w (RetNf w (dset l)) := by
  go_enter Try.func30, Try.ntmps30
  go_wp2_with fail
  refine (combine_nf (.inr (.inl rfl)) h (Ds.nil w) hn (by omega)).mono ?_
  intro e w1 hr
  have hr2 := retNf_congr (T := dset l) (fun x _ => by rw [gk2]; simp [dset, cov]) hr
  obtain ⟨A1, c1, rfl, hown, hb⟩ := hr2
  go_wp2_with fail
  go_ret
  exact ⟨A1, c1, rfl, hown, hb⟩
end Go.Proofs.Ythncjohekjnjaaa
