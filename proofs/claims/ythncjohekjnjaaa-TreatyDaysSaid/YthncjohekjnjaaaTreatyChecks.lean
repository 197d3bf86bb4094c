/- The walk of TreatyChecks. -/
import Derived.Test.YthncjohekjnjaaaTrR
import Derived.Test.YthncjohekjnjaaaTrF
import Derived.Test.YthncjohekjnjaaaTrI
import Derived.Test.YthncjohekjnjaaaTrO
namespace Go.Proofs.Ythncjohekjnjaaa
open Go.RowKit

/-- A bound of the members of some rules. -/
def memB (X : List Rv) : Nat := X.foldr (fun x b => max x.r.m.length b) 7
theorem memB_le : ∀ (X : List Rv), 7 ≤ memB X ∧ ∀ x ∈ X, x.r.m.length ≤ memB X
  | [] => ⟨Nat.le_refl _, by simp⟩
  | y :: X => by
    obtain ⟨h1, h2⟩ := memB_le X
    have e : memB (y :: X) = max y.r.m.length (memB X) := rfl
    rw [e]
    refine ⟨by omega, fun x hx => ?_⟩
    rcases List.mem_cons.1 hx with rfl | hx
    · omega
    · have := h2 x hx
      omega
theorem memB_max : ∀ (X : List Rv) {M : Nat}, 7 ≤ M → (∀ x ∈ X, x.r.m.length ≤ M) → memB X ≤ M
  | [], _, h, _ => h
  | y :: X, M, h, hx => by
    have e : memB (y :: X) = max y.r.m.length (memB X) := rfl
    rw [e]
    have h1 := hx y (by simp)
    have h2 := memB_max X h fun x hm => hx x (by simp [hm])
    omega

set_option maxRecDepth 100000 in
set_option maxHeartbeats 4000000 in
theorem walkTreatyChecks (A : Option Addr) (n c : Nat) (X : List Rv) (mood : Int) (w : World) (h : Rus w w.heap.size A n X) (hok : ∀ p ∈ X, p.Ok w) (_ : n ≤ maxLen) (_ : I64 mood) :
    Calls Try.prog 5 #[.slice A n c, .int .i64 mood] w fun e w' => e = .returned (.bool true) ∧ Below w.heap.size w w' := by
  by_cases hbig : 12 < n
  · have hbig2 : (12 : Int) < (n : Int) := by omega
    go_enter Try.func5, Try.ntmps5
    go_wp2_with fail
    go_ret
    exact ⟨rfl, Below.refl _ _⟩
  have hbig2 : ¬ (12 : Int) < (n : Int) := by omega
  obtain ⟨M, hM, h7, hMm⟩ : ∃ M, (∀ x ∈ X, x.r.m.length ≤ M) ∧ 7 ≤ M ∧ M ≤ maxLen := ⟨memB X, (memB_le X).2, (memB_le X).1, memB_max X (by unfold maxLen; omega) fun x hx => (hok x hx).2.1⟩
  have HM := Lib.hid hM
  clear hM hok
  go_enter Try.func5, Try.ntmps5
  go_wp2_with fail
  refine (rules_any mood h (by omega) HM.out h7).mono ?_
  rintro e w1 ⟨A1, n1, c1, X1, rfl, h1, hn1, hm1, hb1⟩
  have HM1 := Lib.hid hm1
  have hz1 := hb1.size
  clear hm1 h HM
  go_wp2_with fail
  refine (awk14_any _).mono ?_
  rintro e w2 ⟨rfl, hb2⟩
  have h2 := h1.to hb2
  have hz2 := hb2.size
  go_wp2_with fail
  refine (tcheck_any h2 (by unfold maxLen; omega) (fun x hx => Nat.le_trans (HM1.out x hx) hMm)).mono ?_
  rintro e w3 ⟨rfl, hb3⟩
  have h3 := h2.to hb3
  have hz3 := hb3.size
  go_wp2_with fail
  refine (rcheck_any h3 (by unfold maxLen; omega) (fun x hx => Nat.le_trans (HM1.out x hx) hMm)).mono ?_
  rintro e w4 ⟨rfl, hb4⟩
  go_wp2_with fail
  go_ret
  exact ⟨ret_bool (by simp), hb1.trans ((hb2.trans ((hb3.trans (hb4.mono hz3)).mono hz2)).mono hz1)⟩
end Go.Proofs.Ythncjohekjnjaaa
