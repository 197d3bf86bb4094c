/- The plain law of ScheduleDifferenceExplains. -/
import Derived.Test.YtnjloghphkjcoaaScK
import Derived.Test.YtnjloghphkjcoaaScR
namespace Go.Proofs.Ytnjloghphkjcoaa
open Go.RowKit

theorem chN_abs {L K : List Rw} (h : AmtsIn L 999999999) (h' : AmtsIn K 999999999) (s f : Int) : ∀ n, ∀ c ∈ chN L K s f n, -5000000000 ≤ c.a ∧ c.a ≤ 5000000000
  | 0, c, hc => by simp [chN] at hc
  | n + 1, c, hc => by
    unfold chN at hc
    rcases List.mem_append.1 hc with hc | hc
    · exact chN_abs h h' s f n c hc
    · have b1 := dueL_bd h (by omega) s (f + n)
      have b2 := dueL_bd h' (by omega) s (f + n)
      split at hc
      · simp at hc
      · simp at hc
        subst hc
        simp only
        omega
theorem sumC_take {M : List Ch} (h : ∀ c ∈ M, -5000000000 ≤ c.a ∧ c.a ≤ 5000000000) : ∀ k : Nat, -5000000000 * (k : Int) ≤ sumC (M.take k) ∧ sumC (M.take k) ≤ 5000000000 * (k : Int)
  | 0 => by simp [sumC]
  | k + 1 => by
    have ih := sumC_take h k
    rw [List.take_add_one]
    cases e : M[k]? with
    | none => simp; omega
    | some c =>
      have := h c (List.mem_of_getElem? e)
      rw [sumC_append]
      simp [sumC]
      omega
theorem sumC_step {M : List Ch} {k : Nat} {c : Ch} (e : M[k]? = some c) : sumC (M.take (k + 1)) = sumC (M.take k) + c.a := by
  rw [List.take_add_one, e, sumC_append]
  simp [sumC]

theorem expl {L K : List Rw} {s f t : Int} (h1 : vldB L = true) (h2 : vldB K = true) (a1 : AmtsIn L 999999999) (a2 : AmtsIn K 999999999) (h0 : 0 ≤ f) (ht : f ≤ t) (ht2 : t ≤ f + 40) (hf : f ≤ 2100) :
    ∃ (M : List Ch) (S1 S2 : Int), difE L K s f t = 0 ∧ difL L K s f t = M ∧ difE L L s f t = 0 ∧ difL L L s f t = [] ∧ totV L s f t = (S1, 0) ∧ totV K s f t = (S2, 0) ∧ sumC M = S2 - S1 ∧ 0 ≤ S1 ∧ S1 ≤ 1000000000000 ∧ 0 ≤ S2 ∧ S2 ≤ 1000000000000 ∧ M.length ≤ 41 ∧
      (∀ c ∈ M, -5000000000 ≤ c.a ∧ c.a ≤ 5000000000) ∧ (∀ c ∈ M, c.a ≠ 0 ∧ f ≤ c.m ∧ c.m ≤ t) ∧ M.Pairwise (fun x y => x.m < y.m) := by
  have m1 : monB f = true := (monB_iff _).2 (by omega)
  have m2 : monB t = true := (monB_iff _).2 (by omega)
  have o1 : ∀ n, ovN L K s f n = false := fun n => ovN_no (n := n) fun j _ => by
    have b1 := dueL_bd a1 (by omega) s (f + j)
    have b2 := dueL_bd a2 (by omega) s (f + j)
    omega
  have o2 : ∀ n, ovN L L s f n = false := fun n => ovN_no (n := n) fun j _ => by
    have b1 := dueL_bd a1 (by omega) s (f + j)
    omega
  obtain ⟨d1, d2⟩ := dif_ok h1 h2 m1 m2 (s := s) (o1 _)
  obtain ⟨d3, d4⟩ := dif_ok h1 h1 m1 m2 (s := s) (o2 _)
  rw [chN_self] at d4
  have s1 := sumD_nn a1 (by omega) s f (t + 1 - f).toNat
  have s2 := sumD_nn a2 (by omega) s f (t + 1 - f).toNat
  have hN : (t + 1 - f).toNat ≤ 41 := by omega
  have q1 : ((t + 1 - f).toNat : Int) * (5 * 999999999) ≤ 41 * (5 * 999999999) := Int.mul_le_mul_of_nonneg_right (by omega) (by omega)
  have t1 := totV_ok h1 m1 m2 (s := s)
  have t2 := totV_ok h2 m1 m2 (s := s)
  rw [if_neg (by omega)] at t1 t2
  refine ⟨_, _, _, d1, d2, d3, d4, t1, t2, chN_sum L K s f _, s1.1, by omega, s2.1, by omega, Nat.le_trans (chN_length L K s f _) hN, chN_abs a1 a2 s f _, fun c hc => ?_, chN_sorted L K s f _⟩
  have := chN_mem L K s f _ c hc
  exact ⟨this.2.2, this.1, by omega⟩
end Go.Proofs.Ytnjloghphkjcoaa
