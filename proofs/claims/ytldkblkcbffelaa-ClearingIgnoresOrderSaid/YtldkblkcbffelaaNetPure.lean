/- Netting in plain Lean: the least and the greatest position, one payment after the other. No program of the seat is named here. -/
import Derived.Test.YtldkblkcbffelaaDebtA
namespace Go.Proofs.Ytldkblkcbffelaa

def lo (p : Nat → Int) : Nat → Nat
  | 0 => 0
  | k + 1 => if p k < p (lo p k) then k else lo p k
def hi (p : Nat → Int) : Nat → Nat
  | 0 => 0
  | k + 1 => if p (hi p k) < p k then k else hi p k
def upd (p : Nat → Int) (i : Nat) (v : Int) : Nat → Int := fun j => if j = i then v else p j
def netV (p : Nat → Int) : Int := min (-(p (lo p 6))) (p (hi p 6))
def netP (p : Nat → Int) : Nat → Int := upd (upd p (lo p 6) (p (lo p 6) + netV p)) (hi p 6) (upd p (lo p 6) (p (lo p 6) + netV p) (hi p 6) - netV p)
def net (u : Int) : Nat → (Nat → Int) → List Dt
  | 0, _ => []
  | n + 1, p => if netV p ≤ 0 then [] else { d := lo p 6, c := hi p 6, u := u, a := netV p } :: net u n (netP p)

theorem lo_lt (p : Nat → Int) : ∀ k, k ≤ 6 → lo p k < 6
  | 0, _ => by simp [lo]
  | k + 1, h => by
    unfold lo
    split
    · omega
    · exact lo_lt p k (by omega)
theorem hi_lt (p : Nat → Int) : ∀ k, k ≤ 6 → hi p k < 6
  | 0, _ => by simp [hi]
  | k + 1, h => by
    unfold hi
    split
    · omega
    · exact hi_lt p k (by omega)
theorem lo_le (p : Nat → Int) : ∀ k j, j < k → p (lo p k) ≤ p j
  | 0, j, h => by omega
  | k + 1, j, h => by
    unfold lo
    split
    · rename_i hlt
      rcases Nat.lt_or_ge j k with hj | hj
      · have := lo_le p k j hj
        omega
      · have : j = k := by omega
        subst this
        exact Int.le_refl _
    · rename_i hlt
      rcases Nat.lt_or_ge j k with hj | hj
      · exact lo_le p k j hj
      · have : j = k := by omega
        subst this
        omega
theorem hi_ge (p : Nat → Int) : ∀ k j, j < k → p j ≤ p (hi p k)
  | 0, j, h => by omega
  | k + 1, j, h => by
    unfold hi
    split
    · rename_i hlt
      rcases Nat.lt_or_ge j k with hj | hj
      · have := hi_ge p k j hj
        omega
      · have : j = k := by omega
        subst this
        exact Int.le_refl _
    · rename_i hlt
      rcases Nat.lt_or_ge j k with hj | hj
      · exact hi_ge p k j hj
      · have : j = k := by omega
        subst this
        omega

/-- How many of the first n are not 0. -/
def cnt (p : Nat → Int) : Nat → Nat
  | 0 => 0
  | n + 1 => cnt p n + (if p n = 0 then 0 else 1)
theorem cnt_le_n (p : Nat → Int) : ∀ n, cnt p n ≤ n
  | 0 => Nat.le_refl 0
  | n + 1 => by
    have := cnt_le_n p n
    unfold cnt
    split <;> omega
theorem cnt_mono {p q : Nat → Int} : ∀ n, (∀ i, i < n → p i = 0 → q i = 0) → cnt q n ≤ cnt p n
  | 0, _ => Nat.le_refl 0
  | n + 1, h => by
    have h1 := cnt_mono n (fun i hi => h i (by omega))
    have h2 := h n (by omega)
    unfold cnt
    split <;> split <;> first | omega | (exfalso; rename_i a b; exact a (h2 b))
theorem cnt_lt {p q : Nat → Int} : ∀ n, (∀ i, i < n → p i = 0 → q i = 0) → (∃ j, j < n ∧ p j ≠ 0 ∧ q j = 0) → cnt q n < cnt p n
  | 0, _, ⟨j, hj, _⟩ => by omega
  | n + 1, h, ⟨j, hj, h3, h4⟩ => by
    have h2 := h n (by omega)
    by_cases hjn : j = n
    · subst hjn
      have h1 := cnt_mono j (fun i hi => h i (by omega))
      simp only [cnt, h3, h4, if_true, if_false]
      omega
    · have h1 := cnt_lt n (fun i hi => h i (by omega)) ⟨j, by omega, h3, h4⟩
      unfold cnt
      split <;> split <;> first | omega | (exfalso; rename_i a b; exact a (h2 b))

theorem netV_pos {p : Nat → Int} (h : 0 < netV p) : p (lo p 6) < 0 ∧ 0 < p (hi p 6) ∧ lo p 6 ≠ hi p 6 := by
  unfold netV at h
  refine ⟨by omega, by omega, fun e => ?_⟩
  rw [e] at h
  omega
theorem netP_at (p : Nat → Int) (h : 0 < netV p) (i : Nat) : netP p i = if i = lo p 6 then p i + netV p else if i = hi p 6 then p i - netV p else p i := by
  obtain ⟨_, _, hne⟩ := netV_pos h
  have hne' : hi p 6 ≠ lo p 6 := fun e => hne e.symm
  unfold netP upd
  by_cases h1 : i = lo p 6
  · subst h1
    simp [hne]
  · by_cases h2 : i = hi p 6
    · subst h2
      simp [hne']
    · simp [h1, h2]
theorem cnt_netP {p : Nat → Int} (h : 0 < netV p) : cnt (netP p) 6 < cnt p 6 := by
  obtain ⟨h1, h2, hne⟩ := netV_pos h
  have hl := lo_lt p 6 (Nat.le_refl 6)
  have hh := hi_lt p 6 (Nat.le_refl 6)
  refine cnt_lt 6 (fun i _ h0 => ?_) ?_
  · rw [netP_at p h]
    have n1 : i ≠ lo p 6 := fun e => by rw [e] at h0; omega
    have n2 : i ≠ hi p 6 := fun e => by rw [e] at h0; omega
    simp [n1, n2, h0]
  · by_cases hm : -(p (lo p 6)) ≤ p (hi p 6)
    · refine ⟨lo p 6, hl, by omega, ?_⟩
      rw [netP_at p h, if_pos rfl]
      unfold netV
      omega
    · refine ⟨hi p 6, hh, by omega, ?_⟩
      rw [netP_at p h, if_neg (fun e => hne e.symm), if_pos rfl]
      unfold netV
      omega
theorem netP_bd {p : Nat → Int} {B : Int} (h : 0 < netV p) (hb : ∀ i, i < 6 → -B ≤ p i ∧ p i ≤ B) : ∀ i, i < 6 → -B ≤ netP p i ∧ netP p i ≤ B := by
  intro i hi'
  obtain ⟨h1, h2, hne⟩ := netV_pos h
  have b1 := hb i hi'
  have hv1 : netV p ≤ -(p (lo p 6)) := by unfold netV; omega
  have hv2 : netV p ≤ p (hi p 6) := by unfold netV; omega
  rw [netP_at p h]
  split
  · rename_i e
    subst e
    omega
  · split
    · rename_i e
      subst e
      omega
    · exact b1
theorem netV_bd {p : Nat → Int} {B : Int} (hb : ∀ i, i < 6 → -B ≤ p i ∧ p i ≤ B) : netV p ≤ B := by
  have := hb (hi p 6) (hi_lt p 6 (Nat.le_refl 6))
  unfold netV
  omega

theorem net_length (u : Int) : ∀ n p, (net u n p).length ≤ n
  | 0, _ => by simp [net]
  | n + 1, p => by
    unfold net
    split
    · simp
    · have := net_length u n (netP p)
      simp
      omega
theorem net_stop {u : Int} {p : Nat → Int} (h : netV p ≤ 0) : ∀ n, net u n p = []
  | 0 => rfl
  | n + 1 => by simp [net, h]
theorem net_step {u : Int} {p : Nat → Int} (h : 0 < netV p) (n : Nat) : net u (n + 1) p = { d := lo p 6, c := hi p 6, u := u, a := netV p } :: net u n (netP p) := by
  have : ¬ netV p ≤ 0 := by omega
  simp [net, this]
end Go.Proofs.Ytldkblkcbffelaa
