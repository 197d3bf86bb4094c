/- What paying the netting does, in plain Lean: it settles, and it is short. -/
import Derived.Test.YtldkblkcbffelaaPayA
namespace Go.Proofs.Ytldkblkcbffelaa

/-- The sum of the first k. -/
def sumTo (p : Nat → Int) : Nat → Int
  | 0 => 0
  | k + 1 => sumTo p k + p k
theorem sumTo_le {p : Nat → Int} : ∀ k, (∀ i, i < k → p i ≤ 0) → sumTo p k ≤ 0 ∧ (sumTo p k = 0 → ∀ i, i < k → p i = 0)
  | 0, _ => ⟨Int.le_refl 0, fun _ i hi => by omega⟩
  | k + 1, h => by
    obtain ⟨h1, h2⟩ := sumTo_le k fun i hi => h i (by omega)
    have h3 := h k (by omega)
    refine ⟨by simp only [sumTo]; omega, fun h0 i hi => ?_⟩
    simp only [sumTo] at h0
    by_cases hk : i = k
    · subst hk; omega
    · exact h2 (by omega) i (by omega)
theorem sumTo_ge {p : Nat → Int} : ∀ k, (∀ i, i < k → 0 ≤ p i) → 0 ≤ sumTo p k ∧ (sumTo p k = 0 → ∀ i, i < k → p i = 0)
  | 0, _ => ⟨Int.le_refl 0, fun _ i hi => by omega⟩
  | k + 1, h => by
    obtain ⟨h1, h2⟩ := sumTo_ge k fun i hi => h i (by omega)
    have h3 := h k (by omega)
    refine ⟨by simp only [sumTo]; omega, fun h0 i hi => ?_⟩
    simp only [sumTo] at h0
    by_cases hk : i = k
    · subst hk; omega
    · exact h2 (by omega) i (by omega)
theorem sumTo_two {p q : Nat → Int} {a b : Nat} {v : Int} (hab : a ≠ b) (h : ∀ i, q i = if i = a then p i + v else if i = b then p i - v else p i) : ∀ k, sumTo q k = sumTo p k + (if a < k then v else 0) - (if b < k then v else 0)
  | 0 => by simp [sumTo]
  | k + 1 => by
    simp only [sumTo, sumTo_two hab h k, h k]
    by_cases h1 : k = a
    · subst h1
      have e1 : ¬ k < k := by omega
      have e2 : k < k + 1 := by omega
      have e3 : (b < k + 1) ↔ (b < k) := by omega
      simp only [e1, e2, e3, if_true, if_false]
      omega
    · by_cases h2 : k = b
      · subst h2
        have e1 : ¬ k < k := by omega
        have e2 : k < k + 1 := by omega
        have e3 : (a < k + 1) ↔ (a < k) := by omega
        simp only [h1, e1, e2, e3, if_true, if_false]
        omega
      · have e3 : (a < k + 1) ↔ (a < k) := by omega
        have e4 : (b < k + 1) ↔ (b < k) := by omega
        simp only [h1, h2, e3, e4, if_false]
        omega
theorem sumTo_netP {p : Nat → Int} (h : 0 < netV p) : sumTo (netP p) 6 = sumTo p 6 := by
  obtain ⟨_, _, hne⟩ := netV_pos h
  rw [sumTo_two hne (fun i => netP_at p h i) 6]
  simp only [lo_lt p 6 (Nat.le_refl 6), hi_lt p 6 (Nat.le_refl 6), if_true]
  omega
/-- Where nothing is left to pay and the positions add up to 0, all are 0. -/
theorem settled {p : Nat → Int} (h : netV p ≤ 0) (hs : sumTo p 6 = 0) : ∀ i, i < 6 → p i = 0 := by
  unfold netV at h
  have hl := lo_le p 6
  have hh := hi_ge p 6
  by_cases h1 : 0 ≤ p (lo p 6)
  · exact (sumTo_ge 6 fun i hi => by have := hl i hi; omega).2 hs
  · exact (sumTo_le 6 fun i hi => by have := hh i hi; omega).2 hs
theorem cnt_zero {p : Nat → Int} : ∀ k, cnt p k = 0 → ∀ i, i < k → p i = 0
  | 0, _, i, hi => by omega
  | k + 1, h, i, hi => by
    unfold cnt at h
    split at h
    · rename_i h0
      by_cases hk : i = k
      · rw [hk]; exact h0
      · exact cnt_zero k (by omega) i (by omega)
    · omega
theorem cnt_all {p : Nat → Int} : ∀ k, (∀ i, i < k → p i = 0) → cnt p k = 0
  | 0, _ => rfl
  | k + 1, h => by
    have h1 := cnt_all k fun i hi => h i (by omega)
    have h2 := h k (by omega)
    simp [cnt, h1, h2]
theorem cnt_netV {p : Nat → Int} (h : cnt p 6 = 0) : netV p ≤ 0 := by
  have h1 := cnt_zero 6 h (lo p 6) (lo_lt p 6 (Nat.le_refl 6))
  unfold netV
  omega
/-- Fewer payments than states with a position. -/
theorem net_short (u : Int) : ∀ (n : Nat) (p : Nat → Int), net u n p = [] ∨ (net u n p).length < cnt p 6
  | 0, _ => .inl rfl
  | n + 1, p => by
    by_cases h : netV p ≤ 0
    · exact .inl (net_stop h _)
    · right
      have hp : 0 < netV p := by omega
      rw [net_step hp]
      have hc := cnt_netP hp
      rcases net_short u n (netP p) with h0 | h0
      · rw [h0]
        obtain ⟨h1, h2, hne⟩ := netV_pos hp
        have hl := lo_lt p 6 (Nat.le_refl 6)
        have hh := hi_lt p 6 (Nat.le_refl 6)
        have hpos : 0 < cnt (netP p) 6 ∨ cnt (netP p) 6 = 0 := by omega
        rcases hpos with hq | hq
        · simp only [List.length_cons, List.length_nil]; omega
        · -- both sides of the payment had a position
          have h2 : 2 ≤ cnt p 6 := by
            apply Classical.byContradiction
            intro hlt
            have hz : cnt (upd p (lo p 6) 0) 6 < cnt p 6 := cnt_lt 6 (fun i _ h0 => by unfold upd; split <;> simp [h0]) ⟨lo p 6, hl, by omega, by simp [upd]⟩
            have hz2 : cnt (upd p (lo p 6) 0) 6 = 0 := by omega
            have := cnt_zero 6 hz2 (hi p 6) hh
            simp only [upd] at this
            rw [if_neg (fun e => hne e.symm)] at this
            omega
          simp only [List.length_cons, List.length_nil]
          omega
      · simp only [List.length_cons]
        omega

/-- The positions when the payments are paid. -/
def pEnd : Nat → (Nat → Int) → (Nat → Int)
  | 0, p => p
  | n + 1, p => if netV p ≤ 0 then p else pEnd n (netP p)
theorem pEnd_stop {p : Nat → Int} (h : netV p ≤ 0) : ∀ n, pEnd n p = p
  | 0 => rfl
  | n + 1 => by simp [pEnd, h]
theorem pEnd_step {p : Nat → Int} (h : 0 < netV p) (n : Nat) : pEnd (n + 1) p = pEnd n (netP p) := by
  have : ¬ netV p ≤ 0 := by omega
  simp [pEnd, this]
theorem pEnd_done : ∀ (n : Nat) (p : Nat → Int), cnt p 6 ≤ n → netV (pEnd n p) ≤ 0 ∧ sumTo (pEnd n p) 6 = sumTo p 6
  | 0, p, h => ⟨cnt_netV (by show cnt p 6 = 0; omega), rfl⟩
  | n + 1, p, h => by
    by_cases hv : netV p ≤ 0
    · rw [pEnd_stop hv]
      exact ⟨hv, rfl⟩
    · have hp : 0 < netV p := by omega
      rw [pEnd_step hp]
      have hc := cnt_netP hp
      obtain ⟨h1, h2⟩ := pEnd_done n (netP p) (by omega)
      exact ⟨h1, by rw [h2, sumTo_netP hp]⟩
theorem pEnd_zero {p : Nat → Int} (h : sumTo p 6 = 0) : ∀ i, i < 6 → pEnd 6 p i = 0 := by
  obtain ⟨h1, h2⟩ := pEnd_done 6 p (cnt_le_n p 6)
  exact settled h1 (by rw [h2]; exact h)

/-- What each payment is. -/
theorem net_mem (u : Int) : ∀ (n : Nat) (p : Nat → Int) (x : Dt), x ∈ net u n p → ∃ d c : Nat, x.d = d ∧ x.c = c ∧ d < 6 ∧ c < 6 ∧ d ≠ c ∧ x.u = u ∧ 1 ≤ x.a ∧ p d < 0 ∧ 0 < p c ∧ x.a ≤ p c
  | 0, _, x, h => by simp [net] at h
  | n + 1, p, x, h => by
    by_cases hv : netV p ≤ 0
    · rw [net_stop hv] at h
      simp at h
    · have hp : 0 < netV p := by omega
      rw [net_step hp] at h
      obtain ⟨h1, h2, hne⟩ := netV_pos hp
      have hl := lo_lt p 6 (Nat.le_refl 6)
      have hh := hi_lt p 6 (Nat.le_refl 6)
      have hb : netV p ≤ p (hi p 6) := by unfold netV; omega
      have hb2 : netV p ≤ -(p (lo p 6)) := by unfold netV; omega
      rcases List.mem_cons.1 h with rfl | h
      · exact ⟨lo p 6, hi p 6, rfl, rfl, hl, hh, hne, rfl, by show 1 ≤ netV p; omega, h1, h2, hb⟩
      · obtain ⟨d, c, e1, e2, hd, hc, hdc, eu, ha, hpd, hpc, hac⟩ := net_mem u n (netP p) x h
        rw [netP_at p hp] at hpd hpc hac
        refine ⟨d, c, e1, e2, hd, hc, hdc, eu, ha, ?_, ?_, ?_⟩
        · by_cases g1 : d = lo p 6
          · rw [g1]; exact h1
          · rw [if_neg g1] at hpd
            by_cases g2 : d = hi p 6
            · rw [if_pos g2] at hpd; rw [g2] at hpd; omega
            · rw [if_neg g2] at hpd; exact hpd
        · by_cases g1 : c = lo p 6
          · rw [if_pos g1] at hpc; rw [g1] at hpc; omega
          · rw [if_neg g1] at hpc
            by_cases g2 : c = hi p 6
            · rw [g2]; exact h2
            · rw [if_neg g2] at hpc; exact hpc
        · by_cases g1 : c = lo p 6
          · rw [if_pos g1] at hpc; rw [g1] at hpc; omega
          · rw [if_neg g1] at hac
            by_cases g2 : c = hi p 6
            · rw [if_pos g2] at hac; omega
            · rw [if_neg g2] at hac; exact hac

/-- The payments, booked into an array. -/
def book (q : Nat → Int) (x : Dt) : Nat → Int := upd (upd q x.d.toNat (q x.d.toNat - x.a)) x.c.toNat (upd q x.d.toNat (q x.d.toNat - x.a) x.c.toNat + x.a)
def mv (D : List Dt) (q : Nat → Int) : Nat → Int := D.foldl book q
theorem mv_net (u : Int) : ∀ (n : Nat) (p q : Nat → Int) (i : Nat), mv (net u n p) q i = q i + p i - pEnd n p i
  | 0, p, q, i => by simp [net, mv, pEnd]
  | n + 1, p, q, i => by
    by_cases hv : netV p ≤ 0
    · rw [net_stop hv, pEnd_stop hv]
      simp [mv]
    · have hp : 0 < netV p := by omega
      rw [net_step hp, pEnd_step hp]
      obtain ⟨_, _, hne⟩ := netV_pos hp
      have e := mv_net u n (netP p) (book q { d := lo p 6, c := hi p 6, u := u, a := netV p }) i
      have e2 : mv ({ d := lo p 6, c := hi p 6, u := u, a := netV p } :: net u n (netP p)) q i = mv (net u n (netP p)) (book q { d := lo p 6, c := hi p 6, u := u, a := netV p }) i := rfl
      rw [e2, e, netP_at p hp]
      have hne' : ¬ hi p 6 = lo p 6 := fun e => hne e.symm
      simp only [book, Int.toNat_natCast, upd]
      by_cases g1 : i = lo p 6
      · subst g1
        simp only [hne, if_true, if_false]
        omega
      · by_cases g2 : i = hi p 6
        · subst g2
          simp only [hne', if_true, if_false]
          omega
        · simp only [g1, g2, if_false]

/-- Paying the netting of a ledger. -/
theorem payGo_net {u : Int} (hu : 1 ≤ u ∧ u ≤ 999) : ∀ (n : Nat) (L : List Dt) (p : Nat → Int), Wide L → (∀ i : Nat, i < 6 → rpos L i u = p i) →
    ∃ L', payGo L (net u n p) = (0, L') ∧ (∀ i : Nat, i < 6 → rpos L' i u = pEnd n p i) ∧ (∀ (s v : Int), v ≠ u → rpos L' s v = rpos L s v)
  | 0, L, p, _, h => ⟨L, rfl, h, fun _ _ _ => rfl⟩
  | n + 1, L, p, hW, h => by
    by_cases hv : netV p ≤ 0
    · rw [net_stop hv, pEnd_stop hv]
      exact ⟨L, rfl, h, fun _ _ _ => rfl⟩
    · have hp : 0 < netV p := by omega
      rw [net_step hp, pEnd_step hp]
      obtain ⟨h1, h2, hne⟩ := netV_pos hp
      have hl := lo_lt p 6 (Nat.le_refl 6)
      have hh := hi_lt p 6 (Nat.le_refl 6)
      have hb : ∀ i, i < 6 → -1000000000000 ≤ p i ∧ p i ≤ 1000000000000 := by
        intro i hi
        have := (fitsB_iff _).1 (hW i u hi)
        rw [h i hi] at this
        exact this
      have hnb := netP_bd hp hb
      have hvb := netV_bd hb
      have hvalid : validB (hi p 6 : Nat) (lo p 6 : Nat) u (netV p) = true := by
        have : (hi p 6 : Int) ≠ (lo p 6 : Int) := by omega
        simp only [validB, decide_eq_true_eq]
        omega
      have hpos : ∀ i : Nat, i < 6 → rpos (L ++ [⟨hi p 6, lo p 6, u, netV p⟩]) i u = netP p i := by
        intro i hi'
        rw [rpos_app, netP_at p hp, h i hi']
        unfold rstep
        simp only [beq_self_eq_true, Bool.true_and, beq_iff_eq]
        by_cases g1 : i = lo p 6
        · subst g1
          have e : ¬ ((hi p 6 : Nat) : Int) = ((lo p 6 : Nat) : Int) := by omega
          simp [e]
        · by_cases g2 : i = hi p 6
          · subst g2
            have e : ¬ ((lo p 6 : Nat) : Int) = ((hi p 6 : Nat) : Int) := by omega
            simp [e, g1]
          · have e : ¬ ((lo p 6 : Nat) : Int) = (i : Int) := by omega
            have e2 : ¬ ((hi p 6 : Nat) : Int) = (i : Int) := by omega
            simp [e, e2, g1, g2]
      have hwb : wideB L ⟨hi p 6, lo p 6, u, netV p⟩ = true := by
        unfold wideB
        rw [hpos _ hh, hpos _ hl, Bool.and_eq_true, fitsB_iff, fitsB_iff]
        exact ⟨hnb _ hh, hnb _ hl⟩
      have hcode : codeOf L (swp { d := lo p 6, c := hi p 6, u := u, a := netV p }) = 0 := by
        simp only [codeOf, swp, hvalid, hwb, if_true]
      have hnext : nextOf L (swp { d := lo p 6, c := hi p 6, u := u, a := netV p }) = L ++ [⟨hi p 6, lo p 6, u, netV p⟩] := by
        simp only [nextOf, swp, hvalid, hwb, if_true]
      have hW2 := hW.next (swp { d := lo p 6, c := hi p 6, u := u, a := netV p })
      rw [hnext] at hW2
      obtain ⟨L', e1, e2, e3⟩ := payGo_net hu n _ (netP p) hW2 hpos
      refine ⟨L', ?_, e2, fun s v hv' => ?_⟩
      · rw [payGo, if_pos hcode, hnext]
        exact e1
      · rw [e3 s v hv', rpos_app]
        have : (u == v) = false := by simpa using fun e => hv' e.symm
        simp [rstep, this]
end Go.Proofs.Ytldkblkcbffelaa
