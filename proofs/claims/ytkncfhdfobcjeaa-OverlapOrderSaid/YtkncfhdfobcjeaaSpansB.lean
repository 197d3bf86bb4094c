/- More of lists of spans, in plain Lean: the numbers of days of sets, the first n days of a list. No program of the seat is named here. -/
import Derived.Test.YtkncfhdfobcjeaaSpans
namespace Go.Proofs.Ytkncfhdfobcjeaa

theorem cnt_cut (S : Int → Bool) (m : Nat) : ∀ k : Nat, cnt (fun x => S x && decide (x < (m : Int))) k = cnt S (min k m)
  | 0 => by rw [Nat.zero_min]; rfl
  | k + 1 => by
    have ih := cnt_cut S m k
    by_cases h : k < m
    · have e1 : min (k + 1) m = k + 1 := by omega
      have e2 : min k m = k := by omega
      have e3 : decide ((k : Int) < (m : Int)) = true := by simpa using h
      rw [e2] at ih
      rw [e1]
      unfold cnt
      rw [ih, e3, Bool.and_true]
    · have e1 : min (k + 1) m = min k m := by omega
      have e3 : decide ((k : Int) < (m : Int)) = false := by simpa using h
      rw [e1, ← ih]
      show cnt _ k + _ = _
      simp only [e3, Bool.and_false, Bool.false_eq_true, if_false, Int.add_zero]
@[irreducible] def dayN : Nat := 73049
theorem dayN_eq : dayN = 73049 := by unfold dayN; rfl
theorem isD_nat {i : Nat} (h : i < dayN) : isD (i : Int) = true := (isD_iff _).2 (by have := dayN_eq; omega)
theorem dayN_int : (73049 : Int) = (dayN : Int) := by rw [dayN_eq]; rfl
theorem lenL_nf (S : Int → Bool) : lenL (nf S) = cnt S dayN := by
  rw [← befL_len2 (nf_norm S), dayN_int, befL_nat (nf_norm S), Int.toNat_natCast]
  exact cnt_congr dayN fun i hi => by rw [nf_cov, isD_nat hi, Bool.true_and]
theorem befL_nf (S : Int → Bool) (d : Int) : befL (nf S) d = cnt S (min d.toNat dayN) := by
  rw [befL_nat (nf_norm S), ← cnt_cut S dayN d.toNat]
  refine cnt_congr _ fun i _ => ?_
  rw [nf_cov, Bool.and_comm]
  refine congrArg (fun b => S i && b) ?_
  rw [Bool.eq_iff_iff, isD_iff, decide_eq_true_eq, dayN_int]
  omega
theorem bef_rank (S : Int → Bool) (d : Int) : lenL (nf fun x => S x && dset [⟨0, d⟩] x) = befL (nf S) d := by
  rw [lenL_nf, befL_nf, Nat.min_comm, ← cnt_cut S d.toNat dayN]
  refine cnt_congr _ fun i hi => ?_
  refine congrArg (fun b => S i && b) ?_
  rw [dset, isD_nat hi, Bool.true_and, cov_cons, cov_nil, Bool.or_false, Bool.eq_iff_iff, inS_iff, decide_eq_true_eq]
  show (0 : Int) ≤ i ∧ (i : Int) < d ↔ _
  omega
theorem lenL_add (S T : Int → Bool) : lenL (nf fun x => S x || T x) + lenL (nf fun x => S x && T x) = lenL (nf S) + lenL (nf T) := by
  rw [lenL_nf, lenL_nf, lenL_nf, lenL_nf]
  exact cnt_add S T dayN

theorem befL_low : ∀ {l : List Sp} {lo x : Int}, NormFrom lo l → x ≤ lo + 1 → befL l x = 0
  | [], _, _, _, _ => rfl
  | s :: r, lo, x, ⟨h1, h2, h3, h4⟩, hx => by
    unfold befL
    rw [befL_low h4 (by omega), if_neg (by omega)]
    rfl
theorem befL_mono : ∀ (l : List Sp) {x y : Int}, (∀ s ∈ l, s.f < s.t) → x ≤ y → befL l x ≤ befL l y
  | [], _, _, _, _ => Int.le_refl 0
  | s :: r, x, y, hf, h => by
    have ih := befL_mono r (fun p hp => hf p (by simp [hp])) h
    have hs := hf s (by simp)
    unfold befL
    split <;> split <;> omega
theorem norm_lt : ∀ {l : List Sp} {lo : Int}, NormFrom lo l → ∀ s ∈ l, s.f < s.t
  | [], _, _, s, hs => by simp at hs
  | p :: r, lo, ⟨h1, h2, h3, h4⟩, s, hs => by
    rcases List.mem_cons.1 hs with rfl | hs
    · exact h2
    · exact norm_lt h4 s hs

/-- The first n days. -/
def prefL : List Sp → Int → List Sp
  | [], _ => []
  | s :: r, n => if n < 1 then [] else ⟨s.f, s.f + min n (s.t - s.f)⟩ :: prefL r (n - min n (s.t - s.f))
theorem prefL_stop (l : List Sp) {n : Int} (h : n < 1) : prefL l n = [] := by
  cases l with
  | nil => rfl
  | cons s r => unfold prefL; rw [if_pos h]
theorem prefL_length : ∀ (l : List Sp) (n : Int), (prefL l n).length ≤ l.length
  | [], _ => Nat.le_refl 0
  | s :: r, n => by
    have := prefL_length r (n - min n (s.t - s.f))
    unfold prefL
    split
    · simp
    · simp only [List.length_cons]; omega
theorem prefL_ok : ∀ {l : List Sp} {lo : Int} (n : Int), NormFrom lo l → NormFrom lo (prefL l n) ∧ ∀ x, cov (prefL l n) x = (cov l x && decide (befL l x < n))
  | [], _, _, _ => ⟨trivial, fun _ => rfl⟩
  | s :: r, lo, n, h => by
    have hall := h
    obtain ⟨h1, h2, h3, h4⟩ := h
    by_cases hn : n < 1
    · rw [prefL_stop _ hn]
      refine ⟨trivial, fun x => ?_⟩
      have h0 := (befL_bd x hall).1
      have e : decide (befL (s :: r) x < n) = false := by simp; omega
      rw [e, Bool.and_false]
      rfl
    · obtain ⟨i1, i2⟩ := prefL_ok (n - min n (s.t - s.f)) h4
      have e : prefL (s :: r) n = ⟨s.f, s.f + min n (s.t - s.f)⟩ :: prefL r (n - min n (s.t - s.f)) := by
        show (if n < 1 then [] else _) = _
        rw [if_neg hn]
      rw [e]
      refine ⟨⟨h1, by show s.f < s.f + min n (s.t - s.f); omega, by show s.f + min n (s.t - s.f) ≤ 73049; omega, i1.weak (by show s.f + min n (s.t - s.f) ≤ s.t; omega)⟩, fun x => ?_⟩
      rw [cov_cons, cov_cons, i2 x]
      have hb : befL (s :: r) x = (if s.f < x then min s.t x - s.f else 0) + befL r x := rfl
      have h0 := (befL_bd x h4).1
      rw [hb]
      cases hx : inS s x with
      | true =>
        have hx2 := (inS_iff s x).1 hx
        rw [cov_low h4 (by omega), befL_low h4 (by omega), Bool.false_and, Bool.or_false, Bool.or_false, Bool.true_and, Bool.eq_iff_iff, inS_iff, decide_eq_true_eq]
        show s.f ≤ x ∧ x < s.f + min n (s.t - s.f) ↔ _
        by_cases hfx : s.f < x
        · rw [if_pos hfx]
          omega
        · rw [if_neg hfx]
          omega
      | false =>
        have hx2 := (inS_false s x).1 hx
        have hs2 : inS ⟨s.f, s.f + min n (s.t - s.f)⟩ x = false := by
          rw [inS_false]
          show ¬(s.f ≤ x ∧ x < s.f + min n (s.t - s.f))
          omega
        rw [hs2, Bool.false_or, Bool.false_or]
        cases hr : cov r x with
        | false => rfl
        | true =>
          have hxt : s.t < x := by
            by_cases hc : s.t < x
            · exact hc
            · rw [cov_low h4 (by omega)] at hr
              cases hr
          rw [Bool.true_and, Bool.true_and, Bool.eq_iff_iff, decide_eq_true_eq, decide_eq_true_eq, if_pos (by omega)]
          omega
theorem prefL_len : ∀ {l : List Sp} {lo : Int} {n : Int}, NormFrom lo l → 0 ≤ n → lenL (prefL l n) = min n (lenL l)
  | [], _, n, _, hn => by
    show (0 : Int) = min n 0
    omega
  | s :: r, lo, n, ⟨h1, h2, h3, h4⟩, hn => by
    have hr := lenL_nn h4
    have e1 : lenL (s :: r) = (s.t - s.f) + lenL r := rfl
    by_cases h : n < 1
    · rw [prefL_stop _ h, e1]
      show (0 : Int) = _
      omega
    · have ih := prefL_len (n := n - min n (s.t - s.f)) h4 (by omega)
      have e : prefL (s :: r) n = ⟨s.f, s.f + min n (s.t - s.f)⟩ :: prefL r (n - min n (s.t - s.f)) := by
        show (if n < 1 then [] else _) = _
        rw [if_neg h]
      rw [e, e1]
      show (s.f + min n (s.t - s.f) - s.f) + lenL (prefL r (n - min n (s.t - s.f))) = _
      rw [ih]
      omega
/-- The set of the first n days of a set. -/
theorem prefL_nf (S : Int → Bool) (n : Int) : prefL (nf S) n = nf fun x => S x && decide (befL (nf S) x < n) := by
  obtain ⟨h1, h2⟩ := prefL_ok n (nf_norm S)
  refine nf_unique h1 fun x hx => ?_
  rw [h2 x, nf_cov, hx, Bool.true_and]
/-- None of the first n days lies behind one of the others. -/
theorem pref_apart {S : Int → Bool} {n : Int} {p r : List Sp} {q s : Sp} (hp : nf (fun x => S x && decide (befL (nf S) x < n)) = p ++ [q]) (hr : nf (fun x => S x && !(S x && decide (befL (nf S) x < n))) = s :: r) : q.t - 1 < s.f := by
  have np := nf_norm fun x => S x && decide (befL (nf S) x < n)
  have nr := nf_norm fun x => S x && !(S x && decide (befL (nf S) x < n))
  have c1 := nf_cov (fun x => S x && decide (befL (nf S) x < n)) (q.t - 1)
  have c2 := nf_cov (fun x => S x && !(S x && decide (befL (nf S) x < n))) s.f
  rw [hp] at np c1
  rw [hr] at nr c2
  have hq := norm_lt np q (by simp)
  have hs := norm_lt nr s (by simp)
  rw [show cov (p ++ [q]) (q.t - 1) = true from (cov_iff _ _).2 ⟨q, by simp, by omega, by omega⟩] at c1
  rw [show cov (s :: r) s.f = true from (cov_iff _ _).2 ⟨s, by simp, by omega, by omega⟩] at c2
  have d1 := c1.symm
  have d2 := c2.symm
  simp only [Bool.and_eq_true, decide_eq_true_eq, Bool.not_eq_true', Bool.and_eq_false_iff, decide_eq_false_iff_not] at d1 d2
  obtain ⟨_, _, d3⟩ := d1
  obtain ⟨_, d4, d5⟩ := d2
  by_cases h : s.f ≤ q.t - 1
  · have hm := befL_mono (nf S) (norm_lt (nf_norm S)) h
    rcases d5 with d5 | d5
    · rw [d4] at d5; cases d5
    · omega
  · omega

end Go.Proofs.Ytkncfhdfobcjeaa
