/- The days that count, as the program and as the reference make them, in plain Lean. No program of the seat is named here. -/
import Derived.Test.YthncjohekjnjaaaOver
namespace Go.Proofs.Ythncjohekjnjaaa

theorem mem_memI : ∀ (ls : List (List Sp)) (i : Nat) (x j : Int), j ∈ memI i ls x ↔ ∃ (k : Nat) (l : List Sp), j = ((i + k : Nat) : Int) ∧ ls[k]? = some l ∧ dset l x = true
  | [], i, x, j => by simp [memI]
  | q :: ls, i, x, j => by
    have ih := mem_memI ls (i + 1) x j
    have e : j ∈ memI i (q :: ls) x ↔ (dset q x = true ∧ j = (i : Int)) ∨ j ∈ memI (i + 1) ls x := by
      show j ∈ (if dset q x = true then (i : Int) :: memI (i + 1) ls x else memI (i + 1) ls x) ↔ _
      split
      · rename_i h
        simp [h]
      · rename_i h
        simp [h]
    rw [e, ih]
    constructor
    · rintro (⟨h1, h2⟩ | ⟨k, l, h1, h2, h3⟩)
      · exact ⟨0, q, by simpa using h2, rfl, h1⟩
      · exact ⟨k + 1, l, by rw [h1]; congr 1; omega, h2, h3⟩
    · rintro ⟨k, l, h1, h2, h3⟩
      cases k with
      | zero =>
        simp at h2
        subst h2
        exact .inl ⟨h3, by simpa using h1⟩
      | succ k => exact .inr ⟨k, l, by rw [h1]; congr 1; omega, by simpa using h2, h3⟩
theorem memL_inj {ls : List (List Sp)} {x y : Int} (h : memL ls x = memL ls y) : ∀ l ∈ ls, dset l x = dset l y := by
  intro l hl
  obtain ⟨k, hk⟩ := List.mem_iff_getElem?.1 hl
  have key : ∀ z, ((0 + k : Nat) : Int) ∈ memL ls z ↔ dset l z = true := fun z => by
    unfold memL
    rw [mem_memI]
    constructor
    · rintro ⟨k', l', h1, h2, h3⟩
      have : k' = k := by omega
      subst this
      rw [hk] at h2
      cases h2
      exact h3
    · intro h3
      exact ⟨k, l, rfl, hk, h3⟩
  rw [Bool.eq_iff_iff, ← key x, ← key y, h]
theorem memL_empty {ls : List (List Sp)} {x : Int} (h : memL ls x = []) : ∀ l ∈ ls, dset l x = false := by
  intro l hl
  obtain ⟨k, hk⟩ := List.mem_iff_getElem?.1 hl
  rw [Bool.eq_false_iff]
  intro h3
  have : ((0 + k : Nat) : Int) ∈ memI 0 ls x := (mem_memI ls 0 x _).2 ⟨k, l, rfl, hk, h3⟩
  unfold memL at h
  rw [h] at this
  simp at this
/-! The program: the days from a piece's second day on are decided alike. -/
def resA (C : List Pr) (O : List Pc) (a b : Int) : List Pc := if a < b then addP O a b (memC C a) else O
def resP (C : List Pr) : List Pc → List Pc → List Pc
  | [], O => O
  | p :: r, O => resP C r (resA C (resA C O p.f (p.f + 1)) (p.f + 1) p.t)
theorem resP_ok {C : List Pr} : ∀ (P : List Pc) {lo : Int} {pm : List Int} {O : List Pc}, PN lo pm P → 0 ≤ lo → PN 0 [] O → UptoP O lo → (∀ x, valP O x = if x < lo then memC C x else []) →
    (∀ x, lo ≤ x → valP P x = [] → memC C x = []) → (∀ p ∈ P, ∀ x, p.f + 1 ≤ x → x < p.t → memC C x = memC C (p.f + 1)) → Res C (resP C P O)
  | [], lo, pm, O, _, _, hO, _, hv, hno, _ => by
    refine ⟨hO, fun x => ?_⟩
    show valP O x = _
    rw [hv x]
    split
    · rfl
    · exact (hno x (by omega) rfl).symm
  | p :: r, lo, pm, O, ⟨h1, h2, h3, h4, h5⟩, h0, hO, hu, hv, hno, hc => by
    have hu1 : UptoP O p.f := fun q hq => Int.le_trans (hu q hq) h1
    have a1 := addP_pn (m := memC C p.f) hO hu1 (show (0 : Int) ≤ p.f by omega) (fun _ => .inl rfl) (show p.f < p.f + 1 by omega)
    have a2 := addP_upto (m := memC C p.f) hu1 (show p.f ≤ p.f + 1 by omega)
    have a3 := addP_val (m := memC C p.f) (pn_ft hO) hu1 (show p.f < p.f + 1 by omega)
    have e1 : resA C O p.f (p.f + 1) = addP O p.f (p.f + 1) (memC C p.f) := by unfold resA; rw [if_pos (by omega)]
    have v1 : ∀ x, valP (addP O p.f (p.f + 1) (memC C p.f)) x = if x < p.f + 1 then memC C x else [] := fun x => by
      rw [a3 x, hv x]
      by_cases hx : p.f ≤ x ∧ x < p.f + 1
      · rw [if_pos hx, if_pos hx.2, show x = p.f by omega]
      · rw [if_neg hx]
        by_cases hl : x < lo
        · rw [if_pos hl, if_pos (by omega)]
        · rw [if_neg hl]
          by_cases hl2 : x < p.f + 1
          · rw [if_pos hl2]
            have hlow : valP (p :: r) x = [] := by
              show (if p.f ≤ x ∧ x < p.t then p.m else valP r x) = _
              rw [if_neg (by omega), valP_low h5 (by omega)]
            exact (hno x (by omega) hlow).symm
          · rw [if_neg hl2]
    have key : ∀ O2 : List Pc, PN 0 [] O2 → UptoP O2 p.t → (∀ x, valP O2 x = if x < p.t then memC C x else []) → Res C (resP C r O2) := fun O2 k1 k2 k3 =>
      resP_ok r h5 (by omega) k1 k2 k3 (fun x hx hv => hno x (by omega) (by
        show (if p.f ≤ x ∧ x < p.t then p.m else valP r x) = _
        rw [if_neg (by omega), hv])) fun q hq => hc q (by simp [hq])
    show Res C (resP C r (resA C (resA C O p.f (p.f + 1)) (p.f + 1) p.t))
    rw [e1]
    by_cases ht : p.f + 1 < p.t
    · have e2 : resA C (addP O p.f (p.f + 1) (memC C p.f)) (p.f + 1) p.t = addP (addP O p.f (p.f + 1) (memC C p.f)) (p.f + 1) p.t (memC C (p.f + 1)) := by unfold resA; rw [if_pos ht]
      rw [e2]
      have b1 := addP_pn (m := memC C (p.f + 1)) a1 a2 (show (0 : Int) ≤ p.f + 1 by omega) (fun _ => .inl rfl) ht
      have b2 := addP_upto (m := memC C (p.f + 1)) a2 (Int.le_of_lt ht)
      have b3 := addP_val (m := memC C (p.f + 1)) (pn_ft a1) a2 ht
      refine key _ b1 b2 fun x => ?_
      rw [b3 x, v1 x]
      by_cases hx : p.f + 1 ≤ x ∧ x < p.t
      · rw [if_pos hx, if_pos hx.2, hc p (by simp) x hx.1 hx.2]
      · rw [if_neg hx]
        by_cases hl : x < p.f + 1
        · rw [if_pos hl, if_pos (by omega)]
        · rw [if_neg hl, if_neg (by omega)]
    · have e2 : resA C (addP O p.f (p.f + 1) (memC C p.f)) (p.f + 1) p.t = addP O p.f (p.f + 1) (memC C p.f) := by unfold resA; rw [if_neg ht]
      rw [e2]
      have et : p.t = p.f + 1 := by omega
      rw [et] at key
      exact key _ a1 a2 v1
/-- The lists of the board, state by state, rank by rank. -/
def bdL (C : List Pr) : List (List Sp) := states.flatMap fun s => ranks.map fun r => nf (Dd C s r)
theorem mem_bdL {C : List Pr} {s r : Int} (hs : s ∈ states) (hr : r ∈ ranks) : nf (Dd C s r) ∈ bdL C := List.mem_flatMap.2 ⟨s, hs, List.mem_map.2 ⟨r, hr, rfl⟩⟩
theorem dd_nf (C : List Pr) (s r x : Int) : dset (nf (Dd C s r)) x = Dd C s r x := by
  rw [dset_nf]
  unfold Dd
  rw [dset_isD]
theorem resP_main (C : List Pr) : Res C (resP C (pieces (bdL C)) []) := by
  obtain ⟨h1, h2⟩ := pieces_main (bdL C)
  have hne : ∀ p ∈ pieces (bdL C), p.m ≠ [] ∧ p.f < p.t := by
    have : ∀ {P : List Pc} {lo : Int} {pm : List Int}, PN lo pm P → ∀ p ∈ P, p.m ≠ [] ∧ p.f < p.t := by
      intro P
      induction P with
      | nil => intro _ _ _ p hp; simp at hp
      | cons a r ih =>
        rintro lo pm ⟨_, _, k3, k4, k5⟩ p hp
        rcases List.mem_cons.1 hp with rfl | hp
        · exact ⟨k4, k3⟩
        · exact ih k5 p hp
    exact this h1
  have hin : ∀ p ∈ pieces (bdL C), ∀ x, p.f ≤ x → x < p.t → memL (bdL C) x = p.m := fun p hp x hx hy => by rw [← h2 x]; exact valP_mem h1 p hp x hx hy
  have hdd : ∀ x y, memL (bdL C) x = memL (bdL C) y → ∀ s ∈ states, ∀ r ∈ ranks, Dd C s r x = Dd C s r y := fun x y h s hs r hr => by
    have := memL_inj h _ (mem_bdL (C := C) hs hr)
    rwa [dd_nf, dd_nf] at this
  have hnone : ∀ x, memL (bdL C) x = [] → memC C x = [] := fun x h => memC_nil fun s hs r hr => by
    have := memL_empty h _ (mem_bdL (C := C) hs hr)
    rwa [dd_nf] at this
  have hday : ∀ x, memL (bdL C) x ≠ [] → 0 ≤ x ∧ x < 73049 := fun x h => by
    apply Classical.byContradiction
    intro hc
    refine h (memI_none _ _ _ fun l _ => ?_)
    unfold dset
    rw [show isD x = false by rw [Bool.eq_false_iff]; exact fun e => hc ((isD_iff x).1 e)]
    rfl
  refine resP_ok (pieces (bdL C)) h1 (Int.le_refl 0) trivial (fun p hp => by simp at hp) (fun x => ?_) (fun x _ h => hnone x (by rw [← h2 x]; exact h)) fun p hp x hx hy => ?_
  · by_cases hx : x < 0
    · rw [if_pos hx, memC_out (by omega)]
      rfl
    · rw [if_neg hx]
      rfl
  · obtain ⟨hm, hft⟩ := hne p hp
    have d1 := hday p.f (by rw [hin p hp p.f (Int.le_refl _) hft]; exact hm)
    have d2 := hday (p.t - 1) (by rw [hin p hp (p.t - 1) (by omega) (by omega)]; exact hm)
    refine (memC_const (a := p.f) (b := p.t) d1.1 (fun s hs r hr z z1 z2 => hdd z p.f (by rw [hin p hp z z1 z2, hin p hp p.f (Int.le_refl _) hft]) s hs r hr) (x := p.f + 1) (y := x) (by omega) hx hy fun _ e => by omega).symm

/-! The reference: between the days on which something may change. -/
def refS (e : List Int) (p : Pr) : List Int :=
  if (cutS p.sp).f < (cutS p.sp).t then
    let e1 := insS (insS e (cutS p.sp).f) (cutS p.sp).t
    let e2 := if (cutS p.sp).f + 1 < (cutS p.sp).t then insS e1 ((cutS p.sp).f + 1) else e1
    let e3 := if (cutS p.sp).f < (cutS p.sp).t - 1 then insS e2 ((cutS p.sp).t - 1) else e2
    if (cutS p.sp).t + 1 ≤ 73049 then insS e3 ((cutS p.sp).t + 1) else e3
  else e
def refE (C : List Pr) : List Int := C.foldl refS []
theorem refS_sorted {e : List Int} (p : Pr) (h : e.Pairwise (· < ·)) : (refS e p).Pairwise (· < ·) := by
  unfold refS
  have h1 : (insS (insS e (cutS p.sp).f) (cutS p.sp).t).Pairwise (· < ·) := sorted_insS _ (sorted_insS _ h)
  split
  · have h2 : (if (cutS p.sp).f + 1 < (cutS p.sp).t then insS (insS (insS e (cutS p.sp).f) (cutS p.sp).t) ((cutS p.sp).f + 1) else insS (insS e (cutS p.sp).f) (cutS p.sp).t).Pairwise (· < ·) := by
      split
      · exact sorted_insS _ h1
      · exact h1
    simp only
    split
    · refine sorted_insS _ ?_
      split
      · exact sorted_insS _ h2
      · exact h2
    · split
      · exact sorted_insS _ h2
      · exact h2
  · exact h
theorem refS_length (e : List Int) (p : Pr) : (refS e p).length ≤ e.length + 5 := by
  unfold refS
  have a1 := length_insS e (cutS p.sp).f
  have a2 := length_insS (insS e (cutS p.sp).f) (cutS p.sp).t
  have a3 := length_insS (insS (insS e (cutS p.sp).f) (cutS p.sp).t) ((cutS p.sp).f + 1)
  split
  · simp only
    have h2 : (if (cutS p.sp).f + 1 < (cutS p.sp).t then insS (insS (insS e (cutS p.sp).f) (cutS p.sp).t) ((cutS p.sp).f + 1) else insS (insS e (cutS p.sp).f) (cutS p.sp).t).length ≤ e.length + 3 := by
      split <;> omega
    generalize (if (cutS p.sp).f + 1 < (cutS p.sp).t then insS (insS (insS e (cutS p.sp).f) (cutS p.sp).t) ((cutS p.sp).f + 1) else insS (insS e (cutS p.sp).f) (cutS p.sp).t) = e2 at *
    have a4 := length_insS e2 ((cutS p.sp).t - 1)
    have h3 : (if (cutS p.sp).f < (cutS p.sp).t - 1 then insS e2 ((cutS p.sp).t - 1) else e2).length ≤ e.length + 4 := by
      split <;> omega
    generalize (if (cutS p.sp).f < (cutS p.sp).t - 1 then insS e2 ((cutS p.sp).t - 1) else e2) = e3 at *
    have a5 := length_insS e3 ((cutS p.sp).t + 1)
    split <;> omega
  · omega
theorem mem_refS (e : List Int) (p : Pr) (x : Int) : x ∈ refS e p ↔ x ∈ e ∨ ((cutS p.sp).f < (cutS p.sp).t ∧ (x = (cutS p.sp).f ∨ x = (cutS p.sp).t ∨ ((cutS p.sp).f + 1 < (cutS p.sp).t ∧ (x = (cutS p.sp).f + 1 ∨ x = (cutS p.sp).t - 1)) ∨ ((cutS p.sp).t + 1 ≤ 73049 ∧ x = (cutS p.sp).t + 1))) := by
  unfold refS
  split
  · rename_i h
    simp only
    have h2 : ∀ x, x ∈ (if (cutS p.sp).f + 1 < (cutS p.sp).t then insS (insS (insS e (cutS p.sp).f) (cutS p.sp).t) ((cutS p.sp).f + 1) else insS (insS e (cutS p.sp).f) (cutS p.sp).t) ↔ x ∈ e ∨ x = (cutS p.sp).f ∨ x = (cutS p.sp).t ∨ ((cutS p.sp).f + 1 < (cutS p.sp).t ∧ x = (cutS p.sp).f + 1) := fun x => by
      split
      · rename_i h2
        rw [mem_insS, mem_insS, mem_insS]
        constructor
        · rintro (h | h | h | h) <;> simp [h, h2]
        · rintro (h | h | h | ⟨_, h⟩) <;> simp [h]
      · rename_i h2
        rw [mem_insS, mem_insS]
        constructor
        · rintro (h | h | h) <;> simp [h]
        · rintro (h | h | h | ⟨h, _⟩)
          · simp [h]
          · simp [h]
          · simp [h]
          · exact absurd h h2
    generalize (if (cutS p.sp).f + 1 < (cutS p.sp).t then insS (insS (insS e (cutS p.sp).f) (cutS p.sp).t) ((cutS p.sp).f + 1) else insS (insS e (cutS p.sp).f) (cutS p.sp).t) = e2 at *
    have h3 : ∀ x, x ∈ (if (cutS p.sp).f < (cutS p.sp).t - 1 then insS e2 ((cutS p.sp).t - 1) else e2) ↔ x ∈ e2 ∨ ((cutS p.sp).f < (cutS p.sp).t - 1 ∧ x = (cutS p.sp).t - 1) := fun x => by
      split
      · rename_i h3
        rw [mem_insS]
        constructor
        · rintro (h | h) <;> simp [h, h3]
        · rintro (h | ⟨_, h⟩) <;> simp [h]
      · rename_i h3
        constructor
        · intro h; exact .inl h
        · rintro (h | ⟨h, _⟩)
          · exact h
          · exact absurd h h3
    generalize (if (cutS p.sp).f < (cutS p.sp).t - 1 then insS e2 ((cutS p.sp).t - 1) else e2) = e3 at *
    have h4 : x ∈ (if (cutS p.sp).t + 1 ≤ 73049 then insS e3 ((cutS p.sp).t + 1) else e3) ↔ x ∈ e3 ∨ ((cutS p.sp).t + 1 ≤ 73049 ∧ x = (cutS p.sp).t + 1) := by
      split
      · rename_i h4
        rw [mem_insS]
        constructor
        · rintro (h | h) <;> simp [h, h4]
        · rintro (h | ⟨_, h⟩) <;> simp [h]
      · rename_i h4
        constructor
        · intro h; exact .inl h
        · rintro (h | ⟨h, _⟩)
          · exact h
          · exact absurd h h4
    rw [h4, h3, h2]
    have e4 : (cutS p.sp).f < (cutS p.sp).t - 1 ↔ (cutS p.sp).f + 1 < (cutS p.sp).t := by omega
    rw [e4]
    constructor
    · rintro (((h5 | h5 | h5 | ⟨h5, h6⟩) | ⟨h5, h6⟩) | h5)
      · exact .inl h5
      · exact .inr ⟨h, .inl h5⟩
      · exact .inr ⟨h, .inr (.inl h5)⟩
      · exact .inr ⟨h, .inr (.inr (.inl ⟨h5, .inl h6⟩))⟩
      · exact .inr ⟨h, .inr (.inr (.inl ⟨h5, .inr h6⟩))⟩
      · exact .inr ⟨h, .inr (.inr (.inr h5))⟩
    · rintro (h5 | ⟨_, h5 | h5 | ⟨h5, h6 | h6⟩ | h5⟩)
      · exact .inl (.inl (.inl h5))
      · exact .inl (.inl (.inr (.inl h5)))
      · exact .inl (.inl (.inr (.inr (.inl h5))))
      · exact .inl (.inl (.inr (.inr (.inr ⟨h5, h6⟩))))
      · exact .inl (.inr ⟨h5, h6⟩)
      · exact .inr h5
  · rename_i h
    constructor
    · intro h2; exact .inl h2
    · rintro (h2 | ⟨h2, _⟩)
      · exact h2
      · exact absurd h2 h
theorem foldl_refS_sorted : ∀ (C : List Pr) {e : List Int}, e.Pairwise (· < ·) → (C.foldl refS e).Pairwise (· < ·)
  | [], _, h => h
  | p :: C, _, h => foldl_refS_sorted C (refS_sorted p h)
theorem foldl_refS_length : ∀ (C : List Pr) (e : List Int), (C.foldl refS e).length ≤ e.length + 5 * C.length
  | [], e => by simp
  | p :: C, e => by
    have h1 := foldl_refS_length C (refS e p)
    have h2 := refS_length e p
    show (C.foldl refS (refS e p)).length ≤ _
    simp only [List.length_cons]
    omega
theorem mem_foldl_refS : ∀ (C : List Pr) (e : List Int) (x : Int), x ∈ C.foldl refS e ↔ x ∈ e ∨ ∃ p ∈ C, x ∈ refS [] p
  | [], e, x => by simp
  | p :: C, e, x => by
    show x ∈ C.foldl refS (refS e p) ↔ _
    rw [mem_foldl_refS C]
    have h1 := mem_refS e p x
    have h2 := mem_refS [] p x
    simp only [List.not_mem_nil, false_or] at h2
    simp only [List.mem_cons, exists_eq_or_imp, h1, h2, or_assoc]
theorem refE_snoc (C : List Pr) (p : Pr) : refE (C ++ [p]) = refS (refE C) p := by unfold refE; rw [List.foldl_append]; rfl
theorem refE_sorted (C : List Pr) : (refE C).Pairwise (· < ·) := foldl_refS_sorted C List.Pairwise.nil
theorem refE_length (C : List Pr) : (refE C).length ≤ 5 * C.length := by have := foldl_refS_length C []; unfold refE; simpa using this
theorem mem_refE (C : List Pr) (x : Int) : x ∈ refE C ↔ ∃ p ∈ C, x ∈ refS [] p := by
  unfold refE
  rw [mem_foldl_refS]
  simp
theorem refE_bd {C : List Pr} {x : Int} (h : x ∈ refE C) : 0 ≤ x ∧ x ≤ 73049 := by
  obtain ⟨p, _, hx⟩ := (mem_refE C x).1 h
  rw [mem_refS] at hx
  simp only [List.not_mem_nil, false_or, cutS] at hx
  omega
/-- A claim that covers a day begins and ends at cuts. -/
theorem cover_cut {C : List Pr} {s r x : Int} (h : Dd C s r x = true) : ∃ p ∈ C, p.s = s ∧ (r = 0 ∨ p.r = r) ∧ (cutS p.sp).f ≤ x ∧ x < (cutS p.sp).t ∧ 0 ≤ (cutS p.sp).f ∧ (cutS p.sp).t ≤ 73049 ∧ (cutS p.sp).f ∈ refE C ∧ (cutS p.sp).t ∈ refE C ∧ ((cutS p.sp).f + 1 < (cutS p.sp).t → (cutS p.sp).f + 1 ∈ refE C) := by
  obtain ⟨hx, p, hp, h1, h2, h3, h4⟩ := (dd_iff C s r x).1 h
  have hf : (cutS p.sp).f = max p.f 0 := rfl
  have ht : (cutS p.sp).t = min p.t 73049 := rfl
  have hlt : (cutS p.sp).f < (cutS p.sp).t := by rw [hf, ht]; omega
  refine ⟨p, hp, h1, h2, by rw [hf]; omega, by rw [ht]; omega, by rw [hf]; omega, by rw [ht]; omega, (mem_refE C _).2 ⟨p, hp, (mem_refS [] p _).2 (.inr ⟨hlt, .inl rfl⟩)⟩, (mem_refE C _).2 ⟨p, hp, (mem_refS [] p _).2 (.inr ⟨hlt, .inr (.inl rfl)⟩)⟩, fun h5 => (mem_refE C _).2 ⟨p, hp, (mem_refS [] p _).2 (.inr ⟨hlt, .inr (.inr (.inl ⟨h5, .inl rfl⟩))⟩)⟩⟩
theorem dd_of_cut {C : List Pr} {s r x : Int} {p : Pr} (hp : p ∈ C) (h1 : p.s = s) (h2 : r = 0 ∨ p.r = r) (hx : (cutS p.sp).f ≤ x) (hy : x < (cutS p.sp).t) : Dd C s r x = true := by
  have hf : (cutS p.sp).f = max p.f 0 := rfl
  have ht : (cutS p.sp).t = min p.t 73049 := rfl
  exact (dd_iff C s r x).2 ⟨by omega, p, hp, h1, h2, by omega, by omega⟩
theorem refE_same {C : List Pr} {x y : Int} (h : ∀ p ∈ refE C, p ≤ x ↔ p ≤ y) (s r : Int) : Dd C s r x = Dd C s r y := by
  rw [Bool.eq_iff_iff]
  constructor
  · intro hx
    obtain ⟨p, hp, h1, h2, h3, h4, _, _, e1, e2, _⟩ := cover_cut hx
    have k1 := h _ e1
    have k2 := h _ e2
    exact dd_of_cut hp h1 h2 (by omega) (by omega)
  · intro hx
    obtain ⟨p, hp, h1, h2, h3, h4, _, _, e1, e2, _⟩ := cover_cut hx
    have k1 := h _ e1
    have k2 := h _ e2
    exact dd_of_cut hp h1 h2 (by omega) (by omega)
theorem refE_le {C : List Pr} {x y : Int} (hxy : x ≤ y) (h : ∀ p ∈ refE C, p ≤ x ↔ p ≤ y) : memC C x = memC C y := by
  by_cases hno : ∀ s ∈ states, ∀ r ∈ ranks, Dd C s r x = false
  · rw [memC_nil hno, memC_nil fun s hs r hr => by rw [← refE_same h]; exact hno s hs r hr]
  · have : ∃ s r, Dd C s r x = true := by
      apply Classical.byContradiction
      intro hc
      refine hno fun s _ r _ => ?_
      rw [Bool.eq_false_iff]
      exact fun e => hc ⟨s, r, e⟩
    obtain ⟨s, r, hx⟩ := this
    obtain ⟨p, hp, h1, h2, h3, h4, h5, h6, e1, e2, _⟩ := cover_cut hx
    have k1 := h _ e1
    have k2 := h _ e2
    refine memC_const (a := x) (b := y + 1) (by omega) (fun s _ r _ z z1 z2 => ?_) (Int.le_refl _) hxy (by omega) fun hlt _ s' _ hd => ?_
    · refine (refE_same (fun q hq => ?_) s r).symm
      have := h q hq
      omega
    · obtain ⟨q, hq, g1, g2, g3, g4, g5, g6, f1, f2, f3⟩ := cover_cut hd
      have j1 := h _ f1
      have j2 := h _ f2
      refine dd_of_cut hq g1 g2 ?_ (by omega)
      by_cases hfx : (cutS q.sp).f = x
      · by_cases h7 : (cutS q.sp).f + 1 < (cutS q.sp).t
        · have := h _ (f3 h7)
          omega
        · omega
      · omega
theorem refR_main (C : List Pr) : Res C (pcs (memC C) (refE C) []) := by
  refine pcs_main (refE_sorted C) (fun p hp => (refE_bd hp).1) (fun x y h => ?_) (fun x hx => memC_out (by omega)) fun x hx => memC_nil fun s _ r _ => ?_
  · rcases Int.le_total x y with hxy | hxy
    · exact refE_le hxy h
    · exact (refE_le hxy fun p hp => (h p hp).symm).symm
  · rw [Bool.eq_false_iff]
    intro hd
    obtain ⟨p, _, _, _, _, h4, _, _, _, e2, _⟩ := cover_cut hd
    have := hx _ e2
    omega

/-! The reference's search for the latest day before and the earliest behind. -/
def befS (s d b : Int) (p : Pr) : Int := if p.s = s ∧ p.r = 1 ∧ p.f < p.t ∧ p.f < d ∧ 0 < p.t then max b (min p.t d - 1) else b
def befR (C : List Pr) (s d : Int) : Int := C.foldl (befS s d) (-1)
def aftS (s d b : Int) (p : Pr) : Int := if p.s = s ∧ p.r = 1 ∧ p.f < p.t ∧ d < p.t - 1 ∧ p.f ≤ 73048 then min b (max p.f (d + 1)) else b
def aftR (C : List Pr) (s d : Int) : Int := C.foldl (aftS s d) 73049
theorem dd_snoc (C : List Pr) (p : Pr) (s r x : Int) : Dd (C ++ [p]) s r x = true ↔ Dd C s r x = true ∨ ((0 ≤ x ∧ x < 73049) ∧ p.s = s ∧ (r = 0 ∨ p.r = r) ∧ p.f ≤ x ∧ x < p.t) := by
  rw [dd_iff, dd_iff]
  constructor
  · rintro ⟨h, q, hq, h1⟩
    rcases List.mem_append.1 hq with hq | hq
    · exact .inl ⟨h, q, hq, h1⟩
    · rw [List.mem_singleton.1 hq] at h1
      exact .inr ⟨h, h1⟩
  · rintro (⟨h, q, hq, h1⟩ | ⟨h, h1⟩)
    · exact ⟨h, q, by simp [hq], h1⟩
    · exact ⟨h, p, by simp, h1⟩
theorem befR_snoc (C : List Pr) (p : Pr) (s d : Int) : befR (C ++ [p]) s d = befS s d (befR C s d) p := by unfold befR; rw [List.foldl_append]; rfl
theorem aftR_snoc (C : List Pr) (p : Pr) (s d : Int) : aftR (C ++ [p]) s d = aftS s d (aftR C s d) p := by unfold aftR; rw [List.foldl_append]; rfl
theorem isPrev_iff {S : Int → Bool} {d p : Int} (hp : IsPrev S d p) (x : Int) (h0 : 0 ≤ x) (hd : x < d) (hS : S x = true) : x ≤ p := by
  rcases hp with ⟨_, h2⟩ | ⟨_, _, _, h4⟩
  · rw [h2 x h0 hd] at hS; cases hS
  · apply Classical.byContradiction
    intro hc
    rw [h4 x (by omega) hd] at hS
    cases hS
theorem isPrev_mk {S : Int → Bool} {d p : Int} (h1 : p = -1 ∨ (0 ≤ p ∧ p < d ∧ S p = true)) (h2 : ∀ x, 0 ≤ x → x < d → S x = true → x ≤ p) : IsPrev S d p := by
  rcases h1 with rfl | ⟨h3, h4, h5⟩
  · refine .inl ⟨rfl, fun x h0 hd => ?_⟩
    rw [Bool.eq_false_iff]
    intro e
    have := h2 x h0 hd e
    omega
  · refine .inr ⟨h3, h4, h5, fun x hx hd => ?_⟩
    rw [Bool.eq_false_iff]
    intro e
    have := h2 x (by omega) hd e
    omega
theorem isFoll_iff {S : Int → Bool} {d p : Int} (hp : IsFoll S d p) (x : Int) (h0 : d < x) (hd : x < 73049) (hS : S x = true) : p ≤ x := by
  rcases hp with ⟨_, h2⟩ | ⟨_, _, _, h4⟩
  · rw [h2 x h0 hd] at hS; cases hS
  · apply Classical.byContradiction
    intro hc
    rw [h4 x h0 (by omega)] at hS
    cases hS
theorem isFoll_mk {S : Int → Bool} {d p : Int} (h1 : p = 73049 ∨ (d < p ∧ p < 73049 ∧ S p = true)) (h2 : ∀ x, d < x → x < 73049 → S x = true → p ≤ x) : IsFoll S d p := by
  rcases h1 with rfl | ⟨h3, h4, h5⟩
  · refine .inl ⟨rfl, fun x h0 hd => ?_⟩
    rw [Bool.eq_false_iff]
    intro e
    have := h2 x h0 hd e
    omega
  · refine .inr ⟨h3, h4, h5, fun x hx hd => ?_⟩
    rw [Bool.eq_false_iff]
    intro e
    have := h2 x hx (by omega) e
    omega
theorem snoc_rec {α : Type} {P : List α → Prop} (h0 : P []) (hs : ∀ l x, P l → P (l ++ [x])) (l : List α) : P l := by
  have : ∀ n (l : List α), l.length = n → P l := by
    intro n
    induction n with
    | zero => intro l hl; rw [List.eq_nil_of_length_eq_zero hl]; exact h0
    | succ n ih =>
      intro l hl
      rcases List.eq_nil_or_concat l with rfl | ⟨l', x, rfl⟩
      · exact h0
      · rw [List.concat_eq_append] at hl ⊢
        exact hs l' x (ih l' (by simpa using hl))
  exact this l.length l rfl
theorem befR_prev (s d : Int) (hd : 0 ≤ d) (hd2 : d ≤ 73049) (C : List Pr) : IsPrev (Dd C s 1) d (befR C s d) := by
  refine snoc_rec (P := fun C => IsPrev (Dd C s 1) d (befR C s d)) ?_ (fun C p ih => ?_) C
  · refine .inl ⟨rfl, fun x _ _ => ?_⟩
    rw [Bool.eq_false_iff]
    intro e
    obtain ⟨_, p, hp, _⟩ := (dd_iff [] s 1 x).1 e
    simp at hp
  · rw [befR_snoc]
    have hb : befR C s d = -1 ∨ (0 ≤ befR C s d ∧ befR C s d < d ∧ Dd C s 1 (befR C s d) = true) := by
      rcases ih with ⟨h, _⟩ | ⟨h1, h2, h3, _⟩
      · exact .inl h
      · exact .inr ⟨h1, h2, h3⟩
    have hall := isPrev_iff ih
    generalize befR C s d = b at *
    unfold befS
    refine isPrev_mk ?_ fun x h0 hx hS => ?_
    · by_cases hc : p.s = s ∧ p.r = 1 ∧ p.f < p.t ∧ p.f < d ∧ 0 < p.t
      · rw [if_pos hc]
        by_cases hm : b ≤ min p.t d - 1
        · rw [show max b (min p.t d - 1) = min p.t d - 1 by omega]
          by_cases hz : min p.t d - 1 = -1
          · exact .inl hz
          · exact .inr ⟨by omega, by omega, (dd_snoc C p s 1 _).2 (.inr ⟨by omega, hc.1, .inr hc.2.1, by omega, by omega⟩)⟩
        · rw [show max b (min p.t d - 1) = b by omega]
          rcases hb with h | ⟨h1, h2, h3⟩
          · exact .inl h
          · exact .inr ⟨h1, h2, (dd_snoc C p s 1 _).2 (.inl h3)⟩
      · rw [if_neg hc]
        rcases hb with h | ⟨h1, h2, h3⟩
        · exact .inl h
        · exact .inr ⟨h1, h2, (dd_snoc C p s 1 _).2 (.inl h3)⟩
    · rcases (dd_snoc C p s 1 x).1 hS with hS | ⟨h1, h2, h3, h4, h5⟩
      · have := hall x h0 hx hS
        split <;> omega
      · rw [if_pos ⟨h2, by omega, by omega, by omega, by omega⟩]
        omega
theorem aftR_foll (s d : Int) (hd : -1 ≤ d) (C : List Pr) : IsFoll (Dd C s 1) d (aftR C s d) := by
  refine snoc_rec (P := fun C => IsFoll (Dd C s 1) d (aftR C s d)) ?_ (fun C p ih => ?_) C
  · refine .inl ⟨rfl, fun x _ _ => ?_⟩
    rw [Bool.eq_false_iff]
    intro e
    obtain ⟨_, p, hp, _⟩ := (dd_iff [] s 1 x).1 e
    simp at hp
  · rw [aftR_snoc]
    have hb : aftR C s d = 73049 ∨ (d < aftR C s d ∧ aftR C s d < 73049 ∧ Dd C s 1 (aftR C s d) = true) := by
      rcases ih with ⟨h, _⟩ | ⟨h1, h2, h3, _⟩
      · exact .inl h
      · exact .inr ⟨h1, h2, h3⟩
    have hall := isFoll_iff ih
    generalize aftR C s d = b at *
    unfold aftS
    refine isFoll_mk ?_ fun x h0 hx hS => ?_
    · by_cases hc : p.s = s ∧ p.r = 1 ∧ p.f < p.t ∧ d < p.t - 1 ∧ p.f ≤ 73048
      · rw [if_pos hc]
        by_cases hm : max p.f (d + 1) ≤ b
        · rw [show min b (max p.f (d + 1)) = max p.f (d + 1) by omega]
          by_cases hz : max p.f (d + 1) = 73049
          · exact .inl hz
          · by_cases hz2 : 73049 ≤ max p.f (d + 1)
            · rcases hb with h | ⟨h1, h2, h3⟩ <;> omega
            · exact .inr ⟨by omega, by omega, (dd_snoc C p s 1 _).2 (.inr ⟨by omega, hc.1, .inr hc.2.1, by omega, by omega⟩)⟩
        · rw [show min b (max p.f (d + 1)) = b by omega]
          rcases hb with h | ⟨h1, h2, h3⟩
          · exact .inl h
          · exact .inr ⟨h1, h2, (dd_snoc C p s 1 _).2 (.inl h3)⟩
      · rw [if_neg hc]
        rcases hb with h | ⟨h1, h2, h3⟩
        · exact .inl h
        · exact .inr ⟨h1, h2, (dd_snoc C p s 1 _).2 (.inl h3)⟩
    · rcases (dd_snoc C p s 1 x).1 hS with hS | ⟨h1, h2, h3, h4, h5⟩
      · have := hall x h0 hx hS
        split <;> omega
      · rw [if_pos ⟨h2, by omega, by omega, by omega, by omega⟩]
        omega
theorem befR_eq (C : List Pr) (s : Int) {d : Int} (hd : 0 ≤ d) (hd2 : d ≤ 73049) : befR C s d = prevD (Dd C s 1) d := isPrev_eq (befR_prev s d hd hd2 C) (prevD_spec _ _)
theorem aftR_eq (C : List Pr) (s : Int) {d : Int} (hd : -1 ≤ d) : aftR C s d = follD (Dd C s 1) d := isFoll_eq (aftR_foll s d hd C) (follD_spec _ _)
end Go.Proofs.Ythncjohekjnjaaa
