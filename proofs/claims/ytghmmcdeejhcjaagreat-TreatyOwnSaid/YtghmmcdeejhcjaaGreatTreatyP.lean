/- Treaty rules in plain Lean: which are in force, who is a member, on which days; which lists are in order. No program of the seat is named here. -/
import Derived.Test.YtghmmcdeejhcjaaGreatEdges
namespace Go.Proofs.YtghmmcdeejhcjaaGreat

structure Ru where
  f : Int
  d : Int
  p : Int
  b : Int
  m : List Int
/-- The rules in force on a day: the last ones that have begun. -/
def atT (L : List Ru) (x : Int) : Option Ru := if isD x = true then L.reverse.find? (fun r => decide (r.f ≤ x)) else none
def memT (L : List Ru) (s x : Int) : Bool := match atT L x with
  | some r => decide (s ∈ r.m)
  | none => false
theorem atT_day {L : List Ru} {x : Int} (h : isD x = false) : atT L x = none := by unfold atT; rw [h]; rfl
theorem atT_snoc (L : List Ru) (r : Ru) {x : Int} (h : isD x = true) : atT (L ++ [r]) x = if r.f ≤ x then some r else atT L x := by
  unfold atT
  rw [if_pos h, if_pos h, List.reverse_append, List.reverse_cons, List.reverse_nil, List.nil_append, List.singleton_append, List.find?_cons]
  by_cases hr : r.f ≤ x
  · rw [if_pos hr, decide_eq_true hr]
  · rw [if_neg hr, decide_eq_false hr]
theorem atT_take {L : List Ru} {k : Nat} {r : Ru} (hr : L[k]? = some r) {x : Int} (h : isD x = true) : atT (L.take (k + 1)) x = if r.f ≤ x then some r else atT (L.take k) x := by
  rw [show L.take (k + 1) = L.take k ++ [r] by rw [List.take_add_one, hr]; rfl]
  exact atT_snoc _ _ h
theorem atT_mem {L : List Ru} {x : Int} {r : Ru} (h : atT L x = some r) : r ∈ L ∧ r.f ≤ x ∧ isD x = true := by
  unfold atT at h
  split at h
  · rename_i hd
    have h1 := List.mem_of_find?_eq_some h
    have h2 := List.find?_some h
    exact ⟨List.mem_reverse.1 h1, of_decide_eq_true h2, hd⟩
  · cases h
theorem memT_day {L : List Ru} {s x : Int} (h : isD x = false) : memT L s x = false := by unfold memT; rw [atT_day h]
theorem memT_congr {L : List Ru} (s : Int) {x y : Int} (hx : isD x = true) (hy : isD y = true) (h : ∀ r ∈ L, r.f ≤ x ↔ r.f ≤ y) : memT L s x = memT L s y := by
  have : atT L x = atT L y := by
    unfold atT
    rw [if_pos hx, if_pos hy]
    have key : ∀ l : List Ru, (∀ r ∈ l, r ∈ L) → l.find? (fun r => decide (r.f ≤ x)) = l.find? (fun r => decide (r.f ≤ y)) := by
      intro l
      induction l with
      | nil => intro _; rfl
      | cons r l ih =>
        intro hl
        have e : decide (r.f ≤ x) = decide (r.f ≤ y) := by
          have := h r (hl r (by simp))
          by_cases hc : r.f ≤ x
          · rw [decide_eq_true hc, decide_eq_true (this.1 hc)]
          · rw [decide_eq_false hc, decide_eq_false (fun e => hc (this.2 e))]
        rw [List.find?_cons, List.find?_cons, e, ih fun q hq => hl q (by simp [hq])]
    exact key L.reverse fun r hr => List.mem_reverse.1 hr
  unfold memT
  rw [this]

/-! The days, between cuts. -/
def segT (M : Int → Bool) : List Int → List Sp
  | a :: b :: r => if M a = true then ⟨a, b⟩ :: segT M (b :: r) else segT M (b :: r)
  | _ => []
/-- What the first k cuts give. -/
def segTo (M : Int → Bool) (E : List Int) : Nat → List Sp
  | 0 => []
  | k + 1 => match E[k]?, E[k + 1]? with
    | some a, some b => if M a = true then segTo M E k ++ [(⟨a, b⟩ : Sp)] else segTo M E k
    | _, _ => segTo M E k
theorem segTo_succ {M : Int → Bool} {E : List Int} {k : Nat} {a b : Int} (ha : E[k]? = some a) (hb : E[k + 1]? = some b) : segTo M E (k + 1) = if M a = true then segTo M E k ++ [⟨a, b⟩] else segTo M E k := by
  show (match E[k]?, E[k + 1]? with
    | some a, some b => if M a = true then segTo M E k ++ [(⟨a, b⟩ : Sp)] else segTo M E k
    | _, _ => segTo M E k) = _
  rw [ha, hb]
theorem segTo_length (M : Int → Bool) (E : List Int) : ∀ k, (segTo M E k).length ≤ k
  | 0 => Nat.le_refl 0
  | k + 1 => by
    have ih := segTo_length M E k
    unfold segTo
    split
    · split <;> simp <;> omega
    · omega
/-- The cuts serve: in ascending order, from the first day on, to behind the last; between two of them nothing changes. -/
def CutsT (M : Int → Bool) (E : List Int) : Prop := E.Pairwise (· ≤ ·) ∧ (0 : Int) ∈ E ∧ (73049 : Int) ∈ E ∧ (∀ p ∈ E, 0 ≤ p ∧ p ≤ 73049) ∧ ∀ x y, isD x = true → isD y = true → (∀ p ∈ E, p ≤ x ↔ p ≤ y) → M x = M y
theorem le_at {E : List Int} (h : E.Pairwise (· ≤ ·)) {i j : Nat} {a b : Int} (ha : E[i]? = some a) (hb : E[j]? = some b) (hij : i ≤ j) : a ≤ b := by
  obtain ⟨h1, e1⟩ := List.getElem?_eq_some_iff.1 ha
  obtain ⟨h2, e2⟩ := List.getElem?_eq_some_iff.1 hb
  by_cases e : i = j
  · subst e
    rw [ha] at hb
    injection hb with hb
    omega
  · have := List.pairwise_iff_getElem.1 h i j h1 h2 (by omega)
    omega
theorem segTo_cov {M : Int → Bool} {E : List Int} (h : CutsT M E) : ∀ k, (k : Nat) < E.length → ∀ x, cov (segTo M E k) x = true ↔ M x = true ∧ isD x = true ∧ ∃ a, E[k]? = some a ∧ x < a
  | 0, h0, x => by
    obtain ⟨h1, h2, h3, h4, h5⟩ := h
    show cov [] x = true ↔ _
    rw [cov_nil]
    constructor
    · intro e; cases e
    · rintro ⟨_, hd, a, ha, hx⟩
      obtain ⟨j, hj⟩ := List.mem_iff_getElem?.1 h2
      have := le_at h1 ha hj (by omega)
      have := (isD_iff x).1 hd
      omega
  | k + 1, hk, x => by
    have ih := segTo_cov h k (by omega) x
    obtain ⟨h1, h2, h3, h4, h5⟩ := h
    obtain ⟨a, ha⟩ : ∃ a, E[k]? = some a := ⟨_, List.getElem?_eq_getElem (by omega)⟩
    obtain ⟨b, hb⟩ : ∃ b, E[k + 1]? = some b := ⟨_, List.getElem?_eq_getElem hk⟩
    have hab := le_at h1 ha hb (by omega)
    have ba := h4 a (List.mem_of_getElem? ha)
    have bb := h4 b (List.mem_of_getElem? hb)
    have hM : ∀ x, a ≤ x → x < b → M x = M a := fun x hx hxb => h5 x a ((isD_iff x).2 (by omega)) ((isD_iff a).2 (by omega)) fun p hp => by
      obtain ⟨j, hj⟩ := List.mem_iff_getElem?.1 hp
      by_cases hjk : j ≤ k
      · have := le_at h1 hj ha hjk
        omega
      · have := le_at h1 hb hj (by omega)
        omega
    rw [segTo_succ ha hb]
    have e1 : (∃ c, E[k]? = some c ∧ x < c) ↔ x < a := by rw [ha]; simp
    have e2 : (∃ c, E[k + 1]? = some c ∧ x < c) ↔ x < b := by rw [hb]; simp
    rw [e1] at ih
    rw [e2]
    by_cases hMa : M a = true
    · rw [if_pos hMa, cov_append, Bool.or_eq_true, ih, cov_cons, cov_nil, Bool.or_false, inS_iff]
      constructor
      · rintro (⟨k1, k2, k3⟩ | ⟨k1, k2⟩)
        · exact ⟨k1, k2, by omega⟩
        · simp only at k1 k2
          exact ⟨(hM x k1 k2).trans hMa, (isD_iff x).2 (by omega), k2⟩
      · rintro ⟨k1, k2, k3⟩
        by_cases hxa : x < a
        · exact .inl ⟨k1, k2, hxa⟩
        · exact .inr ⟨by show a ≤ x; omega, k3⟩
    · rw [if_neg hMa, ih]
      constructor
      · rintro ⟨k1, k2, k3⟩
        exact ⟨k1, k2, by omega⟩
      · rintro ⟨k1, k2, k3⟩
        by_cases hxa : x < a
        · exact ⟨k1, k2, hxa⟩
        · exact absurd ((hM x (by omega) k3).symm.trans k1) hMa
/-- All cuts: the normal list of the days. -/
theorem segTo_nf {M : Int → Bool} {E : List Int} (h : CutsT M E) {k : Nat} (hk : k + 1 = E.length) : nf (dset (segTo M E k)) = nf M := nf_congr fun x hx => by
  have hc := segTo_cov h k (by omega) x
  obtain ⟨h1, h2, h3, h4, h5⟩ := h
  obtain ⟨a, ha⟩ : ∃ a, E[k]? = some a := ⟨_, List.getElem?_eq_getElem (by omega)⟩
  obtain ⟨j, hj⟩ := List.mem_iff_getElem?.1 h3
  have hjl := (List.getElem?_eq_some_iff.1 hj).1
  have hle := le_at h1 hj ha (by omega)
  have hx2 := (isD_iff x).1 hx
  unfold dset
  rw [hx, Bool.true_and, Bool.eq_iff_iff, hc]
  constructor
  · rintro ⟨k1, _⟩
    exact k1
  · intro k1
    exact ⟨k1, hx, a, ha, by omega⟩
theorem cutsT_mem {L : List Ru} (s : Int) {E : List Int} (hs : E.Pairwise (· ≤ ·)) (hm : ∀ x, x ∈ E ↔ x = 0 ∨ x = 73049 ∨ ∃ r ∈ L, isD r.f = true ∧ x = r.f) : CutsT (memT L s) E := by
  refine ⟨hs, (hm 0).2 (.inl rfl), (hm 73049).2 (.inr (.inl rfl)), fun p hp => ?_, fun x y hx hy h => memT_congr s hx hy fun r hr => ?_⟩
  · rcases (hm p).1 hp with rfl | rfl | ⟨r, _, h1, rfl⟩
    · omega
    · omega
    · have := (isD_iff _).1 h1
      omega
  · have h1 := (isD_iff x).1 hx
    have h2 := (isD_iff y).1 hy
    by_cases hd : isD r.f = true
    · exact h r.f ((hm _).2 (.inr (.inr ⟨r, hr, hd, rfl⟩)))
    · have h3 : ¬(0 ≤ r.f ∧ r.f < 73049) := fun e => hd ((isD_iff _).2 e)
      omega
/-- The beginnings of the rules that are days. -/
def fromsT (L : List Ru) : List Int := (L.filter fun r => isD r.f).map Ru.f
theorem mem_fromsT (L : List Ru) (x : Int) : x ∈ fromsT L ↔ ∃ r ∈ L, isD r.f = true ∧ x = r.f := by
  unfold fromsT
  simp only [List.mem_map, List.mem_filter, and_assoc]
  constructor
  · rintro ⟨r, h1, h2, h3⟩; exact ⟨r, h1, h2, h3.symm⟩
  · rintro ⟨r, h1, h2, h3⟩; exact ⟨r, h1, h2, h3.symm⟩
theorem fromsT_snoc (L : List Ru) (r : Ru) : fromsT (L ++ [r]) = fromsT L ++ if isD r.f = true then [r.f] else [] := by
  unfold fromsT
  rw [List.filter_append, List.map_append]
  by_cases h : isD r.f = true
  · rw [if_pos h, List.filter_cons, if_pos h]
    rfl
  · rw [if_neg h, List.filter_cons, if_neg h]
    rfl
theorem fromsT_length (L : List Ru) : (fromsT L).length ≤ L.length := by
  unfold fromsT
  rw [List.length_map]
  exact List.length_filter_le _ _
/-- The reference's cuts. -/
def insT (L : List Ru) (e : List Int) : List Int := L.foldl (fun e r => if isD r.f = true then insS e r.f else e) e
theorem insT_snoc (L : List Ru) (r : Ru) (e : List Int) : insT (L ++ [r]) e = if isD r.f = true then insS (insT L e) r.f else insT L e := by unfold insT; rw [List.foldl_append]; rfl
theorem insT_sorted : ∀ (L : List Ru) {e : List Int}, e.Pairwise (· < ·) → (insT L e).Pairwise (· < ·)
  | [], _, h => h
  | r :: L, e, h => by
    show (insT L (if isD r.f = true then insS e r.f else e)).Pairwise (· < ·)
    refine insT_sorted L ?_
    split
    · exact sorted_insS _ h
    · exact h
theorem insT_length : ∀ (L : List Ru) (e : List Int), (insT L e).length ≤ e.length + L.length
  | [], e => Nat.le_refl _
  | r :: L, e => by
    have h1 := insT_length L (if isD r.f = true then insS e r.f else e)
    have h2 := length_insS e r.f
    show (insT L (if isD r.f = true then insS e r.f else e)).length ≤ _
    rw [List.length_cons]
    split at h1
    · rename_i h
      rw [if_pos h]
      omega
    · rename_i h
      rw [if_neg h]
      omega
theorem mem_insT : ∀ (L : List Ru) (e : List Int) (x : Int), x ∈ insT L e ↔ x ∈ e ∨ ∃ r ∈ L, isD r.f = true ∧ x = r.f
  | [], e, x => by simp [insT]
  | r :: L, e, x => by
    show x ∈ insT L (if isD r.f = true then insS e r.f else e) ↔ _
    rw [mem_insT L]
    by_cases h : isD r.f = true
    · rw [if_pos h, mem_insS]
      simp only [List.mem_cons, exists_eq_or_imp, h, true_and]
      constructor
      · rintro ((h1 | h1) | h1)
        · exact .inr (.inl h1)
        · exact .inl h1
        · exact .inr (.inr h1)
      · rintro (h1 | h1 | h1)
        · exact .inl (.inr h1)
        · exact .inl (.inl h1)
        · exact .inr h1
    · rw [if_neg h]
      simp only [List.mem_cons, exists_eq_or_imp, h, Bool.false_eq_true, false_and, false_or]

/-! Which lists are in order. -/
def okM : Int → List Int → Bool
  | _, [] => true
  | b, s :: r => decide (b < s ∧ s ≤ 5) && okM s r
def okR (r : Ru) : Bool := decide (0 ≤ r.f ∧ r.f ≤ 73048 ∧ 0 ≤ r.d ∧ r.d ≤ 73049 ∧ 0 ≤ r.p ∧ r.p ≤ 73049 ∧ 0 ≤ r.b ∧ r.b ≤ 100) && okM (-1) r.m
def okT : Int → List Ru → Bool
  | _, [] => true
  | b, r :: L => okR r && decide (b < r.f) && okT r.f L
def chkT (L : List Ru) : Int := if 8 < L.length then 7 else match L with
  | [] => 1
  | r :: L => if r.f = 0 then if okT (-1) (r :: L) = true then 0 else 1 else 1
end Go.Proofs.YtghmmcdeejhcjaaGreat
