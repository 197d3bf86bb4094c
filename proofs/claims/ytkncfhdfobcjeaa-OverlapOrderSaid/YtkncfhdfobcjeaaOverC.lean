/- What the laws say of the days that count, in plain Lean. No program of the seat is named here. -/
import Derived.Test.YtkncfhdfobcjeaaOverB
namespace Go.Proofs.Ytkncfhdfobcjeaa

theorem mem_states (s : Int) : s ∈ states ↔ 0 ≤ s ∧ s < 6 := by simp [states]; omega
theorem mem_ranks (r : Int) : r ∈ ranks ↔ 1 ≤ r ∧ r ≤ 7 := by simp [ranks]; omega
theorem atC_some {C : List Pr} {x s r : Int} (h : atC C x = some (s, r)) : s ∈ states ∧ r ∈ ranks ∧ Dd C s r x = true ∧ ∀ q ∈ ranks, ∀ u ∈ states, Dd C u q x = true → r ≤ q := by
  unfold atC at h
  cases hk : rkC C x with
  | none => rw [hk] at h; cases h
  | some r0 =>
    rw [hk] at h
    simp only [Option.map_some, Option.some.injEq, Prod.mk.injEq] at h
    obtain ⟨h1, rfl⟩ := h
    obtain ⟨h2, h3⟩ := rkC_some hk
    have hm : cloC C r0 x ∈ stL C r0 x := clo_mem h3
    rw [h1] at hm
    obtain ⟨m1, m2⟩ := (mem_stL C r0 x s).1 hm
    exact ⟨m1, h2, m2, fun q hq u hu hd => rkC_least hk hq fun e => by
      have := (mem_stL C q x u).2 ⟨hu, hd⟩
      rw [e] at this
      simp at this⟩
theorem atC_none {C : List Pr} {x : Int} (h : atC C x = none) : ∀ s ∈ states, ∀ r ∈ ranks, Dd C s r x = false := by
  unfold atC at h
  have hk : rkC C x = none := by
    cases hk : rkC C x with
    | none => rfl
    | some r0 => rw [hk] at h; cases h
  exact fun s hs r hr => stL_none (rkC_none hk r hr) s hs
theorem memC_at (C : List Pr) (x : Int) : memC C x = [] ↔ atC C x = none := by
  unfold memC
  cases atC C x with
  | none => simp
  | some p => obtain ⟨s, r⟩ := p; simp
theorem memC_some2 {C : List Pr} {x s r : Int} (h : memC C x = [s, r]) : atC C x = some (s, r) := by
  unfold memC at h
  cases ha : atC C x with
  | none => rw [ha] at h; simp at h
  | some p => obtain ⟨a, b⟩ := p; rw [ha] at h; simp at h; rw [h.1, h.2]
theorem atC_congr {C K : List Pr} {x : Int} (h : ∀ s ∈ states, ∀ r ∈ ranks, Dd C s r x = Dd K s r x) (h1 : ∀ s ∈ states, ∀ y, Dd C s 1 y = Dd K s 1 y) : atC C x = atC K x := by
  have hm := memC_congr h h1
  cases hk : atC K x with
  | none =>
    rw [(memC_at K x).2 hk] at hm
    exact (memC_at C x).1 hm
  | some p =>
    obtain ⟨s, r⟩ := p
    have e : memC K x = [s, r] := by unfold memC; rw [hk]
    rw [e] at hm
    exact memC_some2 hm
/-- A claim that covers a day, with a right state and rank. -/
def onD (x : Int) (p : Pr) : Bool := decide (0 ≤ p.s) && decide (p.s < 6) && decide (1 ≤ p.r) && decide (p.r ≤ 7) && dset [p.sp] x
theorem onD_iff (x : Int) (p : Pr) : onD x p = true ↔ (0 ≤ p.s ∧ p.s < 6 ∧ 1 ≤ p.r ∧ p.r ≤ 7) ∧ (0 ≤ x ∧ x < 73049) ∧ p.f ≤ x ∧ x < p.t := by
  unfold onD dset
  simp only [Bool.and_eq_true, decide_eq_true_eq, isD_iff, cov_iff, List.mem_singleton, exists_eq_left, Pr.sp]
  constructor
  · rintro ⟨⟨⟨⟨a, b⟩, c⟩, d⟩, e, f⟩; exact ⟨⟨a, b, c, d⟩, e, f⟩
  · rintro ⟨⟨a, b, c, d⟩, e, f⟩; exact ⟨⟨⟨⟨a, b⟩, c⟩, d⟩, e, f⟩
theorem onD_dd {C : List Pr} {x : Int} {p : Pr} (hp : p ∈ C) (h : onD x p = true) : p.s ∈ states ∧ p.r ∈ ranks ∧ Dd C p.s p.r x = true := by
  obtain ⟨⟨a, b, c, d⟩, e, f⟩ := (onD_iff x p).1 h
  exact ⟨(mem_states _).2 ⟨a, b⟩, (mem_ranks _).2 ⟨c, d⟩, (dd_iff _ _ _ _).2 ⟨e, p, hp, rfl, .inr rfl, f⟩⟩
theorem dd_onD {C : List Pr} {s r x : Int} (hs : s ∈ states) (hr : r ∈ ranks) (h : Dd C s r x = true) : ∃ p ∈ C, onD x p = true := by
  have h1 := (mem_states _).1 hs
  have h2 := (mem_ranks _).1 hr
  obtain ⟨e, p, hp, h3, h4, h5⟩ := (dd_iff _ _ _ _).1 h
  refine ⟨p, hp, (onD_iff x p).2 ⟨?_, e, h5⟩⟩
  omega
/-- OverlapRanks: the rank that counts is the least one claimed. -/
theorem rank_least {C : List Pr} {x : Int} {p : Pr} (hp : p ∈ C) (h : onD x p = true) : ∃ s r, atC C x = some (s, r) ∧ r ≤ p.r := by
  obtain ⟨h1, h2, h3⟩ := onD_dd hp h
  cases ha : atC C x with
  | none => rw [atC_none ha p.s h1 p.r h2] at h3; cases h3
  | some q => obtain ⟨s, r⟩ := q; exact ⟨s, r, rfl, (atC_some ha).2.2.2 p.r h2 p.s h1 h3⟩
theorem claimed_iff (C : List Pr) (x : Int) : (C.any (onD x)) = true ↔ memC C x ≠ [] := by
  rw [List.any_eq_true, Ne, memC_at]
  constructor
  · rintro ⟨p, hp, h⟩ e
    obtain ⟨s, r, h1, _⟩ := rank_least hp h
    rw [e] at h1
    cases h1
  · intro h
    cases ha : atC C x with
    | none => exact absurd ha h
    | some q =>
      obtain ⟨s, r⟩ := q
      obtain ⟨h1, h2, h3, _⟩ := atC_some ha
      exact dd_onD h1 h2 h3
/-! OverlapOnce. -/
def hits (R : List Pc) (x : Int) : List Pc := R.filter fun p => decide (p.f ≤ x ∧ x < p.t)
theorem res_hit {C : List Pr} {R : List Pc} (h : Res C R) {x : Int} {p : Pc} (hp : p ∈ R) (h1 : p.f ≤ x) (h2 : x < p.t) {s r : Int} (hm : p.m = [s, r]) : Dd C s r x = true := by
  have hp2 : p ∈ hits R x := List.mem_filter.2 ⟨hp, by simpa using ⟨h1, h2⟩⟩
  rcases pn_one (x := x) h.1 with ⟨_, e⟩ | ⟨q, e, e1, _⟩
  · unfold hits at hp2
    rw [e] at hp2
    simp at hp2
  · unfold hits at hp2
    rw [e, List.mem_singleton] at hp2
    subst hp2
    rw [h.2 x, hm] at e1
    exact (atC_some (memC_some2 e1.symm)).2.2.1
theorem res_once {C : List Pr} {R : List Pc} (h : Res C R) (x : Int) : (hits R x).length = if C.any (onD x) = true then 1 else 0 := by
  rcases pn_one (x := x) h.1 with ⟨e1, e⟩ | ⟨q, e, e1, e2⟩
  · unfold hits
    rw [e, if_neg (fun hc => (claimed_iff C x).1 hc (by rw [← h.2 x, e1]))]
    rfl
  · unfold hits
    rw [e, if_pos ((claimed_iff C x).2 (by rw [← h.2 x, ← e1]; exact e2))]
    rfl
/-! OverlapLocal. -/
def keepL (x : Int) (p : Pr) : Bool := decide (p.r = 1) || dset [p.sp] x
theorem keepL_iff (x : Int) (p : Pr) : keepL x p = true ↔ p.r = 1 ∨ ((0 ≤ x ∧ x < 73049) ∧ p.f ≤ x ∧ x < p.t) := by
  unfold keepL dset
  simp only [Bool.or_eq_true, Bool.and_eq_true, decide_eq_true_eq, isD_iff, cov_iff, List.mem_singleton, exists_eq_left, Pr.sp]
theorem local_at (C : List Pr) (x : Int) : atC (C.filter (keepL x)) x = atC C x := by
  refine atC_congr (fun s _ r _ => ?_) fun s _ y => ?_
  · rw [Bool.eq_iff_iff, dd_iff, dd_iff]
    constructor
    · rintro ⟨h, p, hp, h1⟩; exact ⟨h, p, (List.mem_filter.1 hp).1, h1⟩
    · rintro ⟨h, p, hp, h1, h2, h3⟩; exact ⟨h, p, List.mem_filter.2 ⟨hp, (keepL_iff x p).2 (.inr ⟨h, h3⟩)⟩, h1, h2, h3⟩
  · rw [Bool.eq_iff_iff, dd_iff, dd_iff]
    constructor
    · rintro ⟨h, p, hp, h1⟩; exact ⟨h, p, (List.mem_filter.1 hp).1, h1⟩
    · rintro ⟨h, p, hp, h1, h2, h3⟩; exact ⟨h, p, List.mem_filter.2 ⟨hp, (keepL_iff x p).2 (.inl (by omega))⟩, h1, h2, h3⟩
/-! OverlapOrder. -/
theorem res_congr {C K : List Pr} {R : List Pc} (h : ∀ s r x, Dd C s r x = Dd K s r x) (hR : Res C R) : Res K R := ⟨hR.1, fun x => by
  rw [hR.2 x]
  exact memC_congr (fun s _ r _ => h s r x) fun s _ y => h s 1 y⟩
theorem dd_mem {C K : List Pr} (h : ∀ p, p ∈ C ↔ p ∈ K) (s r x : Int) : Dd C s r x = Dd K s r x := by
  rw [Bool.eq_iff_iff, dd_iff, dd_iff]
  constructor
  · rintro ⟨h1, p, hp, h2⟩; exact ⟨h1, p, (h p).1 hp, h2⟩
  · rintro ⟨h1, p, hp, h2⟩; exact ⟨h1, p, (h p).2 hp, h2⟩
theorem mem_set_swap {α : Type} {L : List α} {i j : Nat} {a b : α} (hi : L[i]? = some a) (hj : L[j]? = some b) (p : α) : p ∈ (L.set i b).set j a ↔ p ∈ L := by
  obtain ⟨hil, hia⟩ := List.getElem?_eq_some_iff.1 hi
  obtain ⟨hjl, hjb⟩ := List.getElem?_eq_some_iff.1 hj
  constructor
  · intro h
    rcases List.mem_or_eq_of_mem_set h with h | h
    · rcases List.mem_or_eq_of_mem_set h with h | h
      · exact h
      · rw [h]; exact List.mem_of_getElem? hj
    · rw [h]; exact List.mem_of_getElem? hi
  · intro h
    obtain ⟨k, hk⟩ := List.mem_iff_getElem?.1 h
    by_cases h1 : k = i
    · subst h1
      rw [hi] at hk
      cases hk
      exact List.mem_of_getElem? (i := j) (by rw [List.getElem?_set_self (by rw [List.length_set]; exact hjl)])
    · by_cases h2 : k = j
      · subst h2
        rw [hj] at hk
        cases hk
        refine List.mem_of_getElem? (i := i) ?_
        rw [List.getElem?_set_ne (fun e => h1 e), List.getElem?_set_self hil]
      · refine List.mem_of_getElem? (i := k) ?_
        rw [List.getElem?_set_ne (fun e => h2 e.symm), List.getElem?_set_ne (fun e => h1 e.symm)]
        exact hk
theorem dd_split {L : List Pr} {k : Nat} {p : Pr} {m : Int} (hk : L[k]? = some p) (h1 : p.f ≤ m) (h2 : m ≤ p.t) (s r x : Int) : Dd (L.set k ⟨p.s, p.r, p.f, m⟩ ++ [⟨p.s, p.r, m, p.t⟩]) s r x = Dd L s r x := by
  obtain ⟨hkl, hkp⟩ := List.getElem?_eq_some_iff.1 hk
  rw [Bool.eq_iff_iff, dd_iff, dd_iff]
  constructor
  · rintro ⟨h, q, hq, h3, h4, h5, h6⟩
    refine ⟨h, ?_⟩
    rcases List.mem_append.1 hq with hq | hq
    · rcases List.mem_or_eq_of_mem_set hq with hq | hq
      · exact ⟨q, hq, h3, h4, h5, h6⟩
      · subst hq
        exact ⟨p, List.mem_of_getElem? hk, h3, h4, h5, by simp at h6; omega⟩
    · rw [List.mem_singleton.1 hq] at h3 h4 h5 h6
      simp at h3 h4 h5 h6
      exact ⟨p, List.mem_of_getElem? hk, h3, h4, by omega, h6⟩
  · rintro ⟨h, q, hq, h3, h4, h5, h6⟩
    refine ⟨h, ?_⟩
    obtain ⟨i, hi⟩ := List.mem_iff_getElem?.1 hq
    by_cases e : i = k
    · subst e
      rw [hk] at hi
      cases hi
      by_cases hx : x < m
      · exact ⟨⟨p.s, p.r, p.f, m⟩, List.mem_append.2 (.inl (List.mem_of_getElem? (i := i) (by rw [List.getElem?_set_self hkl]))), h3, h4, h5, hx⟩
      · exact ⟨⟨p.s, p.r, m, p.t⟩, List.mem_append.2 (.inr (by simp)), h3, h4, by show m ≤ x; omega, h6⟩
    · exact ⟨q, List.mem_append.2 (.inl (List.mem_of_getElem? (i := i) (by rw [List.getElem?_set_ne (fun a => e a.symm)]; exact hi))), h3, h4, h5, h6⟩
/-! The days that count, read as claims. -/
def Pc.pr (p : Pc) : Pr := ⟨p.m.getD 0 0, p.m.getD 1 0, p.f, p.t⟩
theorem valP_hit : ∀ {R : List Pc} {x : Int} {m : List Int}, valP R x = m → m ≠ [] → ∃ p ∈ R, p.f ≤ x ∧ x < p.t ∧ p.m = m
  | [], _, _, h, h2 => absurd h.symm h2
  | p :: R, x, m, h, h2 => by
    by_cases hc : p.f ≤ x ∧ x < p.t
    · have e : valP (p :: R) x = p.m := if_pos hc
      rw [e] at h
      exact ⟨p, by simp, hc.1, hc.2, h⟩
    · have e : valP (p :: R) x = valP R x := if_neg hc
      rw [e] at h
      obtain ⟨q, hq, h3⟩ := valP_hit h h2
      exact ⟨q, by simp [hq], h3⟩
theorem res_dd {C : List Pr} {R : List Pc} (h : Res C R) (s r x : Int) : Dd (R.map Pc.pr) s r x = true ↔ ∃ q, atC C x = some (s, q) ∧ (r = 0 ∨ q = r) := by
  have key : ∀ p ∈ R, p.f ≤ x → x < p.t → p.m = memC C x ∧ p.m ≠ [] := fun p hp h1 h2 => by
    have hp2 : p ∈ hits R x := List.mem_filter.2 ⟨hp, by simpa using ⟨h1, h2⟩⟩
    rcases pn_one (x := x) h.1 with ⟨_, e⟩ | ⟨q, e, e1, e2⟩
    · unfold hits at hp2
      rw [e] at hp2
      simp at hp2
    · unfold hits at hp2
      rw [e, List.mem_singleton] at hp2
      subst hp2
      rw [h.2 x] at e1
      exact ⟨e1, e2⟩
  rw [dd_iff]
  constructor
  · rintro ⟨_, p, hp, h3, h4, h5, h6⟩
    obtain ⟨q, hq, rfl⟩ := List.mem_map.1 hp
    obtain ⟨e1, e2⟩ := key q hq h5 h6
    cases ha : atC C x with
    | none => rw [(memC_at C x).2 ha] at e1; exact absurd e1 e2
    | some a =>
      obtain ⟨a, b⟩ := a
      have e3 : memC C x = [a, b] := by unfold memC; rw [ha]
      rw [e3] at e1
      have e4 : q.pr.s = a := by show q.m.getD 0 0 = a; rw [e1]; rfl
      have e5 : q.pr.r = b := by show q.m.getD 1 0 = b; rw [e1]; rfl
      exact ⟨b, by rw [← h3, e4], by rw [← e5]; exact h4⟩
  · rintro ⟨q, ha, hr⟩
    have e3 : memC C x = [s, q] := by unfold memC; rw [ha]
    have hx := dd_day (atC_some ha).2.2.1
    obtain ⟨p, hp, h1, h2, h3⟩ := valP_hit (h.2 x) (by rw [e3]; simp)
    rw [e3] at h3
    refine ⟨hx, p.pr, List.mem_map.2 ⟨p, hp, rfl⟩, ?_, ?_, h1, h2⟩
    · show p.m.getD 0 0 = s; rw [h3]; rfl
    · have : p.pr.r = q := by show p.m.getD 1 0 = q; rw [h3]; rfl
      rw [this]; exact hr
theorem res_length {C : List Pr} {R : List Pc} (h : Res C R) : R.length ≤ 5 * C.length := by
  rw [res_unique h (refR_main C)]
  have := pcs_length (memC C) (refE C) []
  have := refE_length C
  simp at *
  omega
/-! OverlapAlone: all claims are of one state. -/
theorem alone_at {C : List Pr} {st x s r : Int} (h : ∀ p ∈ C, p.s = st) (ha : atC C x = some (s, r)) : s = st := by
  obtain ⟨_, _, hd, _⟩ := atC_some ha
  obtain ⟨_, p, hp, h1, _⟩ := (dd_iff _ _ _ _).1 hd
  rw [← h1, h p hp]
/-- With one rank: the days claimed with it, less those claimed with a lesser one. -/
theorem alone_rank {C : List Pr} {R : List Pc} {st r : Int} (hR : Res C R) (hst : st ∈ states) (hr : r ∈ ranks) (h : ∀ p ∈ C, p.s = st) (x : Int) :
    Dd (R.map Pc.pr) st r x = (Dd C st r x && !(decide (∃ k ∈ ranks, k < r ∧ Dd C st k x = true))) := by
  rw [Bool.eq_iff_iff, res_dd hR, Bool.and_eq_true, Bool.not_eq_true', decide_eq_false_iff_not]
  have hr2 := (mem_ranks r).1 hr
  constructor
  · rintro ⟨q, ha, hq⟩
    obtain rfl : q = r := by omega
    obtain ⟨_, _, h3, h4⟩ := atC_some ha
    refine ⟨h3, ?_⟩
    rintro ⟨k, hk, hlt, hd⟩
    have := h4 k hk st hst hd
    omega
  · rintro ⟨h1, h2⟩
    cases ha : atC C x with
    | none => rw [atC_none ha st hst r hr] at h1; cases h1
    | some a =>
      obtain ⟨a, b⟩ := a
      obtain rfl := alone_at h ha
      obtain ⟨_, k2, k3, k4⟩ := atC_some ha
      have k5 := k4 r hr a hst h1
      refine ⟨b, rfl, .inr ?_⟩
      apply Classical.byContradiction
      intro hne
      exact h2 ⟨b, k2, by omega, k3⟩
theorem alone_all {C : List Pr} {R : List Pc} {st : Int} (hR : Res C R) (hst : st ∈ states) (h : ∀ p ∈ C, p.s = st ∧ p.r ∈ ranks) (x : Int) :
    Dd (R.map Pc.pr) st 0 x = Dd C st 0 x := by
  rw [Bool.eq_iff_iff, res_dd hR]
  constructor
  · rintro ⟨q, ha, _⟩
    obtain ⟨_, _, h3, _⟩ := atC_some ha
    obtain ⟨e, p, hp, h1, h2, h4⟩ := (dd_iff _ _ _ _).1 h3
    exact (dd_iff _ _ _ _).2 ⟨e, p, hp, h1, .inl rfl, h4⟩
  · intro hd
    obtain ⟨e, p, hp, h1, h2, h4⟩ := (dd_iff _ _ _ _).1 hd
    have hd2 : Dd C st p.r x = true := (dd_iff _ _ _ _).2 ⟨e, p, hp, h1, .inr rfl, h4⟩
    cases ha : atC C x with
    | none => rw [atC_none ha st hst p.r (h p hp).2] at hd2; cases hd2
    | some a =>
      obtain ⟨a, b⟩ := a
      obtain rfl := alone_at (fun p hp => (h p hp).1) ha
      exact ⟨b, rfl, .inl rfl⟩
/-! The example of the chapter. -/
def awC : List Pr := [⟨1, 1, 0, 10⟩, ⟨1, 4, 10, 20⟩, ⟨2, 4, 10, 20⟩, ⟨2, 1, 20, 30⟩]
def awR : List Pc := [⟨0, 10, [1, 1]⟩, ⟨10, 20, [1, 4]⟩, ⟨20, 30, [2, 1]⟩]
theorem aw_dd (s r x : Int) : Dd awC s r x = true ↔ (0 ≤ x ∧ x < 73049) ∧ ((1 = s ∧ (r = 0 ∨ 1 = r) ∧ 0 ≤ x ∧ x < 10) ∨ (1 = s ∧ (r = 0 ∨ 4 = r) ∧ 10 ≤ x ∧ x < 20) ∨ (2 = s ∧ (r = 0 ∨ 4 = r) ∧ 10 ≤ x ∧ x < 20) ∨ (2 = s ∧ (r = 0 ∨ 1 = r) ∧ 20 ≤ x ∧ x < 30)) := by
  rw [dd_iff]
  simp [awC]
theorem aw_no {s r x : Int} (h : ¬((0 ≤ x ∧ x < 73049) ∧ ((1 = s ∧ (r = 0 ∨ 1 = r) ∧ 0 ≤ x ∧ x < 10) ∨ (1 = s ∧ (r = 0 ∨ 4 = r) ∧ 10 ≤ x ∧ x < 20) ∨ (2 = s ∧ (r = 0 ∨ 4 = r) ∧ 10 ≤ x ∧ x < 20) ∨ (2 = s ∧ (r = 0 ∨ 1 = r) ∧ 20 ≤ x ∧ x < 30)))) : Dd awC s r x = false := by
  rw [Bool.eq_false_iff]
  exact fun e => h ((aw_dd s r x).1 e)
theorem aw_clo {x : Int} (h1 : 10 ≤ x) (h2 : x < 20) : cloC awC 4 x = 1 := by
  have e : stL awC 4 x = [1, 2] := by
    have d0 : Dd awC 0 4 x = false := aw_no (by omega)
    have d1 : Dd awC 1 4 x = true := (aw_dd _ _ _).2 (by omega)
    have d2 : Dd awC 2 4 x = true := (aw_dd _ _ _).2 (by omega)
    have d3 : Dd awC 3 4 x = false := aw_no (by omega)
    have d4 : Dd awC 4 4 x = false := aw_no (by omega)
    have d5 : Dd awC 5 4 x = false := aw_no (by omega)
    simp [stL, states, d0, d1, d2, d3, d4, d5]
  unfold cloC
  rw [e]
  have p1 : prevD (Dd awC 1 1) x = 9 := isPrev_eq (prevD_spec _ _) (.inr ⟨by omega, by omega, (aw_dd _ _ _).2 (by omega), fun y _ _ => aw_no (by omega)⟩)
  have p2 : prevD (Dd awC 2 1) x = -1 := isPrev_eq (prevD_spec _ _) (.inl ⟨rfl, fun y _ _ => aw_no (by omega)⟩)
  have b : bestP (fun s => prevD (Dd awC s 1) x) 1 [2] = 1 := by
    rw [bestP_cons]
    simp only [p1, p2]
    rfl
  show (if 0 ≤ prevD (Dd awC (bestP (fun s => prevD (Dd awC s 1) x) 1 [2]) 1) x then bestP (fun s => prevD (Dd awC s 1) x) 1 [2] else _) = 1
  rw [b, p1]
  rfl
theorem atC_clo {C : List Pr} {x s r : Int} (h : atC C x = some (s, r)) : s = cloC C r x := by
  unfold atC at h
  cases hk : rkC C x with
  | none => rw [hk] at h; cases h
  | some r0 =>
    rw [hk] at h
    simp only [Option.map_some, Option.some.injEq, Prod.mk.injEq] at h
    obtain ⟨h1, rfl⟩ := h
    exact h1.symm
theorem aw_res : Res awC awR := by
  refine ⟨⟨by show (0 : Int) ≤ 0; omega, fun _ => by simp, by show (0 : Int) < 10; omega, by simp, by show (10 : Int) ≤ 10; omega, fun _ => by simp, by show (10 : Int) < 20; omega, by simp, by show (20 : Int) ≤ 20; omega, fun _ => by simp, by show (20 : Int) < 30; omega, by simp, trivial⟩, fun x => ?_⟩
  have hv : valP awR x = if 0 ≤ x ∧ x < 10 then [1, 1] else if 10 ≤ x ∧ x < 20 then [1, 4] else if 20 ≤ x ∧ x < 30 then [2, 1] else [] := rfl
  rw [hv]
  unfold memC
  cases ha : atC awC x with
  | none =>
    have hn := atC_none ha
    have h11 := hn 1 (by simp [states]) 1 (by simp [ranks])
    have h14 := hn 1 (by simp [states]) 4 (by simp [ranks])
    have h21 := hn 2 (by simp [states]) 1 (by simp [ranks])
    rw [Bool.eq_false_iff, Ne, aw_dd] at h11 h14 h21
    rw [if_neg (by omega), if_neg (by omega), if_neg (by omega)]
  | some p =>
    obtain ⟨s, r⟩ := p
    have hc := atC_clo ha
    obtain ⟨hs, hr, hd, _⟩ := atC_some ha
    rw [aw_dd] at hd
    have hs2 := (mem_states s).1 hs
    have hr2 := (mem_ranks r).1 hr
    by_cases h1 : 0 ≤ x ∧ x < 10
    · rw [if_pos h1, show s = 1 by omega, show r = 1 by omega]
    · rw [if_neg h1]
      by_cases h2 : 10 ≤ x ∧ x < 20
      · have e4 : r = 4 := by omega
        subst e4
        rw [aw_clo h2.1 h2.2] at hc
        rw [if_pos h2, hc]
      · rw [if_neg h2, if_pos (by omega), show s = 2 by omega, show r = 1 by omega]
end Go.Proofs.Ytkncfhdfobcjeaa
