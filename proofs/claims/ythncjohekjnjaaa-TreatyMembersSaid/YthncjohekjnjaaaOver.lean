/- Which state's claim counts on a day, in plain Lean; the spans that come of it. No program of the seat is named here. -/
import Derived.Test.YthncjohekjnjaaaPcMem
namespace Go.Proofs.Ythncjohekjnjaaa

/-- A claim: state, rank, days. -/
structure Pr where
  s : Int
  r : Int
  f : Int
  t : Int
def Pr.sp (p : Pr) : Sp := ⟨p.f, p.t⟩
/-- The spans that a state claims with a rank (0: any). -/
def ofL (C : List Pr) (s r : Int) : List Sp := (C.filter fun p => decide (p.s = s) && (decide (r = 0) || decide (p.r = r))).map Pr.sp
def Dd (C : List Pr) (s r x : Int) : Bool := dset (ofL C s r) x
theorem mem_ofL (C : List Pr) (s r : Int) (q : Sp) : q ∈ ofL C s r ↔ ∃ p ∈ C, p.s = s ∧ (r = 0 ∨ p.r = r) ∧ p.sp = q := by
  unfold ofL
  simp [List.mem_map, List.mem_filter, and_assoc]
theorem dd_iff (C : List Pr) (s r x : Int) : Dd C s r x = true ↔ (0 ≤ x ∧ x < 73049) ∧ ∃ p ∈ C, p.s = s ∧ (r = 0 ∨ p.r = r) ∧ p.f ≤ x ∧ x < p.t := by
  unfold Dd dset
  rw [Bool.and_eq_true, isD_iff, cov_iff]
  constructor
  · rintro ⟨h, q, hq, h1, h2⟩
    obtain ⟨p, hp, h3, h4, rfl⟩ := (mem_ofL C s r q).1 hq
    exact ⟨h, p, hp, h3, h4, h1, h2⟩
  · rintro ⟨h, p, hp, h3, h4, h1, h2⟩
    exact ⟨h, p.sp, (mem_ofL C s r _).2 ⟨p, hp, h3, h4, rfl⟩, h1, h2⟩
theorem dd_day {C : List Pr} {s r x : Int} (h : Dd C s r x = true) : 0 ≤ x ∧ x < 73049 := ((dd_iff C s r x).1 h).1

/-! The latest day before a day, the earliest behind it. -/
def prevN (S : Int → Bool) : Nat → Int
  | 0 => -1
  | k + 1 => if S (k : Int) = true then (k : Int) else prevN S k
def prevD (S : Int → Bool) (d : Int) : Int := prevN S d.toNat
theorem prevN_spec (S : Int → Bool) : ∀ k : Nat, (prevN S k = -1 ∧ ∀ x : Int, 0 ≤ x → x < k → S x = false) ∨ (0 ≤ prevN S k ∧ prevN S k < k ∧ S (prevN S k) = true ∧ ∀ x : Int, prevN S k < x → x < k → S x = false)
  | 0 => .inl ⟨rfl, fun x h1 h2 => by omega⟩
  | k + 1 => by
    unfold prevN
    by_cases h : S (k : Int) = true
    · rw [if_pos h]
      exact .inr ⟨by omega, by omega, h, fun x h1 h2 => by omega⟩
    · rw [if_neg h]
      have hk : S (k : Int) = false := by simpa using h
      rcases prevN_spec S k with ⟨h1, h2⟩ | ⟨h1, h2, h3, h4⟩
      · refine .inl ⟨h1, fun x h3 h4 => ?_⟩
        by_cases e : x = k
        · rw [e]; exact hk
        · exact h2 x h3 (by omega)
      · refine .inr ⟨h1, by omega, h3, fun x h5 h6 => ?_⟩
        by_cases e : x = k
        · rw [e]; exact hk
        · exact h4 x h5 (by omega)
/-- p is the latest day of S before d, or -1. -/
def IsPrev (S : Int → Bool) (d p : Int) : Prop := (p = -1 ∧ ∀ x, 0 ≤ x → x < d → S x = false) ∨ (0 ≤ p ∧ p < d ∧ S p = true ∧ ∀ x, p < x → x < d → S x = false)
theorem prevD_spec (S : Int → Bool) (d : Int) : IsPrev S d (prevD S d) := by
  unfold prevD
  rcases prevN_spec S d.toNat with ⟨h1, h2⟩ | ⟨h1, h2, h3, h4⟩
  · exact .inl ⟨h1, fun x h3 h4 => h2 x h3 (by omega)⟩
  · exact .inr ⟨h1, by omega, h3, fun x h5 h6 => h4 x h5 (by omega)⟩
theorem isPrev_eq {S : Int → Bool} {d p q : Int} (hp : IsPrev S d p) (hq : IsPrev S d q) : p = q := by
  rcases hp with ⟨p1, p2⟩ | ⟨p1, p2, p3, p4⟩
  · rcases hq with ⟨q1, q2⟩ | ⟨q1, q2, q3, q4⟩
    · omega
    · rw [p2 q q1 q2] at q3
      cases q3
  · rcases hq with ⟨q1, q2⟩ | ⟨q1, q2, q3, q4⟩
    · rw [q2 p p1 p2] at p3
      cases p3
    · rcases Int.lt_trichotomy p q with h | h | h
      · rw [p4 q h q2] at q3
        cases q3
      · exact h
      · rw [q4 p h p2] at p3
        cases p3
theorem prevD_ge (S : Int → Bool) (d : Int) : -1 ≤ prevD S d := by
  rcases prevD_spec S d with ⟨h, _⟩ | ⟨h, _⟩ <;> omega
theorem prevD_lt (S : Int → Bool) {d : Int} (h : 0 ≤ d) : prevD S d < d := by
  rcases prevD_spec S d with ⟨h, _⟩ | ⟨_, h, _⟩ <;> omega
theorem prevD_last {S : Int → Bool} {d : Int} (h0 : 1 ≤ d) (h : S (d - 1) = true) : prevD S d = d - 1 := isPrev_eq (prevD_spec S d) (.inr ⟨by omega, by omega, h, fun x h1 h2 => by omega⟩)
theorem prevD_same {S : Int → Bool} {x y : Int} (h : x ≤ y) (hS : ∀ z, x ≤ z → z < y → S z = false) : prevD S x = prevD S y := by
  refine isPrev_eq ?_ (prevD_spec S y)
  rcases prevD_spec S x with ⟨h1, h2⟩ | ⟨h1, h2, h3, h4⟩
  · refine .inl ⟨h1, fun z h5 h6 => ?_⟩
    by_cases hz : z < x
    · exact h2 z h5 hz
    · exact hS z (by omega) h6
  · refine .inr ⟨h1, by omega, h3, fun z h5 h6 => ?_⟩
    by_cases hz : z < x
    · exact h4 z h5 hz
    · exact hS z (by omega) h6
theorem prevD_congr {S T : Int → Bool} (d : Int) (h : ∀ x, S x = T x) : prevD S d = prevD T d := by rw [show S = T from funext h]

def follN (S : Int → Bool) : Nat → Int → Int
  | 0, _ => 73049
  | n + 1, x => if S x = true then x else follN S n (x + 1)
def follD (S : Int → Bool) (d : Int) : Int := follN S (73049 - (d + 1)).toNat (d + 1)
/-- p is the earliest day of S behind d, or the bound behind the last day. -/
def IsFoll (S : Int → Bool) (d p : Int) : Prop := (p = 73049 ∧ ∀ x, d < x → x < 73049 → S x = false) ∨ (d < p ∧ p < 73049 ∧ S p = true ∧ ∀ x, d < x → x < p → S x = false)
theorem follN_spec (S : Int → Bool) : ∀ (n : Nat) (x : Int), n = (73049 - x).toNat → IsFoll S (x - 1) (follN S n x)
  | 0, x, h => .inl ⟨rfl, fun y h1 h2 => by omega⟩
  | n + 1, x, h => by
    unfold follN
    by_cases hx : S x = true
    · rw [if_pos hx]
      exact .inr ⟨by omega, by omega, hx, fun y h1 h2 => by omega⟩
    · rw [if_neg hx]
      have hk : S x = false := by simpa using hx
      have ih := follN_spec S n (x + 1) (by omega)
      rcases ih with ⟨h1, h2⟩ | ⟨h1, h2, h3, h4⟩
      · refine .inl ⟨h1, fun y h3 h4 => ?_⟩
        by_cases e : y = x
        · rw [e]; exact hk
        · exact h2 y (by omega) h4
      · refine .inr ⟨by omega, h2, h3, fun y h5 h6 => ?_⟩
        by_cases e : y = x
        · rw [e]; exact hk
        · exact h4 y (by omega) h6
theorem follD_spec (S : Int → Bool) (d : Int) : IsFoll S d (follD S d) := by
  unfold follD
  have := follN_spec S (73049 - (d + 1)).toNat (d + 1) rfl
  rwa [show d + 1 - 1 = d by omega] at this
theorem isFoll_eq {S : Int → Bool} {d p q : Int} (hp : IsFoll S d p) (hq : IsFoll S d q) : p = q := by
  rcases hp with ⟨p1, p2⟩ | ⟨p1, p2, p3, p4⟩
  · rcases hq with ⟨q1, q2⟩ | ⟨q1, q2, q3, q4⟩
    · omega
    · rw [p2 q q1 q2] at q3
      cases q3
  · rcases hq with ⟨q1, q2⟩ | ⟨q1, q2, q3, q4⟩
    · rw [q2 p p1 p2] at p3
      cases p3
    · rcases Int.lt_trichotomy p q with h | h | h
      · rw [q4 p p1 h] at p3
        cases p3
      · exact h
      · rw [p4 q q1 h] at q3
        cases q3
theorem follD_same {S : Int → Bool} {x y : Int} (h : x ≤ y) (hS : ∀ z, x < z → z ≤ y → S z = false) : follD S x = follD S y := by
  refine isFoll_eq (follD_spec S x) ?_
  rcases follD_spec S y with ⟨h1, h2⟩ | ⟨h1, h2, h3, h4⟩
  · refine .inl ⟨h1, fun z h5 h6 => ?_⟩
    by_cases hz : z ≤ y
    · exact hS z h5 hz
    · exact h2 z (by omega) h6
  · refine .inr ⟨by omega, h2, h3, fun z h5 h6 => ?_⟩
    by_cases hz : z ≤ y
    · exact hS z h5 hz
    · exact h4 z (by omega) h6
theorem follD_congr {S T : Int → Bool} (d : Int) (h : ∀ x, S x = T x) : follD S d = follD T d := by rw [show S = T from funext h]

/-! The state that is closest: the program's two passes, the reference's one. -/
def bestP (P : Int → Int) (b : Int) (r : List Int) : Int := r.foldl (fun b s => if P b < P s then s else b) b
def bestF (F : Int → Int) (b : Int) (r : List Int) : Int := r.foldl (fun b s => if F s < F b then s else b) b
def clo (P F : Int → Int) : List Int → Int
  | [] => -1
  | a :: r => if 0 ≤ P (bestP P a r) then bestP P a r else bestF F (bestP P a r) (a :: r)
def closerB (P F : Int → Int) (s b : Int) : Bool := if 0 ≤ P s ∨ 0 ≤ P b then decide (P b < P s) else decide (F s < F b)
def bestR (P F : Int → Int) (b : Int) (r : List Int) : Int := r.foldl (fun b s => if closerB P F s b = true then s else b) b
def cloR (P F : Int → Int) : List Int → Int
  | [] => -1
  | a :: r => bestR P F a r
theorem bestP_cons (P : Int → Int) (b s : Int) (r : List Int) : bestP P b (s :: r) = bestP P (if P b < P s then s else b) r := rfl
theorem bestF_cons (F : Int → Int) (b s : Int) (r : List Int) : bestF F b (s :: r) = bestF F (if F s < F b then s else b) r := rfl
theorem bestR_cons (P F : Int → Int) (b s : Int) (r : List Int) : bestR P F b (s :: r) = bestR P F (if closerB P F s b = true then s else b) r := rfl
theorem bestP_snoc (P : Int → Int) (b s : Int) (r : List Int) : bestP P b (r ++ [s]) = if P (bestP P b r) < P s then s else bestP P b r := by unfold bestP; rw [List.foldl_append]; rfl
theorem bestF_snoc (F : Int → Int) (b s : Int) (r : List Int) : bestF F b (r ++ [s]) = if F s < F (bestF F b r) then s else bestF F b r := by unfold bestF; rw [List.foldl_append]; rfl
theorem bestR_snoc (P F : Int → Int) (b s : Int) (r : List Int) : bestR P F b (r ++ [s]) = if closerB P F s (bestR P F b r) = true then s else bestR P F b r := by unfold bestR; rw [List.foldl_append]; rfl
theorem bestR_pos {P F : Int → Int} : ∀ (r : List Int) (b : Int), 0 ≤ P b → bestR P F b r = bestP P b r
  | [], _, _ => rfl
  | s :: r, b, h => by
    have e : closerB P F s b = decide (P b < P s) := by unfold closerB; rw [if_pos (.inr h)]
    rw [bestR_cons, bestP_cons, e]
    by_cases hs : P b < P s
    · rw [if_pos (by simpa using hs), if_pos hs]
      exact bestR_pos r s (by omega)
    · rw [if_neg (by simpa using hs), if_neg hs]
      exact bestR_pos r b h
theorem bestR_low {P F : Int → Int} (hP : ∀ s, -1 ≤ P s) : ∀ (r : List Int) (a b : Int), P a = -1 → P b = -1 → 0 ≤ P (bestP P a r) → bestR P F b r = bestP P a r
  | [], a, b, h1, _, h3 => by
    have : bestP P a [] = a := rfl
    rw [this] at h3
    omega
  | s :: r, a, b, h1, h2, h3 => by
    rw [bestP_cons] at h3 ⊢
    rw [bestR_cons]
    have hs := hP s
    by_cases h : 0 ≤ P s
    · have e : closerB P F s b = true := by unfold closerB; rw [if_pos (.inl h)]; simp; omega
      rw [if_pos e, if_pos (by omega)]
      exact bestR_pos r s h
    · have hns : ¬ P a < P s := by omega
      rw [if_neg hns] at h3 ⊢
      by_cases hc : closerB P F s b = true
      · rw [if_pos hc]
        exact bestR_low hP r a s h1 (by omega) h3
      · rw [if_neg hc]
        exact bestR_low hP r a b h1 h2 h3
theorem bestP_low {P : Int → Int} (hP : ∀ s, -1 ≤ P s) : ∀ (r : List Int) (a : Int), P (bestP P a r) < 0 → bestP P a r = a ∧ P a = -1 ∧ ∀ s ∈ r, P s = -1
  | [], a, h => by
    have e : bestP P a [] = a := rfl
    rw [e] at h
    have := hP a
    exact ⟨rfl, by omega, by simp⟩
  | s :: r, a, h => by
    rw [bestP_cons] at h ⊢
    have hs := hP s
    have ha := hP a
    by_cases hc : P a < P s
    · rw [if_pos hc] at h
      obtain ⟨_, h2, _⟩ := bestP_low hP r s h
      omega
    · rw [if_neg hc] at h ⊢
      obtain ⟨h1, h2, h3⟩ := bestP_low hP r a h
      refine ⟨h1, h2, fun q hq => ?_⟩
      rcases List.mem_cons.1 hq with rfl | hq
      · omega
      · exact h3 q hq
theorem bestR_none {P F : Int → Int} : ∀ (r : List Int) (b : Int), P b = -1 → (∀ s ∈ r, P s = -1) → bestR P F b r = bestF F b r
  | [], _, _, _ => rfl
  | s :: r, b, h, hr => by
    have hs := hr s (by simp)
    have e : closerB P F s b = decide (F s < F b) := by unfold closerB; rw [if_neg (by omega)]
    rw [bestR_cons, bestF_cons, e]
    by_cases hc : F s < F b
    · rw [if_pos (by simpa using hc), if_pos hc]
      exact bestR_none r s hs fun q hq => hr q (by simp [hq])
    · rw [if_neg (by simpa using hc), if_neg hc]
      exact bestR_none r b h fun q hq => hr q (by simp [hq])
theorem clo_eq {P F : Int → Int} (hP : ∀ s, -1 ≤ P s) (l : List Int) : clo P F l = cloR P F l := by
  cases l with
  | nil => rfl
  | cons a r =>
    show (if 0 ≤ P (bestP P a r) then bestP P a r else bestF F (bestP P a r) (a :: r)) = bestR P F a r
    by_cases h : 0 ≤ P (bestP P a r)
    · rw [if_pos h]
      have ha := hP a
      by_cases h0 : 0 ≤ P a
      · exact (bestR_pos r a h0).symm
      · exact (bestR_low hP r a a (by omega) (by omega) h).symm
    · rw [if_neg h]
      obtain ⟨h1, h2, h3⟩ := bestP_low hP r a (by omega)
      rw [h1, bestF_cons, if_neg (by omega), bestR_none r a h2 h3]
theorem bestP_flat {P : Int → Int} {c : Int} : ∀ (r : List Int) (a : Int), P a = c → (∀ s ∈ r, P s = c) → bestP P a r = a
  | [], _, _, _ => rfl
  | s :: r, a, h, hr => by
    have hs := hr s (by simp)
    rw [bestP_cons, if_neg (by omega)]
    exact bestP_flat r a h fun q hq => hr q (by simp [hq])
theorem clo_flat {P F : Int → Int} {c : Int} (h0 : 0 ≤ c) {a : Int} {r : List Int} (h : ∀ s ∈ a :: r, P s = c) : clo P F (a :: r) = a := by
  have ha := h a (by simp)
  have e : bestP P a r = a := bestP_flat r a ha fun q hq => h q (by simp [hq])
  show (if 0 ≤ P (bestP P a r) then bestP P a r else _) = a
  rw [e, if_pos (by omega)]
theorem bestP_congr {P Q : Int → Int} : ∀ (r : List Int) (a : Int), P a = Q a → (∀ s ∈ r, P s = Q s) → bestP P a r = bestP Q a r
  | [], _, _, _ => rfl
  | s :: r, a, h, hr => by
    have hs := hr s (by simp)
    have hr2 : ∀ q ∈ r, P q = Q q := fun q hq => hr q (by simp [hq])
    rw [bestP_cons, bestP_cons, h, hs]
    split
    · exact bestP_congr r s hs hr2
    · exact bestP_congr r a h hr2
theorem bestP_mem (P : Int → Int) : ∀ (r : List Int) (a : Int), bestP P a r ∈ a :: r
  | [], _ => by simp [bestP]
  | s :: r, a => by
    rw [bestP_cons]
    split
    · have := bestP_mem P r s
      simp only [List.mem_cons] at *
      rcases this with h | h <;> simp [h]
    · have := bestP_mem P r a
      simp only [List.mem_cons] at *
      rcases this with h | h <;> simp [h]
theorem bestF_mem (F : Int → Int) : ∀ (r : List Int) (a : Int), bestF F a r ∈ a :: r
  | [], _ => by simp [bestF]
  | s :: r, a => by
    rw [bestF_cons]
    split
    · have := bestF_mem F r s
      simp only [List.mem_cons] at *
      rcases this with h | h <;> simp [h]
    · have := bestF_mem F r a
      simp only [List.mem_cons] at *
      rcases this with h | h <;> simp [h]
theorem bestF_congr {F G : Int → Int} : ∀ (r : List Int) (a : Int), F a = G a → (∀ s ∈ r, F s = G s) → bestF F a r = bestF G a r
  | [], _, _, _ => rfl
  | s :: r, a, h, hr => by
    have hs := hr s (by simp)
    have hr2 : ∀ q ∈ r, F q = G q := fun q hq => hr q (by simp [hq])
    rw [bestF_cons, bestF_cons, h, hs]
    split
    · exact bestF_congr r s hs hr2
    · exact bestF_congr r a h hr2
theorem clo_congr {P Q F G : Int → Int} {l : List Int} (hP : ∀ s ∈ l, P s = Q s) (hF : ∀ s ∈ l, F s = G s) : clo P F l = clo Q G l := by
  cases l with
  | nil => rfl
  | cons a r =>
    have e : bestP P a r = bestP Q a r := bestP_congr r a (hP a (by simp)) fun s hs => hP s (by simp [hs])
    have hm := bestP_mem Q r a
    show (if 0 ≤ P (bestP P a r) then bestP P a r else bestF F (bestP P a r) (a :: r)) = if 0 ≤ Q (bestP Q a r) then bestP Q a r else bestF G (bestP Q a r) (a :: r)
    rw [e, hP _ hm, bestF_congr (a :: r) _ (hF _ hm) hF]
theorem clo_mem {P F : Int → Int} {l : List Int} (h : l ≠ []) : clo P F l ∈ l := by
  cases l with
  | nil => exact absurd rfl h
  | cons a r =>
    show (if 0 ≤ P (bestP P a r) then bestP P a r else bestF F (bestP P a r) (a :: r)) ∈ _
    have hm := bestP_mem P r a
    split
    · exact hm
    · have := bestF_mem F (a :: r) (bestP P a r)
      rcases List.mem_cons.1 this with h | h
      · rw [h]; exact hm
      · exact h

/-! The decision about a day. -/
def states : List Int := [0, 1, 2, 3, 4, 5]
def ranks : List Int := [1, 2, 3, 4, 5, 6, 7]
def stL (C : List Pr) (r x : Int) : List Int := states.filter fun s => Dd C s r x
def rkC (C : List Pr) (x : Int) : Option Int := ranks.find? fun r => !(stL C r x).isEmpty
def cloC (C : List Pr) (r x : Int) : Int := clo (fun s => prevD (Dd C s 1) x) (fun s => follD (Dd C s 1) x) (stL C r x)
def atC (C : List Pr) (x : Int) : Option (Int × Int) := (rkC C x).map fun r => (cloC C r x, r)
def memC (C : List Pr) (x : Int) : List Int := match atC C x with
  | some (s, r) => [s, r]
  | none => []
/-- Two lists of claims with the same days. -/
def SameD (C K : List Pr) : Prop := ∀ s ∈ states, ∀ r ∈ ranks, ∀ x, Dd C s r x = Dd K s r x
theorem stL_congr {C K : List Pr} {r x y : Int} (h : ∀ s ∈ states, Dd C s r x = Dd K s r y) : stL C r x = stL K r y := List.filter_congr fun s hs => by rw [h s hs]
theorem rkC_congr {C K : List Pr} {x y : Int} (h : ∀ s ∈ states, ∀ r ∈ ranks, Dd C s r x = Dd K s r y) : rkC C x = rkC K y := by
  unfold rkC
  have : ∀ l : List Int, (∀ r ∈ l, r ∈ ranks) → (l.find? fun r => !(stL C r x).isEmpty) = l.find? fun r => !(stL K r y).isEmpty := by
    intro l
    induction l with
    | nil => intro _; rfl
    | cons r l ih =>
      intro hl
      have e := stL_congr (C := C) (K := K) (r := r) (x := x) (y := y) fun s hs => h s hs r (hl r (by simp))
      rw [List.find?_cons, List.find?_cons, e, ih fun q hq => hl q (by simp [hq])]
  exact this ranks fun _ h => h
theorem rkC_some {C : List Pr} {x r : Int} (h : rkC C x = some r) : r ∈ ranks ∧ stL C r x ≠ [] := by
  refine ⟨List.mem_of_find?_eq_some h, ?_⟩
  have := List.find?_some h
  simp only [Bool.not_eq_true', List.isEmpty_eq_false_iff] at this
  exact this
theorem rkC_none {C : List Pr} {x : Int} (h : rkC C x = none) : ∀ r ∈ ranks, stL C r x = [] := by
  intro r hr
  have := List.find?_eq_none.1 h r hr
  simpa using this
theorem rkC_least {C : List Pr} {x r q : Int} (h : rkC C x = some r) (hq : q ∈ ranks) (hs : stL C q x ≠ []) : r ≤ q := by
  obtain ⟨hp, l1, l2, e, hno⟩ := List.find?_eq_some_iff_append.1 h
  have hq2 : q ∈ l1 ++ r :: l2 := by rw [← e]; exact hq
  rcases List.mem_append.1 hq2 with h1 | h1
  · have := hno q h1
    simp at this
    exact absurd this hs
  · rcases List.mem_cons.1 h1 with h1 | h1
    · omega
    · have hpw : (l1 ++ r :: l2).Pairwise (· < ·) := by rw [← e]; decide
      have := (List.pairwise_cons.1 (List.pairwise_append.1 hpw).2.1).1 q h1
      omega
theorem mem_stL (C : List Pr) (r x s : Int) : s ∈ stL C r x ↔ s ∈ states ∧ Dd C s r x = true := by unfold stL; rw [List.mem_filter]
theorem stL_none {C : List Pr} {r x : Int} (h : stL C r x = []) : ∀ s ∈ states, Dd C s r x = false := fun s hs => by
  rw [Bool.eq_false_iff]
  intro e
  have := (mem_stL C r x s).2 ⟨hs, e⟩
  rw [h] at this
  simp at this
theorem memC_nil {C : List Pr} {x : Int} (h : ∀ s ∈ states, ∀ r ∈ ranks, Dd C s r x = false) : memC C x = [] := by
  have : rkC C x = none := List.find?_eq_none.2 fun r hr => by
    have e : stL C r x = [] := List.filter_eq_nil_iff.2 fun s hs => by rw [h s hs r hr]; simp
    rw [e]
    simp
  unfold memC atC
  rw [this]
  rfl
theorem memC_some {C : List Pr} {x r : Int} (h : rkC C x = some r) : memC C x = [cloC C r x, r] := by unfold memC atC; rw [h]; rfl
theorem memC_none {C : List Pr} {x : Int} (h : rkC C x = none) : memC C x = [] := by unfold memC atC; rw [h]; rfl
theorem memC_out {C : List Pr} {x : Int} (h : ¬(0 ≤ x ∧ x < 73049)) : memC C x = [] := memC_nil fun s _ r _ => by
  rw [Bool.eq_false_iff]
  exact fun e => h (dd_day e)
theorem memC_congr {C K : List Pr} {x : Int} (h : ∀ s ∈ states, ∀ r ∈ ranks, Dd C s r x = Dd K s r x) (h1 : ∀ s ∈ states, ∀ y, Dd C s 1 y = Dd K s 1 y) : memC C x = memC K x := by
  have e := rkC_congr h
  cases hk : rkC K x with
  | none => rw [memC_none (e.trans hk), memC_none hk]
  | some r =>
    rw [memC_some (e.trans hk), memC_some hk]
    obtain ⟨hr, _⟩ := rkC_some hk
    have es := stL_congr (C := C) (K := K) (r := r) (x := x) (y := x) fun s hs => h s hs r hr
    unfold cloC
    rw [es]
    have : clo (fun s => prevD (Dd C s 1) x) (fun s => follD (Dd C s 1) x) (stL K r x) = clo (fun s => prevD (Dd K s 1) x) (fun s => follD (Dd K s 1) x) (stL K r x) :=
      clo_congr (fun s hs => prevD_congr x (h1 s ((mem_stL K r x s).1 hs).1)) (fun s hs => follD_congr x (h1 s ((mem_stL K r x s).1 hs).1))
    rw [this]
/-- Where no claim begins or ends, the decision stays, but for the first day of a span of rank 1. -/
theorem memC_const {C : List Pr} {a b x y : Int} (h0 : 0 ≤ a) (hD : ∀ s ∈ states, ∀ r ∈ ranks, ∀ z, a ≤ z → z < b → Dd C s r z = Dd C s r a) (hax : a ≤ x) (hxy : x ≤ y) (hyb : y < b)
    (h1 : x < y → x = a → ∀ s ∈ states, Dd C s 1 a = true → Dd C s 1 (a - 1) = true) : memC C x = memC C y := by
  by_cases hlt : x < y
  case neg =>
    rw [show x = y by omega]
  have e : rkC C x = rkC C y := rkC_congr fun s hs r hr => by rw [hD s hs r hr x hax (by omega), hD s hs r hr y (by omega) hyb]
  cases hk : rkC C y with
  | none => rw [memC_none (e.trans hk), memC_none hk]
  | some r =>
    obtain ⟨hr, hne⟩ := rkC_some hk
    have es := stL_congr (C := C) (K := C) (r := r) (x := x) (y := y) fun s hs => by rw [hD s hs r hr x hax (by omega), hD s hs r hr y (by omega) hyb]
    rw [memC_some (e.trans hk), memC_some hk]
    unfold cloC
    rw [es]
    by_cases hr1 : r = 1
    · subst hr1
      have hpx : ∀ s ∈ stL C 1 y, prevD (Dd C s 1) x = x - 1 := fun s hs => by
        obtain ⟨m1, m2⟩ := (mem_stL C 1 y s).1 hs
        rw [hD s m1 1 hr y (by omega) hyb] at m2
        by_cases hxa : x = a
        · have h3 := h1 hlt hxa s m1 m2
          have := dd_day h3
          rw [← hxa] at h3 this
          exact prevD_last (by omega) h3
        · exact prevD_last (by omega) (by rw [hD s m1 1 hr (x - 1) (by omega) (by omega)]; exact m2)
      have hpy : ∀ s ∈ stL C 1 y, prevD (Dd C s 1) y = y - 1 := fun s hs => by
        obtain ⟨m1, m2⟩ := (mem_stL C 1 y s).1 hs
        rw [hD s m1 1 hr y (by omega) hyb] at m2
        exact prevD_last (by omega) (by rw [hD s m1 1 hr (y - 1) (by omega) (by omega)]; exact m2)
      cases hl : stL C 1 y with
      | nil => exact absurd hl hne
      | cons s l =>
        rw [hl] at hpx hpy
        have hx1 : 0 ≤ x - 1 := by
          by_cases hxa : x = a
          · have hm : s ∈ stL C 1 y := by rw [hl]; simp
            obtain ⟨m1, m2⟩ := (mem_stL C 1 y s).1 hm
            rw [hD s m1 1 hr y (by omega) hyb] at m2
            have := dd_day (h1 hlt hxa s m1 m2)
            omega
          · omega
        rw [clo_flat (c := x - 1) hx1 hpx, clo_flat (c := y - 1) (by omega) hpy]
    · have hno : ∀ s ∈ states, ∀ z, a ≤ z → z < b → Dd C s 1 z = false := fun s hs z hz hzb => by
        have hn1 : stL C 1 y = [] := by
          apply Classical.byContradiction
          intro hc
          have := rkC_least hk (q := 1) (by simp [ranks]) hc
          have : 1 ≤ r := by
            simp [ranks] at hr
            omega
          omega
        have := stL_none hn1 s hs
        rw [hD s hs 1 (by simp [ranks]) y (by omega) hyb] at this
        rw [hD s hs 1 (by simp [ranks]) z hz hzb]
        exact this
      have : clo (fun s => prevD (Dd C s 1) x) (fun s => follD (Dd C s 1) x) (stL C r y) = clo (fun s => prevD (Dd C s 1) y) (fun s => follD (Dd C s 1) y) (stL C r y) :=
        clo_congr (fun s hs => prevD_same hxy fun z z1 z2 => hno s ((mem_stL C r y s).1 hs).1 z (by omega) (by omega)) (fun s hs => follD_same hxy fun z z1 z2 => hno s ((mem_stL C r y s).1 hs).1 z (by omega) (by omega))
      rw [this]

/-- The days that count: one behind the other, two that touch differ, each day as decided. -/
def Res (C : List Pr) (R : List Pc) : Prop := PN 0 [] R ∧ ∀ x, valP R x = memC C x
theorem res_unique {C : List Pr} {R R' : List Pc} (h : Res C R) (h' : Res C R') : R = R' := pn_ext h.1 h'.1 fun x => by rw [h.2 x, h'.2 x]
end Go.Proofs.Ythncjohekjnjaaa
