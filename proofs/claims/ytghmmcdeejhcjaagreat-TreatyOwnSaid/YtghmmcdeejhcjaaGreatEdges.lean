/- The reference's combination of two lists by their edges; plain Lean. -/
import Derived.Test.YtghmmcdeejhcjaaGreatSpans
import Derived.Test.YtghmmcdeejhcjaaGreatInsA
namespace Go.Proofs.YtghmmcdeejhcjaaGreat

def edgS (out : List Int) (s : Sp) : List Int := if (cutS s).f < (cutS s).t then insS (insS out (cutS s).f) (cutS s).t else out
def edgL (out : List Int) (l : List Sp) : List Int := l.foldl edgS out
theorem edgS_sorted {out : List Int} (s : Sp) (h : out.Pairwise (· < ·)) : (edgS out s).Pairwise (· < ·) := by
  unfold edgS
  split
  · exact sorted_insS _ (sorted_insS _ h)
  · exact h
theorem edgL_sorted : ∀ (l : List Sp) {out : List Int}, out.Pairwise (· < ·) → (edgL out l).Pairwise (· < ·)
  | [], _, h => h
  | s :: l, _, h => edgL_sorted l (edgS_sorted s h)
theorem mem_edgS (out : List Int) (s : Sp) (x : Int) : x ∈ edgS out s ↔ x ∈ out ∨ ((cutS s).f < (cutS s).t ∧ (x = (cutS s).f ∨ x = (cutS s).t)) := by
  unfold edgS
  split
  · rename_i h
    rw [mem_insS, mem_insS]
    simp only [h, true_and]
    constructor
    · rintro (h | h | h) <;> simp [h]
    · rintro (h | h | h) <;> simp [h]
  · rename_i h
    simp [h]
theorem mem_edgL : ∀ (l : List Sp) (out : List Int) (x : Int), x ∈ edgL out l ↔ x ∈ out ∨ ∃ s ∈ l, (cutS s).f < (cutS s).t ∧ (x = (cutS s).f ∨ x = (cutS s).t)
  | [], out, x => by simp [edgL]
  | s :: l, out, x => by
    show x ∈ edgL (edgS out s) l ↔ _
    rw [mem_edgL l, mem_edgS]
    simp only [List.mem_cons, exists_eq_or_imp, or_assoc]
theorem edgS_length (out : List Int) (s : Sp) : (edgS out s).length ≤ out.length + 2 := by
  unfold edgS
  split
  · have h1 := length_insS out (cutS s).f
    have h2 := length_insS (insS out (cutS s).f) (cutS s).t
    omega
  · omega
theorem edgL_length : ∀ (l : List Sp) (out : List Int), (edgL out l).length ≤ out.length + 2 * l.length
  | [], out => by simp [edgL]
  | s :: l, out => by
    have h1 := edgL_length l (edgS out s)
    have h2 := edgS_length out s
    show (edgL (edgS out s) l).length ≤ _
    simp only [List.length_cons]
    omega

def combS (C : Int → Bool) : List Int → List Sp → List Sp
  | [], out => out
  | [_], out => out
  | e0 :: e1 :: r, out => combS C (e1 :: r) (if C e0 = true then addS out e0 e1 else out)
def Steady (C : Int → Bool) : List Int → Prop
  | [] => True
  | [_] => True
  | e0 :: e1 :: r => (∀ x, e0 ≤ x → x < e1 → C x = C e0) ∧ Steady C (e1 :: r)
theorem steady_of {C : Int → Bool} {E : List Int} (hE : E.Pairwise (· < ·)) (hC : ∀ x y, (∀ p ∈ E, p ≤ x ↔ p ≤ y) → C x = C y) : ∀ (e pre : List Int), E = pre ++ e → Steady C e
  | [], _, _ => trivial
  | [_], _, _ => trivial
  | e0 :: e1 :: r, pre, h => by
    refine ⟨fun x h0 h1 => hC x e0 fun p hp => ?_, steady_of hE hC (e1 :: r) (pre ++ [e0]) (by simp [h])⟩
    rw [h] at hp hE
    obtain ⟨p1, p2, p3⟩ := List.pairwise_append.1 hE
    obtain ⟨p4, p5⟩ := List.pairwise_cons.1 p2
    obtain ⟨p6, _⟩ := List.pairwise_cons.1 p5
    rcases List.mem_append.1 hp with hp | hp
    · have := p3 p hp e0 (by simp)
      omega
    · rcases List.mem_cons.1 hp with rfl | hp
      · omega
      · have q1 := p4 p hp
        have q2 : e1 ≤ p := by
          rcases List.mem_cons.1 hp with rfl | hp
          · omega
          · have := p6 p hp; omega
        omega
def lastD : Int → List Int → Int
  | d, [] => d
  | _, a :: r => lastD a r
theorem lastD_ge : ∀ (r : List Int) (d : Int), (d :: r).Pairwise (· < ·) → ∀ x ∈ d :: r, x ≤ lastD d r
  | [], d, _, x, hx => by simp at hx; subst hx; exact Int.le_refl _
  | a :: r, d, h, x, hx => by
    obtain ⟨p1, p2⟩ := List.pairwise_cons.1 h
    have ih := lastD_ge r a p2
    rcases List.mem_cons.1 hx with rfl | hx
    · have := p1 a (by simp)
      have := ih a (by simp)
      show x ≤ lastD a r
      omega
    · exact ih x hx
theorem comb_ok (C : Int → Bool) : ∀ (r : List Int) (e0 : Int) (out : List Sp), (e0 :: r).Pairwise (· < ·) → 0 ≤ e0 → (∀ x ∈ e0 :: r, x ≤ 73049) → Steady C (e0 :: r) → NormFrom (-1) out → Upto out e0 →
    NormFrom (-1) (combS C (e0 :: r) out) ∧ ∀ x, cov (combS C (e0 :: r) out) x = (cov out x || (decide (e0 ≤ x) && decide (x < lastD e0 r) && C x))
  | [], e0, out, _, _, _, _, hn, _ => ⟨hn, fun x => by
      have : (decide (e0 ≤ x) && decide (x < lastD e0 [])) = false := by
        show (decide (e0 ≤ x) && decide (x < e0)) = false
        by_cases h : e0 ≤ x
        · have : ¬ x < e0 := by omega
          simp [this]
        · simp [h]
      rw [this]
      simp [combS]⟩
  | e1 :: r, e0, out, hs, h0, hE, ⟨hc, hst⟩, hn, hu => by
    obtain ⟨p1, p2⟩ := List.pairwise_cons.1 hs
    have h01 : e0 < e1 := p1 e1 (by simp)
    have he1 : e1 ≤ 73049 := hE e1 (by simp)
    have hl : e1 ≤ lastD e1 r := lastD_ge r e1 p2 e1 (by simp)
    have key : ∀ out', NormFrom (-1) out' → Upto out' e1 → (∀ x, cov out' x = (cov out x || (inS ⟨e0, e1⟩ x && C x))) →
        NormFrom (-1) (combS C (e1 :: r) out') ∧ ∀ x, cov (combS C (e1 :: r) out') x = (cov out x || (decide (e0 ≤ x) && decide (x < lastD e1 r) && C x)) := by
      intro out' n' u' c'
      obtain ⟨g1, g2⟩ := comb_ok C r e1 out' p2 (by omega) (fun x hx => hE x (by simp only [List.mem_cons] at hx ⊢; exact .inr hx)) hst n' u'
      refine ⟨g1, fun x => ?_⟩
      rw [g2 x, c' x, Bool.or_assoc]
      congr 1
      rw [← Bool.and_or_distrib_right]
      congr 1
      rw [Bool.eq_iff_iff, Bool.or_eq_true, inS_iff, Bool.and_eq_true, Bool.and_eq_true, decide_eq_true_eq, decide_eq_true_eq, decide_eq_true_eq]
      simp only
      omega
    show NormFrom (-1) (combS C (e1 :: r) (if C e0 = true then addS out e0 e1 else out)) ∧ ∀ x, cov (combS C (e1 :: r) (if C e0 = true then addS out e0 e1 else out)) x = (cov out x || (decide (e0 ≤ x) && decide (x < lastD e1 r) && C x))
    cases hce : C e0 with
    | true =>
      rw [if_pos rfl]
      refine key _ (addS_norm hn hu (by omega) h01 he1) (addS_upto hu (by omega)) fun x => ?_
      rw [addS_cov hn hu h01 x]
      cases hi : inS ⟨e0, e1⟩ x with
      | false => rfl
      | true =>
        have := (inS_iff ⟨e0, e1⟩ x).1 hi
        rw [hc x this.1 this.2, hce]
        rfl
    | false =>
      rw [if_neg (by simp)]
      refine key _ hn (fun s hx => by have := hu s hx; omega) fun x => ?_
      cases hi : inS ⟨e0, e1⟩ x with
      | false => simp
      | true =>
        have := (inS_iff ⟨e0, e1⟩ x).1 hi
        rw [hc x this.1 this.2, hce]
        simp
/-- What the reference's combination returns. -/
theorem comb_eq (g : Bool → Bool → Bool) (hg : g false false = false) (a b : List Sp) :
    combS (fun x => g (dset a x) (dset b x)) (edgL (edgL [] a) b) [] = nf fun x => g (dset a x) (dset b x) := by
  have hsort : (edgL (edgL [] a) b).Pairwise (· < ·) := edgL_sorted b (edgL_sorted a List.Pairwise.nil)
  have hmem : ∀ x, x ∈ edgL (edgL [] a) b ↔ (∃ s ∈ a, (cutS s).f < (cutS s).t ∧ (x = (cutS s).f ∨ x = (cutS s).t)) ∨ ∃ s ∈ b, (cutS s).f < (cutS s).t ∧ (x = (cutS s).f ∨ x = (cutS s).t) := by
    intro x
    rw [mem_edgL, mem_edgL]
    simp
  have hends : ∀ s : Sp, s ∈ a ∨ s ∈ b → (cutS s).f < (cutS s).t → (cutS s).f ∈ edgL (edgL [] a) b ∧ (cutS s).t ∈ edgL (edgL [] a) b := by
    intro s hs hlt
    rw [hmem, hmem]
    rcases hs with hs | hs
    · exact ⟨.inl ⟨s, hs, hlt, .inl rfl⟩, .inl ⟨s, hs, hlt, .inr rfl⟩⟩
    · exact ⟨.inr ⟨s, hs, hlt, .inl rfl⟩, .inr ⟨s, hs, hlt, .inr rfl⟩⟩
  have hbd : ∀ x ∈ edgL (edgL [] a) b, 0 ≤ x ∧ x ≤ 73049 := by
    intro x hx
    rw [hmem] at hx
    rcases hx with ⟨s, _, h1, h2⟩ | ⟨s, _, h1, h2⟩ <;> simp only [cutS] at h1 h2 <;> omega
  have hin : ∀ (l : List Sp) x, dset l x = true ↔ ∃ s ∈ l, (cutS s).f ≤ x ∧ x < (cutS s).t := by
    intro l x
    rw [← cutL_cov, cov_iff]
    constructor
    · rintro ⟨s, hs, h⟩
      have hw := cutL_cov l x
      have : dset l x = true := by rw [← hw, cov_iff]; exact ⟨s, hs, h⟩
      unfold dset at this
      rw [Bool.and_eq_true, cov_iff] at this
      obtain ⟨h1, s', hs', h2⟩ := this
      rw [isD_iff] at h1
      exact ⟨s', hs', by simp only [cutS]; omega⟩
    · rintro ⟨s, hs, h⟩
      have : cov (cutL l) x = true := by
        rw [cutL_cov]
        unfold dset
        rw [Bool.and_eq_true, isD_iff, cov_iff]
        simp only [cutS] at h
        exact ⟨by omega, s, hs, by omega⟩
      rwa [cov_iff] at this
  have hcon : ∀ (l : List Sp) (_ : ∀ s ∈ l, s ∈ a ∨ s ∈ b) x y, (∀ p ∈ edgL (edgL [] a) b, p ≤ x ↔ p ≤ y) → dset l x = dset l y := by
    intro l hl x y hp
    rw [Bool.eq_iff_iff, hin, hin]
    constructor
    · rintro ⟨s, hs, h⟩
      obtain ⟨e1, e2⟩ := hends s (hl s hs) (by omega)
      have p1 := hp _ e1
      have p2 := hp _ e2
      exact ⟨s, hs, by omega⟩
    · rintro ⟨s, hs, h⟩
      obtain ⟨e1, e2⟩ := hends s (hl s hs) (by omega)
      have p1 := hp _ e1
      have p2 := hp _ e2
      exact ⟨s, hs, by omega⟩
  have hsteady := steady_of hsort (C := fun x => g (dset a x) (dset b x)) (fun x y h => by
    rw [hcon a (fun s hs => .inl hs) x y h, hcon b (fun s hs => .inr hs) x y h]) (edgL (edgL [] a) b) [] rfl
  have hout : ∀ x, g (dset a x) (dset b x) = true → ∃ e1 ∈ edgL (edgL [] a) b, ∃ e2 ∈ edgL (edgL [] a) b, e1 ≤ x ∧ x < e2 := by
    intro x hx
    have : dset a x = true ∨ dset b x = true := by
      cases h1 : dset a x with
      | true => exact .inl rfl
      | false =>
        cases h2 : dset b x with
        | true => exact .inr rfl
        | false => rw [h1, h2, hg] at hx; cases hx
    rcases this with h | h
    · obtain ⟨s, hs, h⟩ := (hin a x).1 h
      obtain ⟨e1, e2⟩ := hends s (.inl hs) (by omega)
      exact ⟨_, e1, _, e2, h⟩
    · obtain ⟨s, hs, h⟩ := (hin b x).1 h
      obtain ⟨e1, e2⟩ := hends s (.inr hs) (by omega)
      exact ⟨_, e1, _, e2, h⟩
  generalize edgL (edgL [] a) b = E at *
  match E, hsort, hbd, hsteady, hout with
  | [], _, _, _, hout =>
    refine nf_unique (m := []) trivial fun x _ => ?_
    cases hx : g (dset a x) (dset b x) with
    | false => rfl
    | true =>
      obtain ⟨_, h, _⟩ := hout x hx
      simp at h
  | e0 :: r, hsort, hbd, hsteady, hout =>
    obtain ⟨h1, h2⟩ := comb_ok _ r e0 [] hsort (hbd e0 (by simp)).1 (fun x hx => (hbd x hx).2) hsteady trivial (fun s hs => by simp at hs)
    refine nf_unique h1 fun x _ => ?_
    rw [h2 x, cov_nil, Bool.false_or]
    cases hx : g (dset a x) (dset b x) with
    | false => simp
    | true =>
      obtain ⟨p, hp, q, hq, h3, h4⟩ := hout x hx
      have hq2 := lastD_ge r e0 hsort q hq
      have hp2 : e0 ≤ p := by
        obtain ⟨p1, _⟩ := List.pairwise_cons.1 hsort
        rcases List.mem_cons.1 hp with rfl | hp
        · exact Int.le_refl _
        · have := p1 p hp; omega
      have e1 : decide (e0 ≤ x) = true := by simp; omega
      have e2 : decide (x < lastD e0 r) = true := by simp; omega
      rw [e1, e2]
      rfl
theorem combS_length (C : Int → Bool) : ∀ (e : List Int) (out : List Sp), (combS C e out).length ≤ out.length + e.length
  | [], out => Nat.le_refl _
  | [_], out => by simp [combS]
  | e0 :: e1 :: r, out => by
    have h := combS_length C (e1 :: r) (if C e0 = true then addS out e0 e1 else out)
    have hl : ∀ (l : List Sp) a b, (addS l a b).length ≤ l.length + 1 := by
      intro l
      induction l with
      | nil => intro a b; simp [addS]
      | cons s l ih =>
        intro a b
        cases l with
        | nil => unfold addS; split <;> simp
        | cons s' r =>
          have := ih a b
          show (s :: addS (s' :: r) a b).length ≤ _
          simp only [List.length_cons] at *
          omega
    have h2 := hl out e0 e1
    show (combS C (e1 :: r) (if C e0 = true then addS out e0 e1 else out)).length ≤ _
    simp only [List.length_cons] at *
    by_cases hc : C e0 = true
    · rw [if_pos hc] at h ⊢
      omega
    · rw [if_neg hc] at h ⊢
      omega
end Go.Proofs.YtghmmcdeejhcjaaGreat
