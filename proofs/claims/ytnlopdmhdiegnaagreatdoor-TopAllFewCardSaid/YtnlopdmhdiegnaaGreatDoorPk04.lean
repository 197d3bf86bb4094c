/- Lemmas (no conditions): Edges, Pieces, PcMem, Over -/
import Derived.Test.YtnlopdmhdiegnaaGreatDoorPk02
set_option linter.unusedSimpArgs false
set_option linter.unusedVariables false
set_option maxRecDepth 100000
set_option maxHeartbeats 64000000
namespace Go.Proofs.YtnlopdmhdiegnaaGreatDoor
open Go.RowKit
section
def edgS (out : List Int) (s : Sp) : List Int := if (cutS s).f < (cutS s).t then insS (insS out (cutS s).f) (cutS s).t else out
def edgL (out : List Int) (l : List Sp) : List Int := l.foldl edgS out
theorem edgS_sorted {out : List Int} (s : Sp) (h : out.Pairwise (· < ·)) : (edgS out s).Pairwise (· < ·) := by
 unfold edgS
 split
 ·exact sorted_insS _ (sorted_insS _ h)
 ·exact h
theorem edgL_sorted : ∀ (l : List Sp) {out : List Int}, out.Pairwise (· < ·) -> (edgL out l).Pairwise (· < ·)
 | [], _, h => h
 | s :: l, _, h => edgL_sorted l (edgS_sorted s h)
theorem mem_edgS (out : List Int) (s : Sp) (x : Int) : x ∈ edgS out s ↔ x ∈ out ∨ ((cutS s).f < (cutS s).t /\ (x = (cutS s).f ∨ x = (cutS s).t)) := by
 unfold edgS
 split
 ·rename_i h
  rw [mem_insS, mem_insS]
  simp only [h, true_and]
  constructor
  ·rintro (h | h | h) <;> simp [h]
  ·rintro (h | h | h) <;> simp [h]
 ·rename_i h
  simp [h]
theorem mem_edgL : ∀ (l : List Sp) (out : List Int) (x : Int), x ∈ edgL out l ↔ x ∈ out ∨ ∃ s ∈ l, (cutS s).f < (cutS s).t /\ (x = (cutS s).f ∨ x = (cutS s).t)
 | [], out, x => by simp [edgL]
 | s :: l, out, x => by
  show x ∈ edgL (edgS out s) l ↔ _
  rw [mem_edgL l, mem_edgS]
  simp only [List.mem_cons, exists_eq_or_imp, or_assoc]
theorem edgS_length (out : List Int) (s : Sp) : (edgS out s).length <= out.length + 2 := by
 unfold edgS
 split
 ·have h1 := length_insS out (cutS s).f
  have h2 := length_insS (insS out (cutS s).f) (cutS s).t
  omega
 ·omega
theorem edgL_length : ∀ (l : List Sp) (out : List Int), (edgL out l).length <= out.length + 2 * l.length
 | [], out => by simp [edgL]
 | s :: l, out => by
  have h1 := edgL_length l (edgS out s)
  have h2 := edgS_length out s
  show (edgL (edgS out s) l).length <= _
  simp only [List.length_cons]
  omega
def combS (C : Int -> Bool) : List Int -> List Sp -> List Sp
 | [], out => out
 | [_], out => out
 | e0 :: e1 :: r, out => combS C (e1 :: r) (if C e0 = true then addS out e0 e1 else out)
def Steady (C : Int -> Bool) : List Int -> Prop
 | [] => True
 | [_] => True
 | e0 :: e1 :: r => (∀ x, e0 <= x -> x < e1 -> C x = C e0) /\ Steady C (e1 :: r)
theorem steady_of {C : Int -> Bool} {E : List Int} (hE : E.Pairwise (· < ·)) (hC : ∀ x y, (∀ p ∈ E, p <= x ↔ p <= y) -> C x = C y) : ∀ (e pre : List Int), E = pre ++ e -> Steady C e
 | [], _, _ => trivial
 | [_], _, _ => trivial
 | e0 :: e1 :: r, pre, h => by
  refine ⟨fun x h0 h1 => hC x e0 fun p hp => ?_, steady_of hE hC (e1 :: r) (pre ++ [e0]) (by simp [h])⟩
  rw [h] at hp hE
  obtain ⟨p1, p2, p3⟩ := List.pairwise_append.1 hE
  obtain ⟨p4, p5⟩ := List.pairwise_cons.1 p2
  obtain ⟨p6, _⟩ := List.pairwise_cons.1 p5
  rcases List.mem_append.1 hp with hp | hp
  ·have := p3 p hp e0 (by simp)
   omega
  ·rcases List.mem_cons.1 hp with rfl | hp
   ·omega
   ·have q1 := p4 p hp
    have q2 : e1 <= p := by
     rcases List.mem_cons.1 hp with rfl | hp
     ·omega
     ·have := p6 p hp; omega
    omega
def lastD : Int -> List Int -> Int
 | d, [] => d
 | _, a :: r => lastD a r
theorem lastD_ge : ∀ (r : List Int) (d : Int), (d :: r).Pairwise (· < ·) -> ∀ x ∈ d :: r, x <= lastD d r
 | [], d, _, x, hx => by simp at hx; subst hx; exact Int.le_refl _
 | a :: r, d, h, x, hx => by
  obtain ⟨p1, p2⟩ := List.pairwise_cons.1 h
  have ih := lastD_ge r a p2
  rcases List.mem_cons.1 hx with rfl | hx
  ·have := p1 a (by simp)
   have := ih a (by simp)
   show x <= lastD a r
   omega
  ·exact ih x hx
theorem comb_ok (C : Int -> Bool) : ∀ (r : List Int) (e0 : Int) (out : List Sp), (e0 :: r).Pairwise (· < ·) -> 0 <= e0 -> (∀ x ∈ e0 :: r, x <= 73049) -> Steady C (e0 :: r) -> NormFrom (-1) out -> Upto out e0 →
  NormFrom (-1) (combS C (e0 :: r) out) /\ ∀ x, cov (combS C (e0 :: r) out) x = (cov out x || (decide (e0 <= x) && decide (x < lastD e0 r) && C x))
 | [], e0, out, _, _, _, _, hn, _ => ⟨hn, fun x => by
   have : (decide (e0 <= x) && decide (x < lastD e0 [])) = false := by
    show (decide (e0 <= x) && decide (x < e0)) = false
    by_cases h : e0 <= x
    ·have : ¬ x < e0 := by omega
     simp [this]
    ·simp [h]
   rw [this]
   simp [combS]⟩
 | e1 :: r, e0, out, hs, h0, hE, ⟨hc, hst⟩, hn, hu => by
  obtain ⟨p1, p2⟩ := List.pairwise_cons.1 hs
  have h01 : e0 < e1 := p1 e1 (by simp)
  have he1 : e1 <= 73049 := hE e1 (by simp)
  have hl : e1 <= lastD e1 r := lastD_ge r e1 p2 e1 (by simp)
  have key : ∀ out', NormFrom (-1) out' -> Upto out' e1 -> (∀ x, cov out' x = (cov out x || (inS ⟨e0, e1⟩ x && C x))) →
    NormFrom (-1) (combS C (e1 :: r) out') /\ ∀ x, cov (combS C (e1 :: r) out') x = (cov out x || (decide (e0 <= x) && decide (x < lastD e1 r) && C x)) := by
   intro out' n' u' c'
   obtain ⟨g1, g2⟩ := comb_ok C r e1 out' p2 (by omega) (fun x hx => hE x (by simp only [List.mem_cons] at hx ⊢; exact .inr hx)) hst n' u'
   refine ⟨g1, fun x => ?_⟩
   rw [g2 x, c' x, Bool.or_assoc]
   congr 1
   rw [<- Bool.and_or_distrib_right]
   congr 1
   rw [Bool.eq_iff_iff, Bool.or_eq_true, inS_iff, Bool.and_eq_true, Bool.and_eq_true, decide_eq_true_eq, decide_eq_true_eq, decide_eq_true_eq]
   simp only
   omega
  show NormFrom (-1) (combS C (e1 :: r) (if C e0 = true then addS out e0 e1 else out)) /\ ∀ x, cov (combS C (e1 :: r) (if C e0 = true then addS out e0 e1 else out)) x = (cov out x || (decide (e0 <= x) && decide (x < lastD e1 r) && C x))
  cases hce : C e0 with
  | true =>
   rw [if_pos rfl]
   refine key _ (addS_norm hn hu (by omega) h01 he1) (addS_upto hu (by omega)) fun x => ?_
   rw [addS_cov hn hu h01 x]
   cases hi : inS ⟨e0, e1⟩ x with
   | false => rfl
   | true =>
    have := (inS_iff ⟨e0, e1⟩ x).1 hi
    rw [hc x this.1 this.2, hce]
    rfl
  | false =>
   rw [if_neg (by simp)]
   refine key _ hn (fun s hx => by have := hu s hx; omega) fun x => ?_
   cases hi : inS ⟨e0, e1⟩ x with
   | false => simp
   | true =>
    have := (inS_iff ⟨e0, e1⟩ x).1 hi
    rw [hc x this.1 this.2, hce]
    simp
theorem comb_eq (g : Bool -> Bool -> Bool) (hg : g false false = false) (a b : List Sp) :
  combS (fun x => g (dset a x) (dset b x)) (edgL (edgL [] a) b) [] = nf fun x => g (dset a x) (dset b x) := by
 have hsort : (edgL (edgL [] a) b).Pairwise (· < ·) := edgL_sorted b (edgL_sorted a List.Pairwise.nil)
 have hmem : ∀ x, x ∈ edgL (edgL [] a) b ↔ (∃ s ∈ a, (cutS s).f < (cutS s).t /\ (x = (cutS s).f ∨ x = (cutS s).t)) ∨ ∃ s ∈ b, (cutS s).f < (cutS s).t /\ (x = (cutS s).f ∨ x = (cutS s).t) := by
  intro x
  rw [mem_edgL, mem_edgL]
  simp
 have hends : ∀ s : Sp, s ∈ a ∨ s ∈ b -> (cutS s).f < (cutS s).t -> (cutS s).f ∈ edgL (edgL [] a) b /\ (cutS s).t ∈ edgL (edgL [] a) b := by
  intro s hs hlt
  rw [hmem, hmem]
  rcases hs with hs | hs
  ·exact ⟨.inl ⟨s, hs, hlt, .inl rfl⟩, .inl ⟨s, hs, hlt, .inr rfl⟩⟩
  ·exact ⟨.inr ⟨s, hs, hlt, .inl rfl⟩, .inr ⟨s, hs, hlt, .inr rfl⟩⟩
 have hbd : ∀ x ∈ edgL (edgL [] a) b, 0 <= x /\ x <= 73049 := by
  intro x hx
  rw [hmem] at hx
  rcases hx with ⟨s, _, h1, h2⟩ | ⟨s, _, h1, h2⟩ <;> simp only [cutS] at h1 h2 <;> omega
 have hin : ∀ (l : List Sp) x, dset l x = true ↔ ∃ s ∈ l, (cutS s).f <= x /\ x < (cutS s).t := by
  intro l x
  rw [<- cutL_cov, cov_iff]
  constructor
  ·rintro ⟨s, hs, h⟩
   have hw := cutL_cov l x
   have : dset l x = true := by rw [<- hw, cov_iff]; exact ⟨s, hs, h⟩
   unfold dset at this
   rw [Bool.and_eq_true, cov_iff] at this
   obtain ⟨h1, s', hs', h2⟩ := this
   rw [isD_iff] at h1
   exact ⟨s', hs', by simp only [cutS]; omega⟩
  ·rintro ⟨s, hs, h⟩
   have : cov (cutL l) x = true := by
    rw [cutL_cov]
    unfold dset
    rw [Bool.and_eq_true, isD_iff, cov_iff]
    simp only [cutS] at h
    exact ⟨by omega, s, hs, by omega⟩
   rwa [cov_iff] at this
 have hcon : ∀ (l : List Sp) (_ : ∀ s ∈ l, s ∈ a ∨ s ∈ b) x y, (∀ p ∈ edgL (edgL [] a) b, p <= x ↔ p <= y) -> dset l x = dset l y := by
  intro l hl x y hp
  rw [Bool.eq_iff_iff, hin, hin]
  constructor
  ·rintro ⟨s, hs, h⟩
   obtain ⟨e1, e2⟩ := hends s (hl s hs) (by omega)
   have p1 := hp _ e1
   have p2 := hp _ e2
   exact ⟨s, hs, by omega⟩
  ·rintro ⟨s, hs, h⟩
   obtain ⟨e1, e2⟩ := hends s (hl s hs) (by omega)
   have p1 := hp _ e1
   have p2 := hp _ e2
   exact ⟨s, hs, by omega⟩
 have hsteady := steady_of hsort (C := fun x => g (dset a x) (dset b x)) (fun x y h => by
  rw [hcon a (fun s hs => .inl hs) x y h, hcon b (fun s hs => .inr hs) x y h]) (edgL (edgL [] a) b) [] rfl
 have hout : ∀ x, g (dset a x) (dset b x) = true -> ∃ e1 ∈ edgL (edgL [] a) b, ∃ e2 ∈ edgL (edgL [] a) b, e1 <= x /\ x < e2 := by
  intro x hx
  have : dset a x = true ∨ dset b x = true := by
   cases h1 : dset a x with
   | true => exact .inl rfl
   | false =>
    cases h2 : dset b x with
    | true => exact .inr rfl
    | false => rw [h1, h2, hg] at hx; cases hx
  rcases this with h | h
  ·obtain ⟨s, hs, h⟩ := (hin a x).1 h
   obtain ⟨e1, e2⟩ := hends s (.inl hs) (by omega)
   exact ⟨_, e1, _, e2, h⟩
  ·obtain ⟨s, hs, h⟩ := (hin b x).1 h
   obtain ⟨e1, e2⟩ := hends s (.inr hs) (by omega)
   exact ⟨_, e1, _, e2, h⟩
 generalize edgL (edgL [] a) b = E at *
 match E, hsort, hbd, hsteady, hout with
 | [], _, _, _, hout =>
  refine nf_unique (m := []) trivial fun x _ => ?_
  cases hx : g (dset a x) (dset b x) with
  | false => rfl
  | true =>
   obtain ⟨_, h, _⟩ := hout x hx
   simp at h
 | e0 :: r, hsort, hbd, hsteady, hout =>
  obtain ⟨h1, h2⟩ := comb_ok _ r e0 [] hsort (hbd e0 (by simp)).1 (fun x hx => (hbd x hx).2) hsteady trivial (fun s hs => by simp at hs)
  refine nf_unique h1 fun x _ => ?_
  rw [h2 x, cov_nil, Bool.false_or]
  cases hx : g (dset a x) (dset b x) with
  | false => simp
  | true =>
   obtain ⟨p, hp, q, hq, h3, h4⟩ := hout x hx
   have hq2 := lastD_ge r e0 hsort q hq
   have hp2 : e0 <= p := by
    obtain ⟨p1, _⟩ := List.pairwise_cons.1 hsort
    rcases List.mem_cons.1 hp with rfl | hp
    ·exact Int.le_refl _
    ·have := p1 p hp; omega
   have e1 : decide (e0 <= x) = true := by simp; omega
   have e2 : decide (x < lastD e0 r) = true := by simp; omega
   rw [e1, e2]
   rfl
theorem combS_length (C : Int -> Bool) : ∀ (e : List Int) (out : List Sp), (combS C e out).length <= out.length + e.length
 | [], out => Nat.le_refl _
 | [_], out => by simp [combS]
 | e0 :: e1 :: r, out => by
  have h := combS_length C (e1 :: r) (if C e0 = true then addS out e0 e1 else out)
  have hl : ∀ (l : List Sp) a b, (addS l a b).length <= l.length + 1 := by
   intro l
   induction l with
   | nil => intro a b; simp [addS]
   | cons s l ih =>
    intro a b
    cases l with
    | nil => unfold addS; split <;> simp
    | cons s' r =>
     have := ih a b
     show (s :: addS (s' :: r) a b).length <= _
     simp only [List.length_cons] at *
     omega
  have h2 := hl out e0 e1
  show (combS C (e1 :: r) (if C e0 = true then addS out e0 e1 else out)).length <= _
  simp only [List.length_cons] at *
  by_cases hc : C e0 = true
  ·rw [if_pos hc] at h ⊢
   omega
  ·rw [if_neg hc] at h ⊢
   omega
end
section
structure Pc where
 f : Int
 t : Int
 m : List Int
def valP : List Pc -> Int -> List Int
 | [], _ => []
 | p :: r, x => if p.f <= x /\ x < p.t then p.m else valP r x
def PN : Int -> List Int -> List Pc -> Prop
 | _, _, [] => True
 | lo, pm, p :: r => lo <= p.f /\ (lo = p.f -> pm ≠ p.m) /\ p.f < p.t /\ p.m ≠ [] /\ PN p.t p.m r
theorem valP_low : ∀ {l : List Pc} {lo x : Int} {pm : List Int}, PN lo pm l -> x < lo -> valP l x = []
 | [], _, _, _, _, _ => rfl
 | p :: r, lo, x, pm, ⟨h1, _, h3, _, h5⟩, hx => by
  unfold valP
  rw [if_neg (by omega), valP_low h5 (by omega)]
theorem valP_at {l : List Pc} {lo : Int} {pm : List Int} (h : PN lo pm l) (hm : pm ≠ []) : valP l lo ≠ pm := by
 cases l with
 | nil => exact fun e => hm e.symm
 | cons p r =>
  obtain ⟨h1, h2, h3, h4, h5⟩ := h
  unfold valP
  by_cases hf : lo = p.f
  ·rw [if_pos (by omega)]
   exact fun e => h2 hf e.symm
  ·rw [if_neg (by omega), valP_low h5 (by omega)]
   exact fun e => hm e.symm
theorem pn_ext : ∀ {a b : List Pc} {lo : Int} {pm : List Int}, PN lo pm a -> PN lo pm b -> (∀ x, valP a x = valP b x) -> a = b
 | [], [], _, _, _, _, _ => rfl
 | [], p :: r, _, _, _, ⟨_, _, h3, h4, _⟩, h => by
  have := h p.f
  unfold valP at this
  rw [if_pos (by omega)] at this
  exact absurd this.symm h4
 | p :: r, [], _, _, ⟨_, _, h3, h4, _⟩, _, h => by
  have := h p.f
  unfold valP at this
  rw [if_pos (by omega)] at this
  exact absurd this h4
 | s :: r, p :: q, lo, pm, ⟨a1, a2, a3, a4, a5⟩, ⟨b1, b2, b3, b4, b5⟩, h => by
  have hs : ∀ x, valP (s :: r) x = if s.f <= x /\ x < s.t then s.m else valP r x := fun _ => rfl
  have hp : ∀ x, valP (p :: q) x = if p.f <= x /\ x < p.t then p.m else valP q x := fun _ => rfl
  have hf : s.f = p.f := by
   rcases Int.lt_trichotomy s.f p.f with hl | hl | hl
   ·have := h s.f
    rw [hs, hp, if_pos (by omega), if_neg (by omega), valP_low b5 (by omega)] at this
    exact absurd this a4
   ·exact hl
   ·have := h p.f
    rw [hs, hp, if_neg (by omega), if_pos (by omega), valP_low a5 (by omega)] at this
    exact absurd this.symm b4
  have hm : s.m = p.m := by
   have := h s.f
   rw [hs, hp, if_pos (by omega), if_pos (by omega)] at this
   exact this
  have ht : s.t = p.t := by
   rcases Int.lt_trichotomy s.t p.t with hl | hl | hl
   ·have := h s.t
    rw [hs, hp, if_neg (by omega), if_pos (by omega), <- hm] at this
    exact absurd this (valP_at a5 a4)
   ·exact hl
   ·have := h p.t
    rw [hs, hp, if_pos (by omega), if_neg (by omega), hm] at this
    exact absurd this.symm (valP_at b5 b4)
  have e : s = p := by
   cases s
   cases p
   simp only at hf hm ht
   rw [hf, hm, ht]
  subst e
  congr 1
  refine pn_ext a5 b5 fun x => ?_
  have hx := h x
  rw [hs, hp] at hx
  by_cases hc : s.f <= x /\ x < s.t
  ·rw [valP_low a5 (by omega), valP_low b5 (by omega)]
  ·rw [if_neg hc, if_neg hc] at hx
   exact hx
def addP : List Pc -> Int -> Int -> List Int -> List Pc
 | [], a, b, m => if m = [] then [] else [⟨a, b, m⟩]
 | [p], a, b, m => if m = [] then [p] else if p.t = a /\ p.m = m then [⟨p.f, b, m⟩] else [p, ⟨a, b, m⟩]
 | p :: p' :: r, a, b, m => p :: addP (p' :: r) a b m
theorem addP_snoc : ∀ (l : List Pc) (p : Pc) (a b : Int) (m : List Int), addP (l ++ [p]) a b m = if m = [] then l ++ [p] else if p.t = a /\ p.m = m then l ++ [⟨p.f, b, m⟩] else l ++ [p, ⟨a, b, m⟩]
 | [], p, a, b, m => rfl
 | [s], p, a, b, m => by
  show s :: addP [p] a b m = _
  unfold addP
  split
  ·rfl
  ·split <;> rfl
 | s :: s' :: r, p, a, b, m => by
  show s :: addP ((s' :: r) ++ [p]) a b m = _
  rw [addP_snoc (s' :: r) p a b m]
  split
  ·rfl
  ·split <;> rfl
theorem addP_nil (l : List Pc) (a b : Int) : addP l a b [] = l := by
 rcases List.eq_nil_or_concat l with rfl | ⟨l', p, rfl⟩
 ·rfl
 ·rw [List.concat_eq_append, addP_snoc, if_pos rfl]
theorem addP_length : ∀ (l : List Pc) (a b : Int) (m : List Int), (addP l a b m).length <= l.length + 1
 | [], a, b, m => by unfold addP; split <;> simp
 | [p], a, b, m => by
  unfold addP
  split
  ·simp
  ·split <;> simp
 | p :: p' :: r, a, b, m => by
  have := addP_length (p' :: r) a b m
  show (p :: addP (p' :: r) a b m).length <= _
  simp only [List.length_cons] at *
  omega
def UptoP (l : List Pc) (k : Int) : Prop := ∀ p ∈ l, p.t <= k
theorem addP_upto : ∀ {l : List Pc} {a b : Int} {m : List Int}, UptoP l a -> a <= b -> UptoP (addP l a b m) b
 | [], a, b, m, _, _ => by
  intro p hp
  unfold addP at hp
  split at hp
  ·simp at hp
  ·simp at hp; subst hp; exact Int.le_refl _
 | [p], a, b, m, hu, h => by
  have h1 := hu p (by simp)
  intro q hq
  unfold addP at hq
  split at hq
  ·simp at hq; subst hq; omega
  ·split at hq
   ·simp at hq; subst hq; exact Int.le_refl _
   ·simp at hq
    rcases hq with rfl | rfl
    ·omega
    ·exact Int.le_refl _
 | p :: p' :: r, a, b, m, hu, h => by
  have h1 := hu p (by simp)
  intro q hq
  rcases List.mem_cons.1 (show q ∈ p :: addP (p' :: r) a b m from hq) with rfl | hq
  ·omega
  ·exact addP_upto (fun y hy => hu y (by simp [hy])) h q hq
theorem addP_pn : ∀ {l : List Pc} {lo a b : Int} {pm m : List Int}, PN lo pm l -> UptoP l a -> lo <= a -> (lo = a -> pm = [] ∨ l ≠ []) -> a < b -> PN lo pm (addP l a b m)
 | [], lo, a, b, pm, m, _, _, h1, h2, h3 => by
  unfold addP
  split
  ·trivial
  ·rename_i hm
   refine ⟨h1, fun e => ?_, h3, hm, trivial⟩
   rcases h2 e with h | h
   ·rw [h]; exact fun e => hm e.symm
   ·exact absurd rfl h
 | [p], lo, a, b, pm, m, ⟨n1, n2, n3, n4, _⟩, hu, h1, _, h3 => by
  have hp := hu p (by simp)
  unfold addP
  split
  ·exact ⟨n1, n2, n3, n4, trivial⟩
  ·rename_i hm
   split
   ·rename_i he
    exact ⟨n1, fun e => by show pm ≠ m; rw [<- he.2]; exact n2 e, by show p.f < b; omega, hm, trivial⟩
   ·rename_i he
    refine ⟨n1, n2, n3, n4, by show p.t <= a; omega, fun e => ?_, h3, hm, trivial⟩
    show p.m ≠ m
    exact fun e2 => he ⟨e, e2⟩
 | p :: p' :: r, lo, a, b, pm, m, ⟨n1, n2, n3, n4, n5⟩, hu, h1, _, h3 =>
  ⟨n1, n2, n3, n4, addP_pn n5 (fun y hy => hu y (by simp [hy])) (hu p (by simp)) (fun _ => .inr (by simp)) h3⟩
theorem addP_val : ∀ {l : List Pc} {a b : Int} {m : List Int}, (∀ p ∈ l, p.f < p.t) -> UptoP l a -> a < b -> ∀ x, valP (addP l a b m) x = if a <= x /\ x < b then m else valP l x
 | [], a, b, m, _, _, _, x => by
  unfold addP
  split
  ·rename_i hm
   rw [hm]
   simp [valP]
  ·rfl
 | [p], a, b, m, hf, hu, h, x => by
  have hp := hu p (by simp)
  have hpf := hf p (by simp)
  have e1 : ∀ q : Pc, valP [q] x = if q.f <= x /\ x < q.t then q.m else [] := fun _ => rfl
  have e2 : ∀ q q' : Pc, valP [q, q'] x = if q.f <= x /\ x < q.t then q.m else if q'.f <= x /\ x < q'.t then q'.m else [] := fun _ _ => rfl
  unfold addP
  split
  ·rename_i hm
   rw [e1, hm]
   by_cases hc : a <= x /\ x < b
   ·rw [if_pos hc, if_neg (by omega)]
   ·rw [if_neg hc]
  ·split
   ·rename_i he
    rw [e1, e1]
    simp only
    by_cases hc : a <= x /\ x < b
    ·rw [if_pos hc, if_pos (by omega)]
    ·rw [if_neg hc]
     by_cases hd : p.f <= x /\ x < p.t
     ·rw [if_pos hd, if_pos (by omega), he.2]
     ·rw [if_neg hd, if_neg (by omega)]
   ·rw [e2, e1]
    simp only
    by_cases hd : p.f <= x /\ x < p.t
    ·rw [if_pos hd, if_neg (by omega), if_pos hd]
    ·rw [if_neg hd, if_neg hd]
 | p :: p' :: r, a, b, m, hf, hu, h, x => by
  have hp := hu p (by simp)
  have ih := addP_val (l := p' :: r) (a := a) (b := b) (m := m) (fun y hy => hf y (by simp [hy])) (fun y hy => hu y (by simp [hy])) h x
  show (if p.f <= x /\ x < p.t then p.m else valP (addP (p' :: r) a b m) x) = if a <= x /\ x < b then m else if p.f <= x /\ x < p.t then p.m else valP (p' :: r) x
  rw [ih]
  by_cases hd : p.f <= x /\ x < p.t
  ·rw [if_pos hd, if_neg (by omega), if_pos hd]
  ·rw [if_neg hd, if_neg hd]
theorem pn_ft : ∀ {l : List Pc} {lo : Int} {pm : List Int}, PN lo pm l -> ∀ p ∈ l, p.f < p.t
 | [], _, _, _, p, hp => by simp at hp
 | q :: r, _, _, ⟨_, _, h3, _, h5⟩, p, hp => by
  rcases List.mem_cons.1 hp with rfl | hp
  ·exact h3
  ·exact pn_ft h5 p hp
def pcs (mem : Int -> List Int) : List Int -> List Pc -> List Pc
 | a :: b :: r, O => pcs mem (b :: r) (addP O a b (mem a))
 | _, O => O
theorem pcs_length (mem : Int -> List Int) : ∀ (e : List Int) (O : List Pc), (pcs mem e O).length <= O.length + e.length
 | [], O => by unfold pcs; omega
 | [a], O => by unfold pcs; simp
 | a :: b :: r, O => by
  have h1 := pcs_length mem (b :: r) (addP O a b (mem a))
  have h2 := addP_length O a b (mem a)
  show (pcs mem (b :: r) (addP O a b (mem a))).length <= _
  simp only [List.length_cons] at *
  omega
def SteadyM (mem : Int -> List Int) : List Int -> Prop
 | a :: b :: r => (∀ x, a <= x -> x < b -> mem x = mem a) /\ SteadyM mem (b :: r)
 | _ => True
theorem steadyM_of {mem : Int -> List Int} {E : List Int} (hE : E.Pairwise (· < ·)) (hM : ∀ x y, (∀ p ∈ E, p <= x ↔ p <= y) -> mem x = mem y) : ∀ (e pre : List Int), E = pre ++ e -> SteadyM mem e
 | [], _, _ => trivial
 | [a], _, _ => trivial
 | a :: b :: r, pre, he => by
  refine ⟨fun x hx hxb => hM x a fun p hp => ?_, steadyM_of hE hM (b :: r) (pre ++ [a]) (by rw [he]; simp)⟩
  rw [he] at hE hp
  have hs := List.pairwise_append.1 hE
  rcases List.mem_append.1 hp with hp | hp
  ·have := hs.2.2 p hp a (by simp)
   omega
  ·have h2 := List.pairwise_cons.1 hs.2.1
   rcases List.mem_cons.1 hp with rfl | hp
   ·omega
   ·have h3 := List.pairwise_cons.1 h2.2
    have h4 : b <= p := by
     rcases List.mem_cons.1 hp with rfl | hp
     ·exact Int.le_refl _
     ·have := h3.1 p hp; omega
    have h5 := h2.1 p hp
    omega
theorem pcs_ok {mem : Int -> List Int} {lo : Int} : ∀ (r : List Int) (e : Int) (O : List Pc), (e :: r).Pairwise (· < ·) -> lo <= e -> SteadyM mem (e :: r) -> PN lo [] O -> UptoP O e -> (∀ x, valP O x = if x < e then mem x else []) →
  PN lo [] (pcs mem (e :: r) O) /\ ∀ x, valP (pcs mem (e :: r) O) x = if x < lastD e r then mem x else []
 | [], e, O, _, _, _, hn, _, hv => ⟨hn, hv⟩
 | b :: r, e, O, hp, hlo, ⟨hs1, hs2⟩, hn, hu, hv => by
  have hp2 := List.pairwise_cons.1 hp
  have hlt : e < b := hp2.1 b (by simp)
  have h1 := addP_pn (m := mem e) hn hu hlo (fun _ => .inl rfl) hlt
  have h2 := addP_upto (m := mem e) hu (Int.le_of_lt hlt)
  have h3 := addP_val (m := mem e) (pn_ft hn) hu hlt
  obtain ⟨i1, i2⟩ := pcs_ok r b (addP O e b (mem e)) hp2.2 (by omega) hs2 h1 h2 fun x => by
   rw [h3 x, hv x]
   by_cases hc : e <= x /\ x < b
   ·rw [if_pos hc, if_pos hc.2, hs1 x hc.1 hc.2]
   ·rw [if_neg hc]
    by_cases hd : x < e
    ·rw [if_pos hd, if_pos (by omega)]
    ·rw [if_neg hd, if_neg (by omega)]
  exact ⟨i1, i2⟩
theorem pcs_main {mem : Int -> List Int} {E : List Int} (hE : E.Pairwise (· < ·)) (h0 : ∀ p ∈ E, 0 <= p) (hM : ∀ x y, (∀ p ∈ E, p <= x ↔ p <= y) -> mem x = mem y) (hn : ∀ x, x < 0 -> mem x = []) (hh : ∀ x, (∀ p ∈ E, p <= x) -> mem x = []) :
  PN 0 [] (pcs mem E []) /\ ∀ x, valP (pcs mem E []) x = mem x := by
 cases E with
 | nil => exact ⟨trivial, fun x => (hh x fun p hp => by simp at hp).symm⟩
 | cons e r =>
  have hp2 := List.pairwise_cons.1 hE
  have hlow : ∀ x, x < e -> mem x = [] := fun x hx => by
   rw [hM x (-1) fun p hp => ?_]
   ·exact hn (-1) (by omega)
   ·have h1 := h0 p hp
    have h2 : e <= p := by
     rcases List.mem_cons.1 hp with rfl | hp
     ·exact Int.le_refl _
     ·have := hp2.1 p hp; omega
    omega
  obtain ⟨i1, i2⟩ := pcs_ok (lo := 0) r e [] hE (h0 e (by simp)) (steadyM_of hE hM (e :: r) [] rfl) trivial (fun p hp => by simp at hp) fun x => by
   by_cases hx : x < e
   ·rw [if_pos hx, hlow x hx]
    rfl
   ·rw [if_neg hx]
    rfl
  refine ⟨i1, fun x => ?_⟩
  rw [i2 x]
  by_cases hx : x < lastD e r
  ·rw [if_pos hx]
  ·rw [if_neg hx]
   exact (hh x fun p hp => by have := lastD_ge r e hE p hp; omega).symm
theorem pcs_same {mem : Int -> List Int} {E F : List Int} (hE : E.Pairwise (· < ·)) (h0 : ∀ p ∈ E, 0 <= p) (hM : ∀ x y, (∀ p ∈ E, p <= x ↔ p <= y) -> mem x = mem y) (hh : ∀ x, (∀ p ∈ E, p <= x) -> mem x = [])
  (hF : F.Pairwise (· < ·)) (g0 : ∀ p ∈ F, 0 <= p) (gM : ∀ x y, (∀ p ∈ F, p <= x ↔ p <= y) -> mem x = mem y) (gh : ∀ x, (∀ p ∈ F, p <= x) -> mem x = []) (hn : ∀ x, x < 0 -> mem x = []) : pcs mem E [] = pcs mem F [] := by
 obtain ⟨a1, a2⟩ := pcs_main hE h0 hM hn hh
 obtain ⟨b1, b2⟩ := pcs_main hF g0 gM hn gh
 exact pn_ext a1 b1 fun x => by rw [a2 x, b2 x]
theorem pn_one : ∀ {l : List Pc} {lo : Int} {pm : List Int} {x : Int}, PN lo pm l →
  (valP l x = [] /\ (l.filter fun p => decide (p.f <= x /\ x < p.t)) = []) ∨ ∃ p, (l.filter fun p => decide (p.f <= x /\ x < p.t)) = [p] /\ p.m = valP l x /\ p.m ≠ []
 | [], _, _, _, _ => .inl ⟨rfl, rfl⟩
 | p :: r, lo, pm, x, ⟨h1, h2, h3, h4, h5⟩ => by
  by_cases hc : p.f <= x /\ x < p.t
  ·have hno : (r.filter fun p => decide (p.f <= x /\ x < p.t)) = [] := by
    rcases pn_one (x := x) h5 with ⟨_, h⟩ | ⟨q, _, hq1, hq2⟩
    ·exact h
    ·rw [valP_low h5 hc.2] at hq1
     exact absurd hq1 hq2
   refine .inr ⟨p, ?_, ?_, h4⟩
   ·rw [List.filter_cons, if_pos (by simpa using hc), hno]
   ·unfold valP
    rw [if_pos hc]
  ·have e1 : valP (p :: r) x = valP r x := by
    show (if p.f <= x /\ x < p.t then p.m else valP r x) = _
    rw [if_neg hc]
   have e2 : ((p :: r).filter fun p => decide (p.f <= x /\ x < p.t)) = r.filter fun p => decide (p.f <= x /\ x < p.t) := by
    rw [List.filter_cons, if_neg (by simpa using hc)]
   rw [e1, e2]
   exact pn_one h5
end
section
def memI : Nat -> List (List Sp) -> Int -> List Int
 | _, [], _ => []
 | i, l :: r, x => if dset l x = true then (i : Int) :: memI (i + 1) r x else memI (i + 1) r x
def memL (ls : List (List Sp)) (x : Int) : List Int := memI 0 ls x
theorem memI_snoc : ∀ (r : List (List Sp)) (i : Nat) (l : List Sp) (x : Int), memI i (r ++ [l]) x = memI i r x ++ if dset l x = true then [((i + r.length : Nat) : Int)] else []
 | [], i, l, x => by
  show (if dset l x = true then (i : Int) :: [] else []) = _
  split <;> simp [memI]
 | q :: r, i, l, x => by
  have ih := memI_snoc r (i + 1) l x
  show (if dset q x = true then (i : Int) :: memI (i + 1) (r ++ [l]) x else memI (i + 1) (r ++ [l]) x) = (if dset q x = true then (i : Int) :: memI (i + 1) r x else memI (i + 1) r x) ++ _
  rw [ih, List.length_cons, show i + (r.length + 1) = i + 1 + r.length by omega]
  split <;> rfl
theorem memL_take {ls : List (List Sp)} {k : Nat} {l : List Sp} (h : ls[k]? = some l) (x : Int) : memL (ls.take (k + 1)) x = memL (ls.take k) x ++ if dset l x = true then [(k : Int)] else [] := by
 have hk : k < ls.length := (List.getElem?_eq_some_iff.1 h).1
 rw [List.take_add_one, h]
 unfold memL
 rw [Option.toList_some, memI_snoc, List.length_take, Nat.zero_add, Nat.min_eq_left (by omega)]
theorem memI_congr : ∀ (r : List (List Sp)) (i : Nat) (x y : Int), (∀ l ∈ r, dset l x = dset l y) -> memI i r x = memI i r y
 | [], _, _, _, _ => rfl
 | q :: r, i, x, y, h => by
  have ih := memI_congr r (i + 1) x y fun l hl => h l (by simp [hl])
  have h0 := h q (by simp)
  show (if dset q x = true then (i : Int) :: memI (i + 1) r x else memI (i + 1) r x) = if dset q y = true then (i : Int) :: memI (i + 1) r y else memI (i + 1) r y
  rw [h0, ih]
theorem memI_none : ∀ (r : List (List Sp)) (i : Nat) (x : Int), (∀ l ∈ r, dset l x = false) -> memI i r x = []
 | [], _, _, _ => rfl
 | q :: r, i, x, h => by
  have ih := memI_none r (i + 1) x fun l hl => h l (by simp [hl])
  have h0 := h q (by simp)
  show (if dset q x = true then (i : Int) :: memI (i + 1) r x else memI (i + 1) r x) = _
  rw [h0, ih]
  simp
theorem memL_neg (ls : List (List Sp)) {x : Int} (h : x < 0) : memL ls x = [] := memI_none ls 0 x fun l _ => by
 unfold dset
 rw [show isD x = false by rw [Bool.eq_false_iff]; intro e; have := (isD_iff x).1 e; omega]
 rfl
theorem cov_cuts {m : List Sp} {E : List Int} (hE : ∀ s ∈ m, s.f ∈ E /\ s.t ∈ E) {x y : Int} (h : ∀ p ∈ E, p <= x ↔ p <= y) : cov m x = cov m y := by
 rw [Bool.eq_iff_iff, cov_iff, cov_iff]
 constructor
 ·rintro ⟨s, hs, h1, h2⟩
  have e1 := h s.f (hE s hs).1
  have e2 := h s.t (hE s hs).2
  exact ⟨s, hs, by omega, by omega⟩
 ·rintro ⟨s, hs, h1, h2⟩
  have e1 := h s.f (hE s hs).1
  have e2 := h s.t (hE s hs).2
  exact ⟨s, hs, by omega, by omega⟩
theorem cov_behind {m : List Sp} {E : List Int} (hE : ∀ s ∈ m, s.f ∈ E /\ s.t ∈ E) {x : Int} (h : ∀ p ∈ E, p <= x) : cov m x = false := by
 rw [Bool.eq_false_iff]
 intro e
 obtain ⟨s, hs, h1, h2⟩ := (cov_iff m x).1 e
 have := h s.t (hE s hs).2
 omega
theorem cuts_serve {ls : List (List Sp)} {E : List Int} (g : List Sp -> List Sp) (hg : ∀ l x, cov (g l) x = dset l x) (hE : ∀ l ∈ ls, ∀ s ∈ g l, s.f ∈ E /\ s.t ∈ E) :
  (∀ x y, (∀ p ∈ E, p <= x ↔ p <= y) -> memL ls x = memL ls y) /\ ∀ x, (∀ p ∈ E, p <= x) -> memL ls x = [] := by
 refine ⟨fun x y h => memI_congr ls 0 x y fun l hl => ?_, fun x h => memI_none ls 0 x fun l hl => ?_⟩
 ·rw [<- hg l x, <- hg l y]
  exact cov_cuts (hE l hl) h
 ·rw [<- hg l x]
  exact cov_behind (hE l hl) h
theorem nf_cover (l : List Sp) (x : Int) : cov (nf (dset l)) x = dset l x := by rw [nf_cov, dset_isD]
def endsL (m : List Sp) : List Int := m.flatMap fun s => [s.f, s.t]
theorem endsL_snoc (m : List Sp) (s : Sp) : endsL (m ++ [s]) = endsL m ++ [s.f, s.t] := by simp [endsL]
theorem mem_endsL (m : List Sp) (x : Int) : x ∈ endsL m ↔ ∃ s ∈ m, x = s.f ∨ x = s.t := by simp [endsL]
theorem endsL_length (m : List Sp) : (endsL m).length = 2 * m.length := by
 induction m with
 | nil => rfl
 | cons s r ih => simp only [endsL, List.flatMap_cons, List.length_append, List.length_cons, List.length_nil] at *; omega
theorem norm_mem : ∀ {m : List Sp} {lo : Int}, NormFrom lo m -> ∀ s ∈ m, lo < s.f /\ s.f < s.t /\ s.t <= 73049
 | [], _, _, s, hs => by simp at hs
 | q :: r, lo, ⟨h1, h2, h3, h4⟩, s, hs => by
  rcases List.mem_cons.1 hs with rfl | hs
  ·exact ⟨h1, h2, h3⟩
  ·have := norm_mem h4 s hs
   omega
def Cuts (ls : List (List Sp)) (E : List Int) : Prop := E.Pairwise (· < ·) /\ (∀ p ∈ E, 0 <= p /\ p <= 73049) /\ (∀ x y, (∀ p ∈ E, p <= x ↔ p <= y) -> memL ls x = memL ls y) /\ ∀ x, (∀ p ∈ E, p <= x) -> memL ls x = []
theorem cuts_nf {ls : List (List Sp)} {E : List Int} (hs : E.Pairwise (· < ·)) (hm : ∀ x, x ∈ E ↔ x ∈ ls.flatMap fun l => endsL (nf (dset l))) : Cuts ls E := by
 have hE : ∀ l ∈ ls, ∀ s ∈ nf (dset l), s.f ∈ E /\ s.t ∈ E := fun l hl s h => by
  rw [hm, hm, List.mem_flatMap, List.mem_flatMap]
  exact ⟨⟨l, hl, (mem_endsL _ _).2 ⟨s, h, .inl rfl⟩⟩, ⟨l, hl, (mem_endsL _ _).2 ⟨s, h, .inr rfl⟩⟩⟩
 obtain ⟨h1, h2⟩ := cuts_serve (fun l => nf (dset l)) nf_cover hE
 refine ⟨hs, fun p hp => ?_, h1, h2⟩
 obtain ⟨l, _, hp2⟩ := List.mem_flatMap.1 ((hm p).1 hp)
 obtain ⟨s, h, e⟩ := (mem_endsL _ _).1 hp2
 have := norm_mem (nf_norm (dset l)) s h
 rcases e with rfl | rfl <;> omega
theorem mem_cutL : ∀ (l : List Sp) (q : Sp), q ∈ cutL l ↔ ∃ s ∈ l, (cutS s).f < (cutS s).t /\ q = cutS s
 | [], q => by simp [cutL]
 | s :: r, q => by
  have ih := mem_cutL r q
  unfold cutL
  split
  ·rename_i h
   simp only [List.mem_cons, ih, exists_eq_or_imp, h, true_and]
  ·rename_i h
   simp only [List.mem_cons, ih, exists_eq_or_imp, h, false_and, false_or]
theorem cuts_edg {ls : List (List Sp)} {E : List Int} (hs : E.Pairwise (· < ·)) (hm : ∀ x, x ∈ E ↔ ∃ l ∈ ls, ∃ s ∈ l, (cutS s).f < (cutS s).t /\ (x = (cutS s).f ∨ x = (cutS s).t)) : Cuts ls E := by
 have hE : ∀ l ∈ ls, ∀ s ∈ cutL l, s.f ∈ E /\ s.t ∈ E := fun l hl q h => by
  obtain ⟨s, hs2, hlt, rfl⟩ := (mem_cutL l q).1 h
  rw [hm, hm]
  exact ⟨⟨l, hl, s, hs2, hlt, .inl rfl⟩, ⟨l, hl, s, hs2, hlt, .inr rfl⟩⟩
 obtain ⟨h1, h2⟩ := cuts_serve cutL (fun l x => cutL_cov l x) hE
 refine ⟨hs, fun p hp => ?_, h1, h2⟩
 obtain ⟨l, _, s, _, hlt, e⟩ := (hm p).1 hp
 simp only [cutS] at hlt e
 rcases e with rfl | rfl <;> omega
theorem valP_mem : ∀ {P : List Pc} {lo : Int} {pm : List Int}, PN lo pm P -> ∀ p ∈ P, ∀ x, p.f <= x -> x < p.t -> valP P x = p.m
 | [], _, _, _, p, hp, _, _, _ => by simp at hp
 | q :: r, lo, pm, ⟨h1, h2, h3, h4, h5⟩, p, hp, x, hx, hy => by
  show (if q.f <= x /\ x < q.t then q.m else valP r x) = p.m
  rcases List.mem_cons.1 hp with rfl | hp
  ·rw [if_pos ⟨hx, hy⟩]
  ·have : q.t <= p.f := by
    apply Classical.byContradiction
    intro hc
    have h6 := valP_mem h5 p hp p.f (Int.le_refl _) (by omega)
    rw [valP_low h5 (by omega)] at h6
    have h7 : ∀ {P : List Pc} {lo : Int} {pm : List Int}, PN lo pm P -> ∀ p ∈ P, p.m ≠ [] := by
     intro P
     induction P with
     | nil => intro _ _ _ p hp; simp at hp
     | cons a r ih =>
      rintro lo pm ⟨_, _, _, k4, k5⟩ p hp
      rcases List.mem_cons.1 hp with rfl | hp
      ·exact k4
      ·exact ih k5 p hp
    exact h7 h5 p hp h6.symm
   rw [if_neg (by omega)]
   exact valP_mem h5 p hp x hx hy
def edgesL (ls : List (List Sp)) : List Int := ls.foldl edgL []
theorem foldl_edgL_sorted : ∀ (ls : List (List Sp)) {out : List Int}, out.Pairwise (· < ·) -> (ls.foldl edgL out).Pairwise (· < ·)
 | [], _, h => h
 | l :: ls, _, h => foldl_edgL_sorted ls (edgL_sorted l h)
theorem mem_foldl_edgL : ∀ (ls : List (List Sp)) (out : List Int) (x : Int), x ∈ ls.foldl edgL out ↔ x ∈ out ∨ ∃ l ∈ ls, ∃ s ∈ l, (cutS s).f < (cutS s).t /\ (x = (cutS s).f ∨ x = (cutS s).t)
 | [], out, x => by simp
 | l :: ls, out, x => by
  show x ∈ ls.foldl edgL (edgL out l) ↔ _
  rw [mem_foldl_edgL ls, mem_edgL]
  simp only [List.mem_cons, exists_eq_or_imp, or_assoc]
theorem cuts_edges (ls : List (List Sp)) : Cuts ls (edgesL ls) := cuts_edg (foldl_edgL_sorted ls List.Pairwise.nil) fun x => by
 unfold edgesL
 rw [mem_foldl_edgL]
 simp
theorem foldl_edgL_length : ∀ (ls : List (List Sp)) (n : Nat) (out : List Int), (∀ l ∈ ls, l.length <= n) -> (ls.foldl edgL out).length <= out.length + 2 * n * ls.length
 | [], n, out, _ => by simp
 | l :: ls, n, out, h => by
  have h1 := foldl_edgL_length ls n (edgL out l) fun q hq => h q (by simp [hq])
  have h2 := edgL_length l out
  have h3 := h l (by simp)
  show (ls.foldl edgL (edgL out l)).length <= _
  rw [List.length_cons, Nat.mul_succ]
  omega
theorem edgesL_length (ls : List (List Sp)) (n : Nat) (h : ∀ l ∈ ls, l.length <= n) : (edgesL ls).length <= 2 * n * ls.length := by
 have := foldl_edgL_length ls n [] h
 unfold edgesL
 simpa using this
def pieces (ls : List (List Sp)) : List Pc := pcs (memL ls) (edgesL ls) []
theorem pieces_main (ls : List (List Sp)) : PN 0 [] (pieces ls) /\ ∀ x, valP (pieces ls) x = memL ls x := by
 obtain ⟨h1, h2, h3, h4⟩ := cuts_edges ls
 exact pcs_main h1 (fun p hp => (h2 p hp).1) h3 (fun x hx => memL_neg ls hx) h4
theorem pieces_of {ls : List (List Sp)} {E : List Int} (h : Cuts ls E) : pcs (memL ls) E [] = pieces ls := by
 obtain ⟨h1, h2, h3, h4⟩ := cuts_edges ls
 obtain ⟨k1, k2, k3, k4⟩ := h
 exact pcs_same k1 (fun p hp => (k2 p hp).1) k3 k4 h1 (fun p hp => (h2 p hp).1) h3 h4 fun x hx => memL_neg ls hx
end
section
structure Pr where
 s : Int
 r : Int
 f : Int
 t : Int
def Pr.sp (p : Pr) : Sp := ⟨p.f, p.t⟩
def ofL (C : List Pr) (s r : Int) : List Sp := (C.filter fun p => decide (p.s = s) && (decide (r = 0) || decide (p.r = r))).map Pr.sp
def Dd (C : List Pr) (s r x : Int) : Bool := dset (ofL C s r) x
theorem mem_ofL (C : List Pr) (s r : Int) (q : Sp) : q ∈ ofL C s r ↔ ∃ p ∈ C, p.s = s /\ (r = 0 ∨ p.r = r) /\ p.sp = q := by
 unfold ofL
 simp [List.mem_map, List.mem_filter, and_assoc]
theorem dd_iff (C : List Pr) (s r x : Int) : Dd C s r x = true ↔ (0 <= x /\ x < 73049) /\ ∃ p ∈ C, p.s = s /\ (r = 0 ∨ p.r = r) /\ p.f <= x /\ x < p.t := by
 unfold Dd dset
 rw [Bool.and_eq_true, isD_iff, cov_iff]
 constructor
 ·rintro ⟨h, q, hq, h1, h2⟩
  obtain ⟨p, hp, h3, h4, rfl⟩ := (mem_ofL C s r q).1 hq
  exact ⟨h, p, hp, h3, h4, h1, h2⟩
 ·rintro ⟨h, p, hp, h3, h4, h1, h2⟩
  exact ⟨h, p.sp, (mem_ofL C s r _).2 ⟨p, hp, h3, h4, rfl⟩, h1, h2⟩
theorem dd_day {C : List Pr} {s r x : Int} (h : Dd C s r x = true) : 0 <= x /\ x < 73049 := ((dd_iff C s r x).1 h).1
def prevN (S : Int -> Bool) : Nat -> Int
 | 0 => -1
 | k + 1 => if S (k : Int) = true then (k : Int) else prevN S k
def prevD (S : Int -> Bool) (d : Int) : Int := prevN S d.toNat
theorem prevN_spec (S : Int -> Bool) : ∀ k : Nat, (prevN S k = -1 /\ ∀ x : Int, 0 <= x -> x < k -> S x = false) ∨ (0 <= prevN S k /\ prevN S k < k /\ S (prevN S k) = true /\ ∀ x : Int, prevN S k < x -> x < k -> S x = false)
 | 0 => .inl ⟨rfl, fun x h1 h2 => by omega⟩
 | k + 1 => by
  unfold prevN
  by_cases h : S (k : Int) = true
  ·rw [if_pos h]
   exact .inr ⟨by omega, by omega, h, fun x h1 h2 => by omega⟩
  ·rw [if_neg h]
   have hk : S (k : Int) = false := by simpa using h
   rcases prevN_spec S k with ⟨h1, h2⟩ | ⟨h1, h2, h3, h4⟩
   ·refine .inl ⟨h1, fun x h3 h4 => ?_⟩
    by_cases e : x = k
    ·rw [e]; exact hk
    ·exact h2 x h3 (by omega)
   ·refine .inr ⟨h1, by omega, h3, fun x h5 h6 => ?_⟩
    by_cases e : x = k
    ·rw [e]; exact hk
    ·exact h4 x h5 (by omega)
def IsPrev (S : Int -> Bool) (d p : Int) : Prop := (p = -1 /\ ∀ x, 0 <= x -> x < d -> S x = false) ∨ (0 <= p /\ p < d /\ S p = true /\ ∀ x, p < x -> x < d -> S x = false)
theorem prevD_spec (S : Int -> Bool) (d : Int) : IsPrev S d (prevD S d) := by
 unfold prevD
 rcases prevN_spec S d.toNat with ⟨h1, h2⟩ | ⟨h1, h2, h3, h4⟩
 ·exact .inl ⟨h1, fun x h3 h4 => h2 x h3 (by omega)⟩
 ·exact .inr ⟨h1, by omega, h3, fun x h5 h6 => h4 x h5 (by omega)⟩
theorem isPrev_eq {S : Int -> Bool} {d p q : Int} (hp : IsPrev S d p) (hq : IsPrev S d q) : p = q := by
 rcases hp with ⟨p1, p2⟩ | ⟨p1, p2, p3, p4⟩
 ·rcases hq with ⟨q1, q2⟩ | ⟨q1, q2, q3, q4⟩
  ·omega
  ·rw [p2 q q1 q2] at q3
   cases q3
 ·rcases hq with ⟨q1, q2⟩ | ⟨q1, q2, q3, q4⟩
  ·rw [q2 p p1 p2] at p3
   cases p3
  ·rcases Int.lt_trichotomy p q with h | h | h
   ·rw [p4 q h q2] at q3
    cases q3
   ·exact h
   ·rw [q4 p h p2] at p3
    cases p3
theorem prevD_last {S : Int -> Bool} {d : Int} (h0 : 1 <= d) (h : S (d - 1) = true) : prevD S d = d - 1 := isPrev_eq (prevD_spec S d) (.inr ⟨by omega, by omega, h, fun x h1 h2 => by omega⟩)
theorem prevD_same {S : Int -> Bool} {x y : Int} (h : x <= y) (hS : ∀ z, x <= z -> z < y -> S z = false) : prevD S x = prevD S y := by
 refine isPrev_eq ?_ (prevD_spec S y)
 rcases prevD_spec S x with ⟨h1, h2⟩ | ⟨h1, h2, h3, h4⟩
 ·refine .inl ⟨h1, fun z h5 h6 => ?_⟩
  by_cases hz : z < x
  ·exact h2 z h5 hz
  ·exact hS z (by omega) h6
 ·refine .inr ⟨h1, by omega, h3, fun z h5 h6 => ?_⟩
  by_cases hz : z < x
  ·exact h4 z h5 hz
  ·exact hS z (by omega) h6
def follN (S : Int -> Bool) : Nat -> Int -> Int
 | 0, _ => 73049
 | n + 1, x => if S x = true then x else follN S n (x + 1)
def follD (S : Int -> Bool) (d : Int) : Int := follN S (73049 - (d + 1)).toNat (d + 1)
def IsFoll (S : Int -> Bool) (d p : Int) : Prop := (p = 73049 /\ ∀ x, d < x -> x < 73049 -> S x = false) ∨ (d < p /\ p < 73049 /\ S p = true /\ ∀ x, d < x -> x < p -> S x = false)
theorem follN_spec (S : Int -> Bool) : ∀ (n : Nat) (x : Int), n = (73049 - x).toNat -> IsFoll S (x - 1) (follN S n x)
 | 0, x, h => .inl ⟨rfl, fun y h1 h2 => by omega⟩
 | n + 1, x, h => by
  unfold follN
  by_cases hx : S x = true
  ·rw [if_pos hx]
   exact .inr ⟨by omega, by omega, hx, fun y h1 h2 => by omega⟩
  ·rw [if_neg hx]
   have hk : S x = false := by simpa using hx
   have ih := follN_spec S n (x + 1) (by omega)
   rcases ih with ⟨h1, h2⟩ | ⟨h1, h2, h3, h4⟩
   ·refine .inl ⟨h1, fun y h3 h4 => ?_⟩
    by_cases e : y = x
    ·rw [e]; exact hk
    ·exact h2 y (by omega) h4
   ·refine .inr ⟨by omega, h2, h3, fun y h5 h6 => ?_⟩
    by_cases e : y = x
    ·rw [e]; exact hk
    ·exact h4 y (by omega) h6
theorem follD_spec (S : Int -> Bool) (d : Int) : IsFoll S d (follD S d) := by
 unfold follD
 have := follN_spec S (73049 - (d + 1)).toNat (d + 1) rfl
 rwa [show d + 1 - 1 = d by omega] at this
theorem isFoll_eq {S : Int -> Bool} {d p q : Int} (hp : IsFoll S d p) (hq : IsFoll S d q) : p = q := by
 rcases hp with ⟨p1, p2⟩ | ⟨p1, p2, p3, p4⟩
 ·rcases hq with ⟨q1, q2⟩ | ⟨q1, q2, q3, q4⟩
  ·omega
  ·rw [p2 q q1 q2] at q3
   cases q3
 ·rcases hq with ⟨q1, q2⟩ | ⟨q1, q2, q3, q4⟩
  ·rw [q2 p p1 p2] at p3
   cases p3
  ·rcases Int.lt_trichotomy p q with h | h | h
   ·rw [q4 p p1 h] at p3
    cases p3
   ·exact h
   ·rw [p4 q q1 h] at q3
    cases q3
theorem follD_same {S : Int -> Bool} {x y : Int} (h : x <= y) (hS : ∀ z, x < z -> z <= y -> S z = false) : follD S x = follD S y := by
 refine isFoll_eq (follD_spec S x) ?_
 rcases follD_spec S y with ⟨h1, h2⟩ | ⟨h1, h2, h3, h4⟩
 ·refine .inl ⟨h1, fun z h5 h6 => ?_⟩
  by_cases hz : z <= y
  ·exact hS z h5 hz
  ·exact h2 z (by omega) h6
 ·refine .inr ⟨by omega, h2, h3, fun z h5 h6 => ?_⟩
  by_cases hz : z <= y
  ·exact hS z h5 hz
  ·exact h4 z (by omega) h6
def bestP (P : Int -> Int) (b : Int) (r : List Int) : Int := r.foldl (fun b s => if P b < P s then s else b) b
def bestF (F : Int -> Int) (b : Int) (r : List Int) : Int := r.foldl (fun b s => if F s < F b then s else b) b
def clo (P F : Int -> Int) : List Int -> Int
 | [] => -1
 | a :: r => if 0 <= P (bestP P a r) then bestP P a r else bestF F (bestP P a r) (a :: r)
theorem bestP_cons (P : Int -> Int) (b s : Int) (r : List Int) : bestP P b (s :: r) = bestP P (if P b < P s then s else b) r := rfl
theorem bestF_cons (F : Int -> Int) (b s : Int) (r : List Int) : bestF F b (s :: r) = bestF F (if F s < F b then s else b) r := rfl
theorem bestP_snoc (P : Int -> Int) (b s : Int) (r : List Int) : bestP P b (r ++ [s]) = if P (bestP P b r) < P s then s else bestP P b r := by unfold bestP; rw [List.foldl_append]; rfl
theorem bestF_snoc (F : Int -> Int) (b s : Int) (r : List Int) : bestF F b (r ++ [s]) = if F s < F (bestF F b r) then s else bestF F b r := by unfold bestF; rw [List.foldl_append]; rfl
theorem bestP_flat {P : Int -> Int} {c : Int} : ∀ (r : List Int) (a : Int), P a = c -> (∀ s ∈ r, P s = c) -> bestP P a r = a
 | [], _, _, _ => rfl
 | s :: r, a, h, hr => by
  have hs := hr s (by simp)
  rw [bestP_cons, if_neg (by omega)]
  exact bestP_flat r a h fun q hq => hr q (by simp [hq])
theorem clo_flat {P F : Int -> Int} {c : Int} (h0 : 0 <= c) {a : Int} {r : List Int} (h : ∀ s ∈ a :: r, P s = c) : clo P F (a :: r) = a := by
 have ha := h a (by simp)
 have e : bestP P a r = a := bestP_flat r a ha fun q hq => h q (by simp [hq])
 show (if 0 <= P (bestP P a r) then bestP P a r else _) = a
 rw [e, if_pos (by omega)]
theorem bestP_congr {P Q : Int -> Int} : ∀ (r : List Int) (a : Int), P a = Q a -> (∀ s ∈ r, P s = Q s) -> bestP P a r = bestP Q a r
 | [], _, _, _ => rfl
 | s :: r, a, h, hr => by
  have hs := hr s (by simp)
  have hr2 : ∀ q ∈ r, P q = Q q := fun q hq => hr q (by simp [hq])
  rw [bestP_cons, bestP_cons, h, hs]
  split
  ·exact bestP_congr r s hs hr2
  ·exact bestP_congr r a h hr2
theorem bestP_mem (P : Int -> Int) : ∀ (r : List Int) (a : Int), bestP P a r ∈ a :: r
 | [], _ => by simp [bestP]
 | s :: r, a => by
  rw [bestP_cons]
  split
  ·have := bestP_mem P r s
   simp only [List.mem_cons] at *
   rcases this with h | h <;> simp [h]
  ·have := bestP_mem P r a
   simp only [List.mem_cons] at *
   rcases this with h | h <;> simp [h]
theorem bestF_mem (F : Int -> Int) : ∀ (r : List Int) (a : Int), bestF F a r ∈ a :: r
 | [], _ => by simp [bestF]
 | s :: r, a => by
  rw [bestF_cons]
  split
  ·have := bestF_mem F r s
   simp only [List.mem_cons] at *
   rcases this with h | h <;> simp [h]
  ·have := bestF_mem F r a
   simp only [List.mem_cons] at *
   rcases this with h | h <;> simp [h]
theorem bestF_congr {F G : Int -> Int} : ∀ (r : List Int) (a : Int), F a = G a -> (∀ s ∈ r, F s = G s) -> bestF F a r = bestF G a r
 | [], _, _, _ => rfl
 | s :: r, a, h, hr => by
  have hs := hr s (by simp)
  have hr2 : ∀ q ∈ r, F q = G q := fun q hq => hr q (by simp [hq])
  rw [bestF_cons, bestF_cons, h, hs]
  split
  ·exact bestF_congr r s hs hr2
  ·exact bestF_congr r a h hr2
theorem clo_congr {P Q F G : Int -> Int} {l : List Int} (hP : ∀ s ∈ l, P s = Q s) (hF : ∀ s ∈ l, F s = G s) : clo P F l = clo Q G l := by
 cases l with
 | nil => rfl
 | cons a r =>
  have e : bestP P a r = bestP Q a r := bestP_congr r a (hP a (by simp)) fun s hs => hP s (by simp [hs])
  have hm := bestP_mem Q r a
  show (if 0 <= P (bestP P a r) then bestP P a r else bestF F (bestP P a r) (a :: r)) = if 0 <= Q (bestP Q a r) then bestP Q a r else bestF G (bestP Q a r) (a :: r)
  rw [e, hP _ hm, bestF_congr (a :: r) _ (hF _ hm) hF]
theorem clo_mem {P F : Int -> Int} {l : List Int} (h : l ≠ []) : clo P F l ∈ l := by
 cases l with
 | nil => exact absurd rfl h
 | cons a r =>
  show (if 0 <= P (bestP P a r) then bestP P a r else bestF F (bestP P a r) (a :: r)) ∈ _
  have hm := bestP_mem P r a
  split
  ·exact hm
  ·have := bestF_mem F (a :: r) (bestP P a r)
   rcases List.mem_cons.1 this with h | h
   ·rw [h]; exact hm
   ·exact h
def states : List Int := [0, 1, 2, 3, 4, 5]
def ranks : List Int := [1, 2, 3, 4, 5, 6, 7]
def stL (C : List Pr) (r x : Int) : List Int := states.filter fun s => Dd C s r x
def rkC (C : List Pr) (x : Int) : Option Int := ranks.find? fun r => !(stL C r x).isEmpty
def cloC (C : List Pr) (r x : Int) : Int := clo (fun s => prevD (Dd C s 1) x) (fun s => follD (Dd C s 1) x) (stL C r x)
def atC (C : List Pr) (x : Int) : Option (Int × Int) := (rkC C x).map fun r => (cloC C r x, r)
def memC (C : List Pr) (x : Int) : List Int := match atC C x with
 | some (s, r) => [s, r]
 | none => []
theorem stL_congr {C K : List Pr} {r x y : Int} (h : ∀ s ∈ states, Dd C s r x = Dd K s r y) : stL C r x = stL K r y := List.filter_congr fun s hs => by rw [h s hs]
theorem rkC_congr {C K : List Pr} {x y : Int} (h : ∀ s ∈ states, ∀ r ∈ ranks, Dd C s r x = Dd K s r y) : rkC C x = rkC K y := by
 unfold rkC
 have : ∀ l : List Int, (∀ r ∈ l, r ∈ ranks) -> (l.find? fun r => !(stL C r x).isEmpty) = l.find? fun r => !(stL K r y).isEmpty := by
  intro l
  induction l with
  | nil => intro _; rfl
  | cons r l ih =>
   intro hl
   have e := stL_congr (C := C) (K := K) (r := r) (x := x) (y := y) fun s hs => h s hs r (hl r (by simp))
   rw [List.find?_cons, List.find?_cons, e, ih fun q hq => hl q (by simp [hq])]
 exact this ranks fun _ h => h
theorem rkC_some {C : List Pr} {x r : Int} (h : rkC C x = some r) : r ∈ ranks /\ stL C r x ≠ [] := by
 refine ⟨List.mem_of_find?_eq_some h, ?_⟩
 have := List.find?_some h
 simp only [Bool.not_eq_true', List.isEmpty_eq_false_iff] at this
 exact this
theorem rkC_none {C : List Pr} {x : Int} (h : rkC C x = none) : ∀ r ∈ ranks, stL C r x = [] := by
 intro r hr
 have := List.find?_eq_none.1 h r hr
 simpa using this
theorem rkC_least {C : List Pr} {x r q : Int} (h : rkC C x = some r) (hq : q ∈ ranks) (hs : stL C q x ≠ []) : r <= q := by
 obtain ⟨hp, l1, l2, e, hno⟩ := List.find?_eq_some_iff_append.1 h
 have hq2 : q ∈ l1 ++ r :: l2 := by rw [<- e]; exact hq
 rcases List.mem_append.1 hq2 with h1 | h1
 ·have := hno q h1
  simp at this
  exact absurd this hs
 ·rcases List.mem_cons.1 h1 with h1 | h1
  ·omega
  ·have hpw : (l1 ++ r :: l2).Pairwise (· < ·) := by rw [<- e]; decide
   have := (List.pairwise_cons.1 (List.pairwise_append.1 hpw).2.1).1 q h1
   omega
theorem mem_stL (C : List Pr) (r x s : Int) : s ∈ stL C r x ↔ s ∈ states /\ Dd C s r x = true := by unfold stL; rw [List.mem_filter]
theorem stL_none {C : List Pr} {r x : Int} (h : stL C r x = []) : ∀ s ∈ states, Dd C s r x = false := fun s hs => by
 rw [Bool.eq_false_iff]
 intro e
 have := (mem_stL C r x s).2 ⟨hs, e⟩
 rw [h] at this
 simp at this
theorem memC_nil {C : List Pr} {x : Int} (h : ∀ s ∈ states, ∀ r ∈ ranks, Dd C s r x = false) : memC C x = [] := by
 have : rkC C x = none := List.find?_eq_none.2 fun r hr => by
  have e : stL C r x = [] := List.filter_eq_nil_iff.2 fun s hs => by rw [h s hs r hr]; simp
  rw [e]
  simp
 unfold memC atC
 rw [this]
 rfl
theorem memC_some {C : List Pr} {x r : Int} (h : rkC C x = some r) : memC C x = [cloC C r x, r] := by unfold memC atC; rw [h]; rfl
theorem memC_none {C : List Pr} {x : Int} (h : rkC C x = none) : memC C x = [] := by unfold memC atC; rw [h]; rfl
theorem memC_out {C : List Pr} {x : Int} (h : ¬(0 <= x /\ x < 73049)) : memC C x = [] := memC_nil fun s _ r _ => by
 rw [Bool.eq_false_iff]
 exact fun e => h (dd_day e)
theorem memC_const {C : List Pr} {a b x y : Int} (h0 : 0 <= a) (hD : ∀ s ∈ states, ∀ r ∈ ranks, ∀ z, a <= z -> z < b -> Dd C s r z = Dd C s r a) (hax : a <= x) (hxy : x <= y) (hyb : y < b)
  (h1 : x < y -> x = a -> ∀ s ∈ states, Dd C s 1 a = true -> Dd C s 1 (a - 1) = true) : memC C x = memC C y := by
 by_cases hlt : x < y
 case neg =>
  rw [show x = y by omega]
 have e : rkC C x = rkC C y := rkC_congr fun s hs r hr => by rw [hD s hs r hr x hax (by omega), hD s hs r hr y (by omega) hyb]
 cases hk : rkC C y with
 | none => rw [memC_none (e.trans hk), memC_none hk]
 | some r =>
  obtain ⟨hr, hne⟩ := rkC_some hk
  have es := stL_congr (C := C) (K := C) (r := r) (x := x) (y := y) fun s hs => by rw [hD s hs r hr x hax (by omega), hD s hs r hr y (by omega) hyb]
  rw [memC_some (e.trans hk), memC_some hk]
  unfold cloC
  rw [es]
  by_cases hr1 : r = 1
  ·subst hr1
   have hpx : ∀ s ∈ stL C 1 y, prevD (Dd C s 1) x = x - 1 := fun s hs => by
    obtain ⟨m1, m2⟩ := (mem_stL C 1 y s).1 hs
    rw [hD s m1 1 hr y (by omega) hyb] at m2
    by_cases hxa : x = a
    ·have h3 := h1 hlt hxa s m1 m2
     have := dd_day h3
     rw [<- hxa] at h3 this
     exact prevD_last (by omega) h3
    ·exact prevD_last (by omega) (by rw [hD s m1 1 hr (x - 1) (by omega) (by omega)]; exact m2)
   have hpy : ∀ s ∈ stL C 1 y, prevD (Dd C s 1) y = y - 1 := fun s hs => by
    obtain ⟨m1, m2⟩ := (mem_stL C 1 y s).1 hs
    rw [hD s m1 1 hr y (by omega) hyb] at m2
    exact prevD_last (by omega) (by rw [hD s m1 1 hr (y - 1) (by omega) (by omega)]; exact m2)
   cases hl : stL C 1 y with
   | nil => exact absurd hl hne
   | cons s l =>
    rw [hl] at hpx hpy
    have hx1 : 0 <= x - 1 := by
     by_cases hxa : x = a
     ·have hm : s ∈ stL C 1 y := by rw [hl]; simp
      obtain ⟨m1, m2⟩ := (mem_stL C 1 y s).1 hm
      rw [hD s m1 1 hr y (by omega) hyb] at m2
      have := dd_day (h1 hlt hxa s m1 m2)
      omega
     ·omega
    rw [clo_flat (c := x - 1) hx1 hpx, clo_flat (c := y - 1) (by omega) hpy]
  ·have hno : ∀ s ∈ states, ∀ z, a <= z -> z < b -> Dd C s 1 z = false := fun s hs z hz hzb => by
    have hn1 : stL C 1 y = [] := by
     apply Classical.byContradiction
     intro hc
     have := rkC_least hk (q := 1) (by simp [ranks]) hc
     have : 1 <= r := by
      simp [ranks] at hr
      omega
     omega
    have := stL_none hn1 s hs
    rw [hD s hs 1 (by simp [ranks]) y (by omega) hyb] at this
    rw [hD s hs 1 (by simp [ranks]) z hz hzb]
    exact this
   have : clo (fun s => prevD (Dd C s 1) x) (fun s => follD (Dd C s 1) x) (stL C r y) = clo (fun s => prevD (Dd C s 1) y) (fun s => follD (Dd C s 1) y) (stL C r y) :=
    clo_congr (fun s hs => prevD_same hxy fun z z1 z2 => hno s ((mem_stL C r y s).1 hs).1 z (by omega) (by omega)) (fun s hs => follD_same hxy fun z z1 z2 => hno s ((mem_stL C r y s).1 hs).1 z (by omega) (by omega))
   rw [this]
def Res (C : List Pr) (R : List Pc) : Prop := PN 0 [] R /\ ∀ x, valP R x = memC C x
theorem res_unique {C : List Pr} {R R' : List Pc} (h : Res C R) (h' : Res C R') : R = R' := pn_ext h.1 h'.1 fun x => by rw [h.2 x, h'.2 x]
end
end Go.Proofs.YtnlopdmhdiegnaaGreatDoor
