/- Pieces of days with their members, in plain Lean: the pieces are made of any list of cuts between which the members do not change. No program of the seat is named here. -/
import Derived.Test.YtghmmcdeejhcjaaGreatEdges
namespace Go.Proofs.YtghmmcdeejhcjaaGreat

structure Pc where
  f : Int
  t : Int
  m : List Int

def valP : List Pc → Int → List Int
  | [], _ => []
  | p :: r, x => if p.f ≤ x ∧ x < p.t then p.m else valP r x
/-- The pieces lie from lo on, one behind the other; two that touch have different members (pm: the members of what ends at lo). -/
def PN : Int → List Int → List Pc → Prop
  | _, _, [] => True
  | lo, pm, p :: r => lo ≤ p.f ∧ (lo = p.f → pm ≠ p.m) ∧ p.f < p.t ∧ p.m ≠ [] ∧ PN p.t p.m r
theorem valP_low : ∀ {l : List Pc} {lo x : Int} {pm : List Int}, PN lo pm l → x < lo → valP l x = []
  | [], _, _, _, _, _ => rfl
  | p :: r, lo, x, pm, ⟨h1, _, h3, _, h5⟩, hx => by
    unfold valP
    rw [if_neg (by omega), valP_low h5 (by omega)]
theorem valP_high : ∀ {l : List Pc} {x : Int}, (∀ p ∈ l, p.t ≤ x) → valP l x = []
  | [], _, _ => rfl
  | p :: r, x, h => by
    have := h p (by simp)
    unfold valP
    rw [if_neg (by omega), valP_high fun q hq => h q (by simp [hq])]
theorem valP_at {l : List Pc} {lo : Int} {pm : List Int} (h : PN lo pm l) (hm : pm ≠ []) : valP l lo ≠ pm := by
  cases l with
  | nil => exact fun e => hm e.symm
  | cons p r =>
    obtain ⟨h1, h2, h3, h4, h5⟩ := h
    unfold valP
    by_cases hf : lo = p.f
    · rw [if_pos (by omega)]
      exact fun e => h2 hf e.symm
    · rw [if_neg (by omega), valP_low h5 (by omega)]
      exact fun e => hm e.symm
theorem pn_ext : ∀ {a b : List Pc} {lo : Int} {pm : List Int}, PN lo pm a → PN lo pm b → (∀ x, valP a x = valP b x) → a = b
  | [], [], _, _, _, _, _ => rfl
  | [], p :: r, _, _, _, ⟨_, _, h3, h4, _⟩, h => by
    have := h p.f
    unfold valP at this
    rw [if_pos (by omega)] at this
    exact absurd this.symm h4
  | p :: r, [], _, _, ⟨_, _, h3, h4, _⟩, _, h => by
    have := h p.f
    unfold valP at this
    rw [if_pos (by omega)] at this
    exact absurd this h4
  | s :: r, p :: q, lo, pm, ⟨a1, a2, a3, a4, a5⟩, ⟨b1, b2, b3, b4, b5⟩, h => by
    have hs : ∀ x, valP (s :: r) x = if s.f ≤ x ∧ x < s.t then s.m else valP r x := fun _ => rfl
    have hp : ∀ x, valP (p :: q) x = if p.f ≤ x ∧ x < p.t then p.m else valP q x := fun _ => rfl
    have hf : s.f = p.f := by
      rcases Int.lt_trichotomy s.f p.f with hl | hl | hl
      · have := h s.f
        rw [hs, hp, if_pos (by omega), if_neg (by omega), valP_low b5 (by omega)] at this
        exact absurd this a4
      · exact hl
      · have := h p.f
        rw [hs, hp, if_neg (by omega), if_pos (by omega), valP_low a5 (by omega)] at this
        exact absurd this.symm b4
    have hm : s.m = p.m := by
      have := h s.f
      rw [hs, hp, if_pos (by omega), if_pos (by omega)] at this
      exact this
    have ht : s.t = p.t := by
      rcases Int.lt_trichotomy s.t p.t with hl | hl | hl
      · have := h s.t
        rw [hs, hp, if_neg (by omega), if_pos (by omega), ← hm] at this
        exact absurd this (valP_at a5 a4)
      · exact hl
      · have := h p.t
        rw [hs, hp, if_pos (by omega), if_neg (by omega), hm] at this
        exact absurd this.symm (valP_at b5 b4)
    have e : s = p := by
      cases s
      cases p
      simp only at hf hm ht
      rw [hf, hm, ht]
    subst e
    congr 1
    refine pn_ext a5 b5 fun x => ?_
    have hx := h x
    rw [hs, hp] at hx
    by_cases hc : s.f ≤ x ∧ x < s.t
    · rw [valP_low a5 (by omega), valP_low b5 (by omega)]
    · rw [if_neg hc, if_neg hc] at hx
      exact hx

/-- A span with its members behind all others, joined to the last one if it begins where that one ends and has the same members. -/
def addP : List Pc → Int → Int → List Int → List Pc
  | [], a, b, m => if m = [] then [] else [⟨a, b, m⟩]
  | [p], a, b, m => if m = [] then [p] else if p.t = a ∧ p.m = m then [⟨p.f, b, m⟩] else [p, ⟨a, b, m⟩]
  | p :: p' :: r, a, b, m => p :: addP (p' :: r) a b m
theorem addP_snoc : ∀ (l : List Pc) (p : Pc) (a b : Int) (m : List Int), addP (l ++ [p]) a b m = if m = [] then l ++ [p] else if p.t = a ∧ p.m = m then l ++ [⟨p.f, b, m⟩] else l ++ [p, ⟨a, b, m⟩]
  | [], p, a, b, m => rfl
  | [s], p, a, b, m => by
    show s :: addP [p] a b m = _
    unfold addP
    split
    · rfl
    · split <;> rfl
  | s :: s' :: r, p, a, b, m => by
    show s :: addP ((s' :: r) ++ [p]) a b m = _
    rw [addP_snoc (s' :: r) p a b m]
    split
    · rfl
    · split <;> rfl
theorem addP_nil (l : List Pc) (a b : Int) : addP l a b [] = l := by
  rcases List.eq_nil_or_concat l with rfl | ⟨l', p, rfl⟩
  · rfl
  · rw [List.concat_eq_append, addP_snoc, if_pos rfl]
theorem addP_length : ∀ (l : List Pc) (a b : Int) (m : List Int), (addP l a b m).length ≤ l.length + 1
  | [], a, b, m => by unfold addP; split <;> simp
  | [p], a, b, m => by
    unfold addP
    split
    · simp
    · split <;> simp
  | p :: p' :: r, a, b, m => by
    have := addP_length (p' :: r) a b m
    show (p :: addP (p' :: r) a b m).length ≤ _
    simp only [List.length_cons] at *
    omega
def UptoP (l : List Pc) (k : Int) : Prop := ∀ p ∈ l, p.t ≤ k
theorem addP_upto : ∀ {l : List Pc} {a b : Int} {m : List Int}, UptoP l a → a ≤ b → UptoP (addP l a b m) b
  | [], a, b, m, _, _ => by
    intro p hp
    unfold addP at hp
    split at hp
    · simp at hp
    · simp at hp; subst hp; exact Int.le_refl _
  | [p], a, b, m, hu, h => by
    have h1 := hu p (by simp)
    intro q hq
    unfold addP at hq
    split at hq
    · simp at hq; subst hq; omega
    · split at hq
      · simp at hq; subst hq; exact Int.le_refl _
      · simp at hq
        rcases hq with rfl | rfl
        · omega
        · exact Int.le_refl _
  | p :: p' :: r, a, b, m, hu, h => by
    have h1 := hu p (by simp)
    intro q hq
    rcases List.mem_cons.1 (show q ∈ p :: addP (p' :: r) a b m from hq) with rfl | hq
    · omega
    · exact addP_upto (fun y hy => hu y (by simp [hy])) h q hq
theorem addP_pn : ∀ {l : List Pc} {lo a b : Int} {pm m : List Int}, PN lo pm l → UptoP l a → lo ≤ a → (lo = a → pm = [] ∨ l ≠ []) → a < b → PN lo pm (addP l a b m)
  | [], lo, a, b, pm, m, _, _, h1, h2, h3 => by
    unfold addP
    split
    · trivial
    · rename_i hm
      refine ⟨h1, fun e => ?_, h3, hm, trivial⟩
      rcases h2 e with h | h
      · rw [h]; exact fun e => hm e.symm
      · exact absurd rfl h
  | [p], lo, a, b, pm, m, ⟨n1, n2, n3, n4, _⟩, hu, h1, _, h3 => by
    have hp := hu p (by simp)
    unfold addP
    split
    · exact ⟨n1, n2, n3, n4, trivial⟩
    · rename_i hm
      split
      · rename_i he
        exact ⟨n1, fun e => by show pm ≠ m; rw [← he.2]; exact n2 e, by show p.f < b; omega, hm, trivial⟩
      · rename_i he
        refine ⟨n1, n2, n3, n4, by show p.t ≤ a; omega, fun e => ?_, h3, hm, trivial⟩
        show p.m ≠ m
        exact fun e2 => he ⟨e, e2⟩
  | p :: p' :: r, lo, a, b, pm, m, ⟨n1, n2, n3, n4, n5⟩, hu, h1, _, h3 =>
    ⟨n1, n2, n3, n4, addP_pn n5 (fun y hy => hu y (by simp [hy])) (hu p (by simp)) (fun _ => .inr (by simp)) h3⟩
theorem addP_val : ∀ {l : List Pc} {a b : Int} {m : List Int}, (∀ p ∈ l, p.f < p.t) → UptoP l a → a < b → ∀ x, valP (addP l a b m) x = if a ≤ x ∧ x < b then m else valP l x
  | [], a, b, m, _, _, _, x => by
    unfold addP
    split
    · rename_i hm
      rw [hm]
      simp [valP]
    · rfl
  | [p], a, b, m, hf, hu, h, x => by
    have hp := hu p (by simp)
    have hpf := hf p (by simp)
    have e1 : ∀ q : Pc, valP [q] x = if q.f ≤ x ∧ x < q.t then q.m else [] := fun _ => rfl
    have e2 : ∀ q q' : Pc, valP [q, q'] x = if q.f ≤ x ∧ x < q.t then q.m else if q'.f ≤ x ∧ x < q'.t then q'.m else [] := fun _ _ => rfl
    unfold addP
    split
    · rename_i hm
      rw [e1, hm]
      by_cases hc : a ≤ x ∧ x < b
      · rw [if_pos hc, if_neg (by omega)]
      · rw [if_neg hc]
    · split
      · rename_i he
        rw [e1, e1]
        simp only
        by_cases hc : a ≤ x ∧ x < b
        · rw [if_pos hc, if_pos (by omega)]
        · rw [if_neg hc]
          by_cases hd : p.f ≤ x ∧ x < p.t
          · rw [if_pos hd, if_pos (by omega), he.2]
          · rw [if_neg hd, if_neg (by omega)]
      · rw [e2, e1]
        simp only
        by_cases hd : p.f ≤ x ∧ x < p.t
        · rw [if_pos hd, if_neg (by omega), if_pos hd]
        · rw [if_neg hd, if_neg hd]
  | p :: p' :: r, a, b, m, hf, hu, h, x => by
    have hp := hu p (by simp)
    have ih := addP_val (l := p' :: r) (a := a) (b := b) (m := m) (fun y hy => hf y (by simp [hy])) (fun y hy => hu y (by simp [hy])) h x
    show (if p.f ≤ x ∧ x < p.t then p.m else valP (addP (p' :: r) a b m) x) = if a ≤ x ∧ x < b then m else if p.f ≤ x ∧ x < p.t then p.m else valP (p' :: r) x
    rw [ih]
    by_cases hd : p.f ≤ x ∧ x < p.t
    · rw [if_pos hd, if_neg (by omega), if_pos hd]
    · rw [if_neg hd, if_neg hd]
theorem pn_ft : ∀ {l : List Pc} {lo : Int} {pm : List Int}, PN lo pm l → ∀ p ∈ l, p.f < p.t
  | [], _, _, _, p, hp => by simp at hp
  | q :: r, _, _, ⟨_, _, h3, _, h5⟩, p, hp => by
    rcases List.mem_cons.1 hp with rfl | hp
    · exact h3
    · exact pn_ft h5 p hp

def pcs (mem : Int → List Int) : List Int → List Pc → List Pc
  | a :: b :: r, O => pcs mem (b :: r) (addP O a b (mem a))
  | _, O => O
theorem pcs_length (mem : Int → List Int) : ∀ (e : List Int) (O : List Pc), (pcs mem e O).length ≤ O.length + e.length
  | [], O => by unfold pcs; omega
  | [a], O => by unfold pcs; simp
  | a :: b :: r, O => by
    have h1 := pcs_length mem (b :: r) (addP O a b (mem a))
    have h2 := addP_length O a b (mem a)
    show (pcs mem (b :: r) (addP O a b (mem a))).length ≤ _
    simp only [List.length_cons] at *
    omega
def SteadyM (mem : Int → List Int) : List Int → Prop
  | a :: b :: r => (∀ x, a ≤ x → x < b → mem x = mem a) ∧ SteadyM mem (b :: r)
  | _ => True
theorem steadyM_of {mem : Int → List Int} {E : List Int} (hE : E.Pairwise (· < ·)) (hM : ∀ x y, (∀ p ∈ E, p ≤ x ↔ p ≤ y) → mem x = mem y) : ∀ (e pre : List Int), E = pre ++ e → SteadyM mem e
  | [], _, _ => trivial
  | [a], _, _ => trivial
  | a :: b :: r, pre, he => by
    refine ⟨fun x hx hxb => hM x a fun p hp => ?_, steadyM_of hE hM (b :: r) (pre ++ [a]) (by rw [he]; simp)⟩
    rw [he] at hE hp
    have hs := List.pairwise_append.1 hE
    rcases List.mem_append.1 hp with hp | hp
    · have := hs.2.2 p hp a (by simp)
      omega
    · have h2 := List.pairwise_cons.1 hs.2.1
      rcases List.mem_cons.1 hp with rfl | hp
      · omega
      · have h3 := List.pairwise_cons.1 h2.2
        have h4 : b ≤ p := by
          rcases List.mem_cons.1 hp with rfl | hp
          · exact Int.le_refl _
          · have := h3.1 p hp; omega
        have h5 := h2.1 p hp
        omega
theorem pcs_ok {mem : Int → List Int} {lo : Int} : ∀ (r : List Int) (e : Int) (O : List Pc), (e :: r).Pairwise (· < ·) → lo ≤ e → SteadyM mem (e :: r) → PN lo [] O → UptoP O e → (∀ x, valP O x = if x < e then mem x else []) →
    PN lo [] (pcs mem (e :: r) O) ∧ ∀ x, valP (pcs mem (e :: r) O) x = if x < lastD e r then mem x else []
  | [], e, O, _, _, _, hn, _, hv => ⟨hn, hv⟩
  | b :: r, e, O, hp, hlo, ⟨hs1, hs2⟩, hn, hu, hv => by
    have hp2 := List.pairwise_cons.1 hp
    have hlt : e < b := hp2.1 b (by simp)
    have h1 := addP_pn (m := mem e) hn hu hlo (fun _ => .inl rfl) hlt
    have h2 := addP_upto (m := mem e) hu (Int.le_of_lt hlt)
    have h3 := addP_val (m := mem e) (pn_ft hn) hu hlt
    obtain ⟨i1, i2⟩ := pcs_ok r b (addP O e b (mem e)) hp2.2 (by omega) hs2 h1 h2 fun x => by
      rw [h3 x, hv x]
      by_cases hc : e ≤ x ∧ x < b
      · rw [if_pos hc, if_pos hc.2, hs1 x hc.1 hc.2]
      · rw [if_neg hc]
        by_cases hd : x < e
        · rw [if_pos hd, if_pos (by omega)]
        · rw [if_neg hd, if_neg (by omega)]
    exact ⟨i1, i2⟩
/-- The pieces of a list of cuts hold just the members of each day. -/
theorem pcs_main {mem : Int → List Int} {E : List Int} (hE : E.Pairwise (· < ·)) (h0 : ∀ p ∈ E, 0 ≤ p) (hM : ∀ x y, (∀ p ∈ E, p ≤ x ↔ p ≤ y) → mem x = mem y) (hn : ∀ x, x < 0 → mem x = []) (hh : ∀ x, (∀ p ∈ E, p ≤ x) → mem x = []) :
    PN 0 [] (pcs mem E []) ∧ ∀ x, valP (pcs mem E []) x = mem x := by
  cases E with
  | nil => exact ⟨trivial, fun x => (hh x fun p hp => by simp at hp).symm⟩
  | cons e r =>
    have hp2 := List.pairwise_cons.1 hE
    have hlow : ∀ x, x < e → mem x = [] := fun x hx => by
      rw [hM x (-1) fun p hp => ?_]
      · exact hn (-1) (by omega)
      · have h1 := h0 p hp
        have h2 : e ≤ p := by
          rcases List.mem_cons.1 hp with rfl | hp
          · exact Int.le_refl _
          · have := hp2.1 p hp; omega
        omega
    obtain ⟨i1, i2⟩ := pcs_ok (lo := 0) r e [] hE (h0 e (by simp)) (steadyM_of hE hM (e :: r) [] rfl) trivial (fun p hp => by simp at hp) fun x => by
      by_cases hx : x < e
      · rw [if_pos hx, hlow x hx]
        rfl
      · rw [if_neg hx]
        rfl
    refine ⟨i1, fun x => ?_⟩
    rw [i2 x]
    by_cases hx : x < lastD e r
    · rw [if_pos hx]
    · rw [if_neg hx]
      exact (hh x fun p hp => by have := lastD_ge r e hE p hp; omega).symm
/-- Any two lists of cuts that serve give the same pieces. -/
theorem pcs_same {mem : Int → List Int} {E F : List Int} (hE : E.Pairwise (· < ·)) (h0 : ∀ p ∈ E, 0 ≤ p) (hM : ∀ x y, (∀ p ∈ E, p ≤ x ↔ p ≤ y) → mem x = mem y) (hh : ∀ x, (∀ p ∈ E, p ≤ x) → mem x = [])
    (hF : F.Pairwise (· < ·)) (g0 : ∀ p ∈ F, 0 ≤ p) (gM : ∀ x y, (∀ p ∈ F, p ≤ x ↔ p ≤ y) → mem x = mem y) (gh : ∀ x, (∀ p ∈ F, p ≤ x) → mem x = []) (hn : ∀ x, x < 0 → mem x = []) : pcs mem E [] = pcs mem F [] := by
  obtain ⟨a1, a2⟩ := pcs_main hE h0 hM hn hh
  obtain ⟨b1, b2⟩ := pcs_main hF g0 gM hn gh
  exact pn_ext a1 b1 fun x => by rw [a2 x, b2 x]
/-- Among pieces that lie one behind the other, the one that holds a day is the only one. -/
theorem pn_one : ∀ {l : List Pc} {lo : Int} {pm : List Int} {x : Int}, PN lo pm l →
    (valP l x = [] ∧ (l.filter fun p => decide (p.f ≤ x ∧ x < p.t)) = []) ∨ ∃ p, (l.filter fun p => decide (p.f ≤ x ∧ x < p.t)) = [p] ∧ p.m = valP l x ∧ p.m ≠ []
  | [], _, _, _, _ => .inl ⟨rfl, rfl⟩
  | p :: r, lo, pm, x, ⟨h1, h2, h3, h4, h5⟩ => by
    by_cases hc : p.f ≤ x ∧ x < p.t
    · have hno : (r.filter fun p => decide (p.f ≤ x ∧ x < p.t)) = [] := by
        rcases pn_one (x := x) h5 with ⟨_, h⟩ | ⟨q, _, hq1, hq2⟩
        · exact h
        · rw [valP_low h5 hc.2] at hq1
          exact absurd hq1 hq2
      refine .inr ⟨p, ?_, ?_, h4⟩
      · rw [List.filter_cons, if_pos (by simpa using hc), hno]
      · unfold valP
        rw [if_pos hc]
    · have e1 : valP (p :: r) x = valP r x := by
        show (if p.f ≤ x ∧ x < p.t then p.m else valP r x) = _
        rw [if_neg hc]
      have e2 : ((p :: r).filter fun p => decide (p.f ≤ x ∧ x < p.t)) = r.filter fun p => decide (p.f ≤ x ∧ x < p.t) := by
        rw [List.filter_cons, if_neg (by simpa using hc)]
      rw [e1, e2]
      exact pn_one h5
end Go.Proofs.YtghmmcdeejhcjaaGreat
