/- Rows of decisions, in plain Lean: valid lists, amounts, what is due for a month, sums over months, and what the segments between the rows' months mean. No program of the seat is named here. -/
import Derived.Below
namespace Go.Proofs.Ytbogmkhoppffgaa

/-- A row: from month m on, state s owes amount a of currency c for benefit b. -/
structure Rw where
  s : Int
  b : Int
  m : Int
  c : Int
  a : Int
  p : Bool

def monB (m : Int) : Bool := decide (0 ≤ m ∧ m ≤ 2399)
theorem monB_iff (m : Int) : monB m = true ↔ 0 ≤ m ∧ m ≤ 2399 := by simp [monB]
theorem monB_no (m : Int) : monB m = false ↔ ¬(0 ≤ m ∧ m ≤ 2399) := by rw [← monB_iff]; simp
def RowOk (r : Rw) : Prop := 0 ≤ r.s ∧ r.s ≤ 5 ∧ 1 ≤ r.b ∧ r.b ≤ 5 ∧ 0 ≤ r.m ∧ r.m ≤ 2399 ∧ 1 ≤ r.c ∧ r.c ≤ 999 ∧ 0 ≤ r.a ∧ r.a ≤ 1000000000000
instance (r : Rw) : Decidable (RowOk r) := by unfold RowOk; exact inferInstance
/-- x stands before y. -/
def Rlt (x y : Rw) : Prop := x.s < y.s ∨ (x.s = y.s ∧ (x.b < y.b ∨ (x.b = y.b ∧ x.m < y.m)))
instance (x y : Rw) : Decidable (Rlt x y) := by unfold Rlt; exact inferInstance
def Nxt (x y : Rw) : Prop := Rlt x y ∧ (x.s = y.s → x.c = y.c)
instance (x y : Rw) : Decidable (Nxt x y) := by unfold Nxt; exact inferInstance
/-- Valid, behind a row. -/
def vldF : Rw → List Rw → Bool
  | _, [] => true
  | q, r :: l => decide (RowOk r) && decide (Nxt q r) && vldF r l
def vldB : List Rw → Bool
  | [] => true
  | r :: l => decide (RowOk r) && vldF r l
theorem vldF_snoc : ∀ (l : List Rw) (q p r : Rw), vldF q (l ++ [p, r]) = (vldF q (l ++ [p]) && decide (RowOk r) && decide (Nxt p r))
  | [], q, p, r => by simp [vldF, Bool.and_assoc]
  | x :: l, q, p, r => by
    show (_ && _ && vldF x (l ++ [p, r])) = (_ && _ && vldF x (l ++ [p]) && _ && _)
    rw [vldF_snoc l x p r]
    simp only [Bool.and_assoc]
theorem vldB_snoc (l : List Rw) (p r : Rw) : vldB (l ++ [p, r]) = (vldB (l ++ [p]) && decide (RowOk r) && decide (Nxt p r)) := by
  cases l with
  | nil => simp [vldB, vldF, Bool.and_assoc]
  | cons x l =>
    show (_ && vldF x (l ++ [p, r])) = (_ && vldF x (l ++ [p]) && _ && _)
    rw [vldF_snoc l x p r]
    simp only [Bool.and_assoc]
theorem vldB_one (r : Rw) : vldB [r] = decide (RowOk r) := by simp [vldB, vldF]
theorem vldF_append : ∀ (l k : List Rw) (q : Rw), vldF q (l ++ k) = true → vldF q l = true
  | [], _, _, _ => rfl
  | x :: l, k, q, h => by
    have h' : (decide (RowOk x) && decide (Nxt q x) && vldF x (l ++ k)) = true := h
    rw [Bool.and_eq_true] at h'
    show (_ && vldF x l) = true
    rw [h'.1, vldF_append l k x h'.2]
    rfl
theorem vldB_append (l k : List Rw) (h : vldB (l ++ k) = true) : vldB l = true := by
  cases l with
  | nil => rfl
  | cons x l =>
    have h' : (decide (RowOk x) && vldF x (l ++ k)) = true := h
    rw [Bool.and_eq_true] at h'
    show (_ && vldF x l) = true
    rw [h'.1, vldF_append l k x h'.2]
    rfl
theorem vldF_ok : ∀ (l : List Rw) (q : Rw), vldF q l = true → ∀ r ∈ l, RowOk r
  | [], _, _, r, hr => by simp at hr
  | x :: l, q, h, r, hr => by
    have h' : (decide (RowOk x) && decide (Nxt q x) && vldF x l) = true := h
    rw [Bool.and_eq_true, Bool.and_eq_true, decide_eq_true_eq] at h'
    rcases List.mem_cons.1 hr with rfl | hr
    · exact h'.1.1
    · exact vldF_ok l x h'.2 r hr
theorem vldB_ok (l : List Rw) (h : vldB l = true) : ∀ r ∈ l, RowOk r := by
  cases l with
  | nil => intro r hr; simp at hr
  | cons x l =>
    intro r hr
    have h' : (decide (RowOk x) && vldF x l) = true := h
    rw [Bool.and_eq_true, decide_eq_true_eq] at h'
    rcases List.mem_cons.1 hr with rfl | hr
    · exact h'.1
    · exact vldF_ok l x h'.2 r hr
/-- In a valid list behind a row no row stands ahead of it; the rows of one state follow each other. -/
theorem vldF_ge : ∀ (l : List Rw) (q : Rw), vldF q l = true → ∀ r ∈ l, q.s ≤ r.s
  | [], _, _, r, hr => by simp at hr
  | x :: l, q, h, r, hr => by
    have h' : (decide (RowOk x) && decide (Nxt q x) && vldF x l) = true := h
    rw [Bool.and_eq_true, Bool.and_eq_true, decide_eq_true_eq, decide_eq_true_eq] at h'
    have h1 : q.s ≤ x.s := by have := h'.1.2.1; unfold Rlt at this; omega
    rcases List.mem_cons.1 hr with rfl | hr
    · exact h1
    · exact Int.le_trans h1 (vldF_ge l x h'.2 r hr)
/-- The first k rows are valid, and row k is not: the list is not. -/
theorem vldB_at {l : List Rw} {k : Nat} {r : Rw} (hr : l[k]? = some r) (h : vldB l = true) : RowOk r ∧ ∀ p, 0 < k → l[k - 1]? = some p → Nxt p r := by
  have hk : k < l.length := (List.getElem?_eq_some_iff.1 hr).1
  have h1 : vldB (l.take (k + 1)) = true := by
    have := List.take_append_drop (k + 1) l
    rw [← this] at h
    exact vldB_append _ _ h
  refine ⟨vldB_ok l h r (List.mem_of_getElem? hr), fun p hk0 hp => ?_⟩
  have e : l.take (k + 1) = l.take (k - 1) ++ [p, r] := by
    obtain ⟨j, rfl⟩ : ∃ j, k = j + 1 := ⟨k - 1, by omega⟩
    rw [List.take_add_one, hr, List.take_add_one, show j + 1 - 1 = j by omega, show l[j]? = some p from hp]
    simp
  rw [e, vldB_snoc, Bool.and_eq_true, decide_eq_true_eq] at h1
  exact h1.2
theorem vldB_step {l : List Rw} {k : Nat} {r : Rw} (hr : l[k]? = some r) (h : vldB (l.take k) = true) (h1 : RowOk r) (h2 : ∀ p, 0 < k → l[k - 1]? = some p → Nxt p r) : vldB (l.take (k + 1)) = true := by
  cases k with
  | zero =>
    have e : l.take 1 = [r] := by rw [List.take_add_one, hr]; simp
    rw [e, vldB_one, decide_eq_true_eq]
    exact h1
  | succ j =>
    have hj : j < l.length := by have := (List.getElem?_eq_some_iff.1 hr).1; omega
    obtain ⟨p, hp⟩ : ∃ p, l[j]? = some p := ⟨_, List.getElem?_eq_getElem hj⟩
    have e1 : l.take (j + 1) = l.take j ++ [p] := by rw [List.take_add_one, hp]; rfl
    have e : l.take (j + 1 + 1) = l.take j ++ [p, r] := by rw [List.take_add_one, hr, e1]; simp
    rw [e, vldB_snoc, ← e1, h, Bool.true_and, Bool.and_eq_true, decide_eq_true_eq, decide_eq_true_eq]
    exact ⟨h1, h2 p (by omega) hp⟩

/-! Amounts. -/
def hit (s b m : Int) (r : Rw) : Prop := r.s = s ∧ r.b = b ∧ r.m ≤ m
instance (s b m : Int) (r : Rw) : Decidable (hit s b m r) := by unfold hit; exact inferInstance
def amtF (s b m : Int) : Int → List Rw → Int
  | v, [] => v
  | v, r :: l => amtF s b m (if hit s b m r then r.a else v) l
def amt (l : List Rw) (s b m : Int) : Int := amtF s b m 0 l
theorem amtF_bd {s b m lo hi : Int} : ∀ (l : List Rw) (v : Int), (∀ r ∈ l, lo ≤ r.a ∧ r.a ≤ hi) → lo ≤ v → v ≤ hi → lo ≤ amtF s b m v l ∧ amtF s b m v l ≤ hi
  | [], v, _, h1, h2 => ⟨h1, h2⟩
  | r :: l, v, h, h1, h2 => by
    have hr := h r (by simp)
    refine amtF_bd l _ (fun x hx => h x (by simp [hx])) ?_ ?_
    · split <;> omega
    · split <;> omega
theorem amtF_congr {s b m m' : Int} : ∀ (l : List Rw) (v : Int), (∀ r ∈ l, r.s = s → (r.m ≤ m ↔ r.m ≤ m')) → amtF s b m v l = amtF s b m' v l
  | [], v, _ => rfl
  | r :: l, v, h => by
    have hr := h r (by simp)
    have e : (if hit s b m r then r.a else v) = (if hit s b m' r then r.a else v) := by
      have hi : hit s b m r ↔ hit s b m' r := ⟨fun ⟨h1, h2, h3⟩ => ⟨h1, h2, (hr h1).1 h3⟩, fun ⟨h1, h2, h3⟩ => ⟨h1, h2, (hr h1).2 h3⟩⟩
      by_cases h : hit s b m r
      · rw [if_pos h, if_pos (hi.1 h)]
      · rw [if_neg h, if_neg fun h' => h (hi.2 h')]
    show amtF s b m _ l = amtF s b m' _ l
    rw [e, amtF_congr l _ fun x hx => h x (by simp [hx])]
/-- The amounts of the first k benefits. -/
def dueT (l : List Rw) (s m : Int) : Nat → Int
  | 0 => 0
  | k + 1 => dueT l s m k + amt l s ((k : Int) + 1) m
def dueL (l : List Rw) (s m : Int) : Int := dueT l s m 5
def AmtsIn (l : List Rw) (hi : Int) : Prop := ∀ r ∈ l, 0 ≤ r.a ∧ r.a ≤ hi
theorem amt_bd {l : List Rw} {hi : Int} (h : AmtsIn l hi) (h0 : 0 ≤ hi) (s b m : Int) : 0 ≤ amt l s b m ∧ amt l s b m ≤ hi := amtF_bd l 0 h (Int.le_refl 0) h0
theorem dueT_bd {l : List Rw} {hi : Int} (h : AmtsIn l hi) (h0 : 0 ≤ hi) (s m : Int) : ∀ k : Nat, 0 ≤ dueT l s m k ∧ dueT l s m k ≤ k * hi
  | 0 => by simp [dueT]
  | k + 1 => by
    have h1 := dueT_bd h h0 s m k
    have h2 := amt_bd h h0 s ((k : Int) + 1) m
    unfold dueT
    have e : ((k + 1 : Nat) : Int) * hi = (k : Int) * hi + hi := by rw [Int.natCast_add, Int.add_mul]; simp
    rw [e]
    omega
theorem dueL_bd {l : List Rw} {hi : Int} (h : AmtsIn l hi) (h0 : 0 ≤ hi) (s m : Int) : 0 ≤ dueL l s m ∧ dueL l s m ≤ 5 * hi := dueT_bd h h0 s m 5
theorem dueT_congr {l : List Rw} {s m m' : Int} (h : ∀ r ∈ l, r.s = s → (r.m ≤ m ↔ r.m ≤ m')) : ∀ k, dueT l s m k = dueT l s m' k
  | 0 => rfl
  | k + 1 => by
    unfold dueT
    rw [dueT_congr h k]
    unfold amt
    rw [amtF_congr l 0 h]
theorem dueL_congr {l : List Rw} {s m m' : Int} (h : ∀ r ∈ l, r.s = s → (r.m ≤ m ↔ r.m ≤ m')) : dueL l s m = dueL l s m' := dueT_congr h 5
theorem vldB_amts {l : List Rw} (h : vldB l = true) : AmtsIn l 1000000000000 := fun r hr => by
  obtain ⟨_, _, _, _, _, _, _, _, h1, h2⟩ := vldB_ok l h r hr
  exact ⟨h1, h2⟩

/-! Sums over months. -/
def sumD (l : List Rw) (s f : Int) : Nat → Int
  | 0 => 0
  | n + 1 => sumD l s f n + dueL l s (f + n)
theorem sumD_nn {l : List Rw} {hi : Int} (h : AmtsIn l hi) (h0 : 0 ≤ hi) (s f : Int) : ∀ n, 0 ≤ sumD l s f n ∧ sumD l s f n ≤ n * (5 * hi)
  | 0 => by simp [sumD]
  | n + 1 => by
    have h1 := sumD_nn h h0 s f n
    have h2 := dueL_bd h h0 s (f + n)
    unfold sumD
    have e : ((n + 1 : Nat) : Int) * (5 * hi) = (n : Int) * (5 * hi) + 5 * hi := by rw [Int.natCast_add, Int.add_mul]; simp
    rw [e]
    omega
theorem sumD_mono {l : List Rw} {hi : Int} (h : AmtsIn l hi) (h0 : 0 ≤ hi) (s f : Int) (n : Nat) : ∀ k, sumD l s f n ≤ sumD l s f (n + k)
  | 0 => Int.le_refl _
  | k + 1 => by
    have h1 := sumD_mono h h0 s f n k
    have h2 := dueL_bd h h0 s (f + (n + k : Nat))
    show _ ≤ sumD l s f (n + k) + dueL l s (f + (n + k : Nat))
    omega
theorem sumD_split (l : List Rw) (s f : Int) (n : Nat) : ∀ k, sumD l s f (n + k) = sumD l s f n + sumD l s (f + n) k
  | 0 => by simp [sumD]
  | k + 1 => by
    have ih := sumD_split l s f n k
    show sumD l s f (n + k) + dueL l s (f + (n + k : Nat)) = _ + (sumD l s (f + n) k + dueL l s (f + n + k))
    rw [ih, show f + ((n + k : Nat) : Int) = f + n + k by omega]
    omega
theorem sumD_const {l : List Rw} {s f v : Int} : ∀ n : Nat, (∀ j : Nat, j < n → dueL l s (f + j) = v) → sumD l s f n = n * v
  | 0, _ => by simp [sumD]
  | n + 1, h => by
    have ih := sumD_const n fun j hj => h j (by omega)
    show sumD l s f n + dueL l s (f + n) = _
    rw [ih, h n (by omega)]
    have e : ((n + 1 : Nat) : Int) * v = (n : Int) * v + v := by rw [Int.natCast_add, Int.add_mul]; simp
    omega
/-- Total's answer: the number and the error. -/
def totV (l : List Rw) (s f t : Int) : Int × Int :=
  if ¬(vldB l = true ∧ monB f = true ∧ monB t = true) then (0, 1)
  else if 1000000000000 < sumD l s f (t + 1 - f).toNat then (0, 2) else (sumD l s f (t + 1 - f).toNat, 0)
def dueV (l : List Rw) (s m : Int) : Int × Int :=
  if ¬(vldB l = true ∧ monB m = true) then (0, 1) else if 1000000000000 < dueL l s m then (0, 2) else (dueL l s m, 0)

/-! Segments: the months from which the amounts may differ. -/
/-- e is followed by e': no row of the state begins between them. -/
def Flat (l : List Rw) (s e e' : Int) : Prop := ∀ r ∈ l, r.s = s → ¬(e < r.m ∧ r.m < e')
theorem flat_due {l : List Rw} {s e e' k : Int} (h : Flat l s e e') (h1 : e ≤ k) (h2 : k < e') : dueL l s k = dueL l s e := by
  refine dueL_congr fun r hr hs => ?_
  have := h r hr hs
  constructor
  · intro h3
    by_cases h4 : r.m ≤ e
    · exact h4
    · exact absurd ⟨by omega, by omega⟩ this
  · intro h3
    omega
theorem flat_sum {l : List Rw} {s f e e' : Int} (h : Flat l s e e') (h0 : f ≤ e) (h1 : e ≤ e') : sumD l s f (e' - f).toNat = sumD l s f (e - f).toNat + dueL l s e * (e' - e) := by
  obtain ⟨k, hk⟩ : ∃ k : Nat, e' = e + k := ⟨(e' - e).toNat, by omega⟩
  have e1 : (e' - f).toNat = (e - f).toNat + k := by omega
  rw [e1, sumD_split, show f + ((e - f).toNat : Int) = e by omega, sumD_const (v := dueL l s e) k fun j hj => flat_due h (by omega) (by omega)]
  rw [show e' - e = (k : Int) by omega, Int.mul_comm]
/-- The beginnings of the segments: ascending, the first month first, and every month in between at which a row of the state begins. -/
def Segs (f t s : Int) (l : List Rw) (E : List Int) : Prop :=
  E.Pairwise (· < ·) ∧ E.head? = some f ∧ (∀ x ∈ E, f ≤ x ∧ x ≤ t) ∧ ∀ r ∈ l, r.s = s → f < r.m → r.m ≤ t → r.m ∈ E
theorem segs_flat {f t s : Int} {l : List Rw} {E : List Int} (h : Segs f t s l E) {k : Nat} {e : Int} (he : E[k]? = some e) : Flat l s e (match E[k + 1]? with | some e' => e' | none => t + 1) := by
  obtain ⟨h1, h2, h3, h4⟩ := h
  intro r hr hs ⟨h5, h6⟩
  have hel := (List.getElem?_eq_some_iff.1 he)
  obtain ⟨hk, hke⟩ := hel
  have hfe := (h3 e (List.mem_of_getElem? he))
  have hup : r.m ≤ t := by
    cases hn : E[k + 1]? with
    | none => rw [hn] at h6; simp only at h6; omega
    | some e' => rw [hn] at h6; simp only at h6; have := h3 e' (List.mem_of_getElem? hn); omega
  obtain ⟨j, hj⟩ := List.getElem?_of_mem (h4 r hr hs (by omega) hup)
  obtain ⟨hjl, hje⟩ := List.getElem?_eq_some_iff.1 hj
  have hpw := List.pairwise_iff_getElem.1 h1
  by_cases hjk : j ≤ k
  · by_cases hjk2 : j = k
    · subst hjk2
      rw [hke] at hje
      omega
    · have := hpw j k hjl hk (by omega)
      omega
  · have hk1 : k + 1 < E.length := by omega
    rw [List.getElem?_eq_getElem hk1] at h6
    simp only at h6
    by_cases hj2 : j = k + 1
    · subst hj2
      omega
    · have := hpw (k + 1) j hk1 hjl (by omega)
      omega

/-! Changes between two lists. -/
structure Ch where
  m : Int
  a : Int
def chN (l k : List Rw) (s f : Int) : Nat → List Ch
  | 0 => []
  | n + 1 => chN l k s f n ++ (if dueL l s (f + n) = dueL k s (f + n) then [] else [⟨f + n, dueL k s (f + n) - dueL l s (f + n)⟩])
theorem chN_length (l k : List Rw) (s f : Int) : ∀ n, (chN l k s f n).length ≤ n
  | 0 => Nat.le_refl 0
  | n + 1 => by
    have := chN_length l k s f n
    unfold chN
    rw [List.length_append]
    split <;> simp <;> omega
/-- Whether a month owes too much. -/
def ovN (l k : List Rw) (s f : Int) : Nat → Bool
  | 0 => false
  | n + 1 => ovN l k s f n || decide (1000000000000 < dueL l s (f + n) ∨ 1000000000000 < dueL k s (f + n))
theorem ovN_at {l k : List Rw} {s f : Int} : ∀ {n : Nat} {j : Nat}, j < n → (1000000000000 < dueL l s (f + j) ∨ 1000000000000 < dueL k s (f + j)) → ovN l k s f n = true
  | 0, j, hj, _ => by omega
  | n + 1, j, hj, h => by
    unfold ovN
    by_cases hjn : j = n
    · subst hjn
      simp [h]
    · rw [ovN_at (by omega) h]
      rfl
theorem ovN_no {l k : List Rw} {s f : Int} : ∀ {n : Nat}, (∀ j : Nat, j < n → dueL l s (f + j) ≤ 1000000000000 ∧ dueL k s (f + j) ≤ 1000000000000) → ovN l k s f n = false
  | 0, _ => rfl
  | n + 1, h => by
    unfold ovN
    rw [ovN_no fun j hj => h j (by omega)]
    have := h n (by omega)
    simp only [Bool.false_or, decide_eq_false_iff_not]
    omega
def difE (l k : List Rw) (s f t : Int) : Int :=
  if ¬(vldB l = true ∧ vldB k = true ∧ monB f = true ∧ monB t = true) then 1 else if ovN l k s f (t + 1 - f).toNat = true then 2 else 0
def difL (l k : List Rw) (s f t : Int) : List Ch :=
  if difE l k s f t = 0 then chN l k s f (t + 1 - f).toNat else []
theorem chN_flat_eq {l k : List Rw} {s f e : Int} (h0 : f ≤ e) : ∀ n : Nat, (∀ j : Nat, j < n → dueL l s (e + j) = dueL k s (e + j)) → chN l k s f ((e - f).toNat + n) = chN l k s f (e - f).toNat
  | 0, _ => rfl
  | n + 1, h => by
    have ih := chN_flat_eq h0 n fun j hj => h j (by omega)
    show chN l k s f ((e - f).toNat + n) ++ (if dueL l s (f + (((e - f).toNat + n : Nat) : Int)) = dueL k s (f + (((e - f).toNat + n : Nat) : Int)) then [] else _) = _
    rw [ih, show f + (((e - f).toNat + n : Nat) : Int) = e + n by omega, if_pos (h n (by omega)), List.append_nil]
theorem chN_snoc {l k : List Rw} {s f e v w : Int} (h0 : f ≤ e) (hv : dueL l s e = v) (hw : dueL k s e = w) (hne : v ≠ w) : chN l k s f (e + 1 - f).toNat = chN l k s f (e - f).toNat ++ [⟨e, w - v⟩] := by
  rw [show (e + 1 - f).toNat = (e - f).toNat + 1 by omega]
  show chN l k s f (e - f).toNat ++ _ = _
  rw [show f + ((e - f).toNat : Int) = e by omega, hv, hw, if_neg hne]
/-- The changes add up to the difference of the sums. -/
def sumC : List Ch → Int
  | [] => 0
  | c :: r => c.a + sumC r
theorem sumC_append : ∀ (x y : List Ch), sumC (x ++ y) = sumC x + sumC y
  | [], y => by simp [sumC]
  | c :: x, y => by
    show c.a + sumC (x ++ y) = _
    rw [sumC_append x y]
    show _ = c.a + sumC x + sumC y
    omega
theorem chN_sum (l k : List Rw) (s f : Int) : ∀ n, sumC (chN l k s f n) = sumD k s f n - sumD l s f n
  | 0 => by simp [chN, sumC, sumD]
  | n + 1 => by
    have ih := chN_sum l k s f n
    unfold chN sumD
    rw [sumC_append, ih]
    split
    · rename_i h
      rw [h]
      simp only [sumC]
      omega
    · simp only [sumC]
      omega
theorem chN_mem (l k : List Rw) (s f : Int) : ∀ n, ∀ c ∈ chN l k s f n, f ≤ c.m ∧ c.m < f + n ∧ c.a ≠ 0
  | 0, c, h => by simp [chN] at h
  | n + 1, c, h => by
    unfold chN at h
    rcases List.mem_append.1 h with h | h
    · have := chN_mem l k s f n c h
      omega
    · split at h
      · simp at h
      · simp at h
        subst h
        refine ⟨by show f ≤ f + n; omega, by show f + (n : Int) < f + ((n + 1 : Nat) : Int); omega, ?_⟩
        show dueL k s (f + n) - dueL l s (f + n) ≠ 0
        omega
theorem chN_sorted (l k : List Rw) (s f : Int) : ∀ n, (chN l k s f n).Pairwise (fun x y => x.m < y.m)
  | 0 => List.Pairwise.nil
  | n + 1 => by
    unfold chN
    rw [List.pairwise_append]
    refine ⟨chN_sorted l k s f n, ?_, fun x hx y hy => ?_⟩
    · split
      · exact List.Pairwise.nil
      · exact List.pairwise_singleton _ _
    · have := chN_mem l k s f n x hx
      split at hy
      · simp at hy
      · simp at hy
        subst hy
        show x.m < f + n
        omega
theorem chN_self (l : List Rw) (s f : Int) : ∀ n, chN l l s f n = []
  | 0 => rfl
  | n + 1 => by
    unfold chN
    rw [chN_self l s f n, if_pos rfl]
    rfl
/-! One field out of range, or a row twice. -/
theorem vldB_set {l : List Rw} {k : Nat} {r : Rw} (hk : k < l.length) (hr : ¬RowOk r) : vldB (l.set k r) = false := by
  cases h : vldB (l.set k r) with
  | false => rfl
  | true => exact absurd (vldB_ok _ h r (List.mem_of_getElem? (by rw [List.getElem?_set_self hk]))) hr
theorem vldB_dup {l : List Rw} {k : Nat} {r : Rw} (hr : l[k]? = some r) : vldB (l.take k ++ [r] ++ l.drop k) = false := by
  cases h : vldB (l.take k ++ [r] ++ l.drop k) with
  | false => rfl
  | true =>
    have hk : k < l.length := (List.getElem?_eq_some_iff.1 hr).1
    have hd : l.drop k = r :: l.drop (k + 1) := by
      rw [List.drop_eq_getElem_cons hk]
      congr 1
      have := List.getElem?_eq_getElem hk
      rw [hr] at this
      injection this with this
      exact this.symm
    have e : l.take k ++ [r] ++ l.drop k = (l.take k ++ [r, r]) ++ l.drop (k + 1) := by rw [hd]; simp
    rw [e] at h
    have h1 := vldB_append _ _ h
    rw [vldB_snoc, Bool.and_eq_true, decide_eq_true_eq] at h1
    have h2 := h1.2.1
    unfold Rlt at h2
    omega
/-! The rows of the statements: valid, small. -/
def RowsInv (O : List Rw) (s b m : Int) : Prop := O = [] ∨ ∃ O' p, O = O' ++ [p] ∧ p.s = s ∧ p.b = b ∧ p.m = m ∧ p.c = 1 + s
theorem rows_step {O : List Rw} {s b m : Int} (hi : RowsInv O s b m) (hv : vldB O = true) {q : Rw} (hq : RowOk q) (hc : q.c = 1 + q.s) (hn : s < q.s ∨ (s = q.s ∧ (b < q.b ∨ (b = q.b ∧ m < q.m)))) :
    vldB (O ++ [q]) = true ∧ RowsInv (O ++ [q]) q.s q.b q.m := by
  refine ⟨?_, .inr ⟨O, q, rfl, rfl, rfl, rfl, hc⟩⟩
  rcases hi with rfl | ⟨O', p, rfl, h1, h2, h3, h4⟩
  · rw [List.nil_append, vldB_one, decide_eq_true_eq]
    exact hq
  · rw [List.append_assoc]
    show vldB (O' ++ [p, q]) = true
    rw [vldB_snoc, hv, Bool.true_and, Bool.and_eq_true, decide_eq_true_eq, decide_eq_true_eq]
    refine ⟨hq, ?_, fun e => ?_⟩
    · unfold Rlt
      omega
    · omega
/-! What the laws draw from the answers. -/
theorem totV_parts {l : List Rw} {s x y z : Int} (hv : vldB l = true) (h1 : x ≤ y) (h2 : y < z) (h0 : 0 ≤ x) (h3 : z ≤ 2399) :
    totV l s (y + 1) y = (0, 0) ∧ ((totV l s x z).2 = 2 ∨ ((totV l s x z).2 = 0 ∧ (totV l s x y).2 = 0 ∧ (totV l s (y + 1) z).2 = 0 ∧ (totV l s x z).1 = (totV l s x y).1 + (totV l s (y + 1) z).1)) := by
  have hm : ∀ k : Int, x ≤ k → k ≤ z → monB k = true := fun k _ _ => (monB_iff k).2 (by omega)
  have ha := vldB_amts hv
  have e0 : ∀ f t : Int, x ≤ f → f ≤ z → x ≤ t → t ≤ z → totV l s f t = if 1000000000000 < sumD l s f (t + 1 - f).toNat then (0, 2) else (sumD l s f (t + 1 - f).toNat, 0) := fun f t a b c d => by
    unfold totV
    rw [if_neg (by rw [hv, hm f a b, hm t c d]; simp)]
  have hsp := sumD_split l s x (y + 1 - x).toNat (z + 1 - (y + 1)).toNat
  rw [show (y + 1 - x).toNat + (z + 1 - (y + 1)).toNat = (z + 1 - x).toNat by omega, show x + ((y + 1 - x).toNat : Int) = y + 1 by omega] at hsp
  have n1 := (sumD_nn ha (by omega) s x (y + 1 - x).toNat).1
  have n2 := (sumD_nn ha (by omega) s (y + 1) (z + 1 - (y + 1)).toNat).1
  refine ⟨?_, ?_⟩
  · rw [e0 (y + 1) y (by omega) (by omega) (by omega) (by omega), show (y + 1 - (y + 1)).toNat = 0 by omega]
    rfl
  · rw [e0 x z (by omega) (by omega) (by omega) (by omega), e0 x y (by omega) (by omega) (by omega) (by omega), e0 (y + 1) z (by omega) (by omega) (by omega) (by omega)]
    by_cases hb : 1000000000000 < sumD l s x (z + 1 - x).toNat
    · rw [if_pos hb]
      exact .inl rfl
    · rw [if_neg hb, if_neg (by omega), if_neg (by omega)]
      exact .inr ⟨rfl, rfl, rfl, hsp⟩
/-! What the program's map of currencies holds. -/
theorem vldF_mid : ∀ (A k : List Rw) (q r : Rw), vldF q (A ++ r :: k) = true → vldF r k = true
  | [], k, q, r, h => by
    have h' : (decide (RowOk r) && decide (Nxt q r) && vldF r k) = true := h
    rw [Bool.and_eq_true] at h'
    exact h'.2
  | x :: A, k, q, r, h => by
    have h' : (decide (RowOk x) && decide (Nxt q x) && vldF x (A ++ r :: k)) = true := h
    rw [Bool.and_eq_true] at h'
    exact vldF_mid A k x r h'.2
theorem vldB_mid (A k : List Rw) (r : Rw) (h : vldB (A ++ r :: k) = true) : vldF r k = true := by
  cases A with
  | nil =>
    have h' : (decide (RowOk r) && vldF r k) = true := h
    rw [Bool.and_eq_true] at h'
    exact h'.2
  | cons x A =>
    have h' : (decide (RowOk x) && vldF x (A ++ r :: k)) = true := h
    rw [Bool.and_eq_true] at h'
    exact vldF_mid A k x r h'.2
theorem vldB_last {L : List Rw} {p : Rw} (h : vldB (L ++ [p]) = true) : ∀ r ∈ L ++ [p], r.s ≤ p.s := by
  intro r hr
  rcases List.mem_append.1 hr with hr | hr
  · obtain ⟨A, B, rfl⟩ := List.append_of_mem hr
    rw [List.append_assoc] at h
    exact vldF_ge _ r (vldB_mid A (B ++ [p]) r h) p (by simp)
  · rw [List.mem_singleton.1 hr]
    exact Int.le_refl _
end Go.Proofs.Ytbogmkhoppffgaa
