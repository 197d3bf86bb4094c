/- What the program's matrices and the reference's list say of each other; plain Lean. -/
import Derived.Test.YtldkblkcbffelaaCurA
import Derived.Test.YtldkblkcbffelaaCurB
namespace Go.Proofs.Ytldkblkcbffelaa

def Dt.ok (x : Dt) : Prop := validB x.d x.c x.u x.a = true
theorem Dt.ok.nums {x : Dt} (h : x.ok) : 0 ≤ x.d ∧ x.d < 6 ∧ 0 ≤ x.c ∧ x.c < 6 ∧ x.d ≠ x.c ∧ 1 ≤ x.u ∧ x.u ≤ 999 ∧ 1 ≤ x.a ∧ x.a ≤ 1000000000000 := by simpa [Dt.ok, validB] using h

/-- The matrices hold what the list of debts says. -/
def Rel (m : List (Int × (Nat → Nat → Int))) (L : List Dt) : Prop := ∀ (u : Int) (a b : Nat), mat m u a b = rbet L a b u
theorem Rel.start : Rel [] [] := fun _ _ _ => rfl
theorem mat_setKey (m : List (Int × (Nat → Nat → Int))) (u : Int) (E : Nat → Nat → Int) (v : Int) : mat (setKey m u E) v = if v = u then E else mat m v := by
  unfold mat
  rw [look_setKey]
  split <;> rfl
theorem rbet_app (L : List Dt) (x : Dt) (s t u : Int) : rbet (L ++ [x]) s t u = bstep s t u (rbet L s t u) x := by simp [rbet, List.foldl_append]
theorem Rel.step {m : List (Int × (Nat → Nat → Int))} {L : List Dt} (h : Rel m L) {d c : Nat} {u a : Int} (hdc : d ≠ c) :
    Rel (setKey m u (entered (mat m u) d c a)) (L ++ [⟨d, c, u, a⟩]) := by
  intro v x y
  rw [mat_setKey, rbet_app, ← h v x y]
  by_cases hv : v = u
  · subst hv
    unfold bstep entered setM
    simp only [if_true, beq_self_eq_true]
    by_cases h1 : x = c ∧ y = d
    · obtain ⟨rfl, rfl⟩ := h1
      have e1 : ((y : Int) == (x : Int)) = false := beq_eq_false_iff_ne.2 (by omega)
      simp [e1]
    · by_cases h2 : x = d ∧ y = c
      · obtain ⟨rfl, rfl⟩ := h2
        have e1 : ((x : Int) == (y : Int)) = false := beq_eq_false_iff_ne.2 (by omega)
        simp [hdc, e1]
      · have e1 : (((d : Int) == (x : Int)) && ((c : Int) == (y : Int))) = false := by simp; omega
        have e2 : (((d : Int) == (y : Int)) && ((c : Int) == (x : Int))) = false := by simp; omega
        simp [h1, h2, e1, e2]
  · have e : (u == v) = false := by simpa using fun e => hv e.symm
    simp [hv, bstep, e]

theorem colSum_add (M N : Nat → Nat → Int) (s : Nat) : ∀ k, colSum (fun a b => M a b + N a b) s k = colSum M s k + colSum N s k
  | 0 => rfl
  | k + 1 => by simp only [colSum, colSum_add M N s k]; omega
theorem colSum_sub (M N : Nat → Nat → Int) (s : Nat) : ∀ k, colSum (fun a b => M a b - N a b) s k = colSum M s k - colSum N s k
  | 0 => rfl
  | k + 1 => by simp only [colSum, colSum_sub M N s k]; omega
theorem colSum_ind (d c A : Int) (s : Nat) (hd : 0 ≤ d) : ∀ k : Nat, colSum (fun a b => if ((d == (a : Int)) && (c == (b : Int))) = true then A else 0) s k = if d < k ∧ c = s then A else 0
  | 0 => by have : ¬ d < ((0 : Nat) : Int) := by omega
            simp only [colSum, this, false_and, if_false]
  | k + 1 => by
    have ih := colSum_ind d c A s hd k
    have e : colSum (fun a b => if ((d == (a : Int)) && (c == (b : Int))) = true then A else 0) s (k + 1) = colSum (fun a b => if ((d == (a : Int)) && (c == (b : Int))) = true then A else 0) s k + (if ((d == (k : Int)) && (c == (s : Int))) = true then A else 0) := rfl
    rw [e, ih]
    by_cases h1 : c = s
    · by_cases h2 : d < k
      · have h3 : ((d == (k : Int)) && (c == (s : Int))) = false := by simp; omega
        have h4 : d < ((k + 1 : Nat) : Int) := by omega
        rw [if_pos (show d < ((k : Nat) : Int) ∧ c = s from ⟨h2, h1⟩), if_pos (show d < ((k + 1 : Nat) : Int) ∧ c = s from ⟨h4, h1⟩), h3]
        simp
      · by_cases h3 : d = k
        · have h4 : d < ((k + 1 : Nat) : Int) := by omega
          have h5 : ((d == (k : Int)) && (c == (s : Int))) = true := by simp [h1, h3]
          rw [if_neg (show ¬(d < ((k : Nat) : Int) ∧ c = s) from fun h => h2 h.1), if_pos (show d < ((k + 1 : Nat) : Int) ∧ c = s from ⟨h4, h1⟩), h5]
          simp
        · have h4 : ¬ d < ((k + 1 : Nat) : Int) := by omega
          have h5 : ((d == (k : Int)) && (c == (s : Int))) = false := by simp [h3]
          rw [if_neg (show ¬(d < ((k : Nat) : Int) ∧ c = s) from fun h => h2 h.1), if_neg (show ¬(d < ((k + 1 : Nat) : Int) ∧ c = s) from fun h => h4 h.1), h5]
          simp
    · have h5 : ((d == (k : Int)) && (c == (s : Int))) = false := by simp [h1]
      rw [if_neg (show ¬(d < ((k : Nat) : Int) ∧ c = s) from fun h => h1 h.2), if_neg (show ¬(d < ((k + 1 : Nat) : Int) ∧ c = s) from fun h => h1 h.2), h5]
      simp
theorem colSum_ind2 (d c A : Int) (s : Nat) (hc : 0 ≤ c) (k : Nat) : colSum (fun a b => if ((d == (b : Int)) && (c == (a : Int))) = true then A else 0) s k = if c < k ∧ d = s then A else 0 := by
  rw [← colSum_ind c d A s hc k]
  congr 1
  funext a b
  rw [Bool.and_comm]
theorem colSum_bstep (V : Nat → Nat → Int) (s : Nat) (u : Int) (x : Dt) (hx : x.ok) : colSum (fun a b => bstep a b u (V a b) x) s 6 = rstep s u (colSum V s 6) x := by
  obtain ⟨h1, h2, h3, h4, _⟩ := hx.nums
  by_cases hu : (x.u == u) = true
  · have e : (fun (a b : Nat) => bstep a b u (V a b) x) = fun a b => (fun a b => V a b + (fun (a b : Nat) => if ((x.d == (a : Int)) && (x.c == (b : Int))) = true then x.a else 0) a b) a b - (fun (a b : Nat) => if ((x.d == (b : Int)) && (x.c == (a : Int))) = true then x.a else 0) a b := by
      funext a b
      simp only [bstep, hu, if_true]
    rw [e, colSum_sub, colSum_add, colSum_ind _ _ _ _ h1, colSum_ind2 _ _ _ _ h3]
    have h2' : x.d < ((6 : Nat) : Int) := h2
    have h4' : x.c < ((6 : Nat) : Int) := h4
    simp only [rstep, hu, h2', h4', true_and, Bool.true_and, beq_iff_eq]
  · have hu' : (x.u == u) = false := by simpa using hu
    have e : (fun (a b : Nat) => bstep a b u (V a b) x) = V := by
      funext a b
      simp [bstep, hu']
    rw [e]
    simp [rstep, hu']
theorem col_fold (s : Nat) (u : Int) : ∀ (L : List Dt) (V : Nat → Nat → Int), (∀ x ∈ L, x.ok) → colSum (fun a b => L.foldl (bstep a b u) (V a b)) s 6 = L.foldl (rstep s u) (colSum V s 6)
  | [], _, _ => rfl
  | x :: L, V, h => by
    simp only [List.foldl_cons]
    rw [col_fold s u L (fun a b => bstep a b u (V a b) x) (fun y hy => h y (by simp [hy])), colSum_bstep V s u x (h x (by simp))]
theorem Rel.pos {m : List (Int × (Nat → Nat → Int))} {L : List Dt} (h : Rel m L) (hv : ∀ x ∈ L, x.ok) (u : Int) (s : Nat) : colSum (mat m u) s 6 = rpos L s u := by
  have e : mat m u = fun (a b : Nat) => L.foldl (bstep a b u) ((fun _ _ => 0) a b : Int) := by
    funext a b
    exact h u a b
  rw [e, col_fold s u L (fun _ _ => 0) hv]
  rfl
theorem Rel.bd {m : List (Int × (Nat → Nat → Int))} {L : List Dt} (h : Rel m L) (hv : ∀ x ∈ L, x.ok) (hl : L.length ≤ 900) (u : Int) : MBd 900000000000000 (mat m u) := by
  intro a b
  rw [h u a b]
  have := rbet_bd a b u L hv 0
  unfold rbet
  omega

theorem rbet_anti_fold (s t u : Int) : ∀ (L : List Dt) (v : Int), L.foldl (bstep t s u) (-v) = -(L.foldl (bstep s t u) v)
  | [], _ => rfl
  | x :: L, v => by
    rw [List.foldl_cons, List.foldl_cons, ← rbet_anti_fold s t u L]
    congr 1
    unfold bstep
    split
    · omega
    · rfl
theorem rbet_anti (L : List Dt) (s t u : Int) : rbet L t s u = -(rbet L s t u) := rbet_anti_fold s t u L 0
theorem rbet_self (L : List Dt) (s u : Int) : rbet L s s u = 0 := by have := rbet_anti L s s u; omega
theorem rbet_none (s t u : Int) : ∀ (L : List Dt) (v : Int), (∀ x ∈ L, ¬(x.u = u ∧ ((x.d = s ∧ x.c = t) ∨ (x.d = t ∧ x.c = s)))) → L.foldl (bstep s t u) v = v
  | [], _, _ => rfl
  | x :: L, v, h => by
    rw [List.foldl_cons]
    have hx := h x (by simp)
    have e : bstep s t u v x = v := by
      unfold bstep
      by_cases hu : x.u = u
      · have e1 : ((x.d == s) && (x.c == t)) = false := by
          cases hq : ((x.d == s) && (x.c == t)) with
          | false => rfl
          | true => simp at hq; exact absurd ⟨hu, .inl hq⟩ hx
        have e2 : ((x.d == t) && (x.c == s)) = false := by
          cases hq : ((x.d == t) && (x.c == s)) with
          | false => rfl
          | true => simp at hq; exact absurd ⟨hu, .inr hq⟩ hx
        simp [e1, e2]
      · simp [hu]
    rw [e]
    exact rbet_none s t u L v fun y hy => h y (by simp [hy])
theorem Rel.cur {m : List (Int × (Nat → Nat → Int))} {L : List Dt} (h : Rel m L) (hv : ∀ x ∈ L, x.ok) (c : Int) : nz (mat m c) = true ↔ c ∈ rcur L L := by
  rw [nz_iff, mem_rcur]
  constructor
  · rintro ⟨a, s, ha, hs, hne⟩
    rw [h c a s] at hne
    have hex : ∃ x ∈ L, x.u = c ∧ ((x.d = a ∧ x.c = s) ∨ (x.d = s ∧ x.c = a)) := by
      apply Classical.byContradiction
      intro hno
      exact hne (rbet_none a s c L 0 fun x hx hq => hno ⟨x, hx, hq⟩)
    obtain ⟨x, hx, hu, hq⟩ := hex
    refine ⟨x, hx, hu, ?_⟩
    rw [hu]
    rcases hq with ⟨e1, e2⟩ | ⟨e1, e2⟩
    · rw [e1, e2]; exact hne
    · rw [e1, e2, rbet_anti]; omega
  · rintro ⟨x, hx, hu, hne⟩
    obtain ⟨h1, h2, h3, h4, _⟩ := (hv x hx).nums
    refine ⟨x.d.toNat, x.c.toNat, by omega, by omega, ?_⟩
    rw [h c, show ((x.d.toNat : Nat) : Int) = x.d by omega, show ((x.c.toNat : Nat) : Int) = x.c by omega, ← hu]
    exact hne
theorem Rel.curs {m : List (Int × (Nat → Nat → Int))} {L : List Dt} (h : Rel m L) (hv : ∀ x ∈ L, x.ok) {out : List Int} (hs : out.Pairwise (· < ·)) (ho : ∀ c, c ∈ out ↔ nz (mat m c) = true) : out = rcur L L :=
  insS_nodup hs (rcur_sorted L L) fun x => by rw [ho x, h.cur hv]
/-- The answer of Post, and the debts behind it. -/
def wideB (L : List Dt) (x : Dt) : Bool := fitsB (rpos (L ++ [x]) x.d x.u) && fitsB (rpos (L ++ [x]) x.c x.u)
def codeOf (L : List Dt) (x : Dt) : Int := if validB x.d x.c x.u x.a = true then (if wideB L x = true then 0 else 2) else 1
def nextOf (L : List Dt) (x : Dt) : List Dt := if validB x.d x.c x.u x.a = true then (if wideB L x = true then L ++ [x] else L) else L
theorem nextOf_ok {L : List Dt} (h : ∀ x ∈ L, x.ok) (x : Dt) : ∀ y ∈ nextOf L x, y.ok := by
  unfold nextOf
  split
  · split
    · intro y hy
      rcases List.mem_append.1 hy with hy | hy
      · exact h y hy
      · rw [List.mem_singleton.1 hy]; assumption
    · exact h
  · exact h
theorem nextOf_length (L : List Dt) (x : Dt) : (nextOf L x).length ≤ L.length + 1 := by
  unfold nextOf
  split
  · split
    · simp
    · omega
  · omega
end Go.Proofs.Ytldkblkcbffelaa
