/- The reference's Ins: one number more in an ascending list of numbers. -/
import Derived.Test.YtghmmcdeejhcjaaGreatBase
import Derived.Lib.Hide
import Derived.Test.YtghmmcdeejhcjaaGreatRows
import Derived.WalkSpells
import Derived.WalkLawsBesides
import Derived.Deep.RegionLaw
import Derived.Deep.DeepCutAuto
import Derived.Deep.CutBlock
import Derived.BigRegion
namespace Go.Proofs.YtghmmcdeejhcjaaGreat
open Go.RowKit

def ints (l : List Int) : List Value := l.map (Value.int .i64)
theorem ints_length (l : List Int) : (ints l).length = l.length := by simp [ints]
theorem ints_at (l : List Int) (k : Nat) : (ints l)[k]? = (l[k]?).map (Value.int .i64) := by simp [ints]
theorem ints_one (l : List Int) : ∀ u ∈ ints l, u.oneCell' = true := by
  intro u hu
  obtain ⟨x, _, rfl⟩ := List.mem_map.1 hu
  rfl
theorem ints_append (l k : List Int) : ints (l ++ k) = ints l ++ ints k := by simp [ints]

theorem Rd.int {w : World} {B n : Nat} {A : Option Addr} {l : List Int} (h : Rd w B 1 A n (ints l)) {k : Nat} {x : Int} (hx : l[k]? = some x) :
    k < n ∧ ∃ b o, A = some ⟨b, o, none⟩ ∧ b < B ∧ w.cell? ⟨b, o + k, none⟩ = some (.int .i64 x) := by
  have hl := h.1
  rw [ints_length, Nat.mul_one] at hl
  have hk : k < n := by rw [← hl]; exact (List.getElem?_eq_some_iff.1 hx).1
  obtain ⟨b, o, hA, hb, hc⟩ := h.2 (by omega)
  exact ⟨hk, b, o, hA, hb, hc k _ (by rw [ints_at, hx]; rfl)⟩
theorem Rd.len1 {w : World} {B n : Nat} {A : Option Addr} {l : List Int} (h : Rd w B 1 A n (ints l)) : l.length = n := by
  have := h.1
  rwa [ints_length, Nat.mul_one] at this

/-- The first k elements. -/
theorem Rd.take {w : World} {B sz n : Nat} {A : Option Addr} {xs : List Value} (h : Rd w B sz A n xs) {k : Nat} (hk : k ≤ n) : Rd w B sz A k (xs.take (k * sz)) := by
  refine ⟨?_, fun hk0 => ?_⟩
  · rw [List.length_take, h.1]
    exact Nat.min_eq_left (Nat.mul_le_mul_right _ hk)
  · obtain ⟨b, o, hA, hb, hc⟩ := h.2 (by omega)
    refine ⟨b, o, hA, hb, fun j u hu => hc j u ?_⟩
    rw [List.getElem?_take] at hu
    split at hu
    · exact hu
    · cases hu
/-- The elements from k on. -/
theorem Rd.drop {w : World} {B sz n : Nat} {A : Option Addr} {xs : List Value} (h : Rd w B sz A n xs) {k c : Nat} (hk : k ≤ n) (hc : n ≤ c) :
    Rd w B sz (if c = k then A else A.map (·.add (k * sz))) (n - k) (xs.drop (k * sz)) := by
  refine ⟨?_, fun hk0 => ?_⟩
  · rw [List.length_drop, h.1, Nat.sub_mul]
  · obtain ⟨b, o, hA, hb, hcell⟩ := h.2 (by omega)
    refine ⟨b, o + k * sz, ?_, hb, fun j u hu => ?_⟩
    · rw [if_neg (by omega), hA]
      simp [addAt]
    · rw [List.getElem?_drop] at hu
      rw [Nat.add_assoc]
      exact hcell _ u hu

/-- One number more. -/
def insS (l : List Int) (n : Int) : List Int := l.filter (fun x => decide (x < n)) ++ n :: l.filter (fun x => decide (n < x))

theorem filter_split {l : List Int} {n : Int} {k : Nat} (h1 : ∀ x ∈ l.take k, x < n) (h2 : ∀ x ∈ l.drop k, n ≤ x) : l.filter (fun x => decide (x < n)) = l.take k := by
  have e : l = l.take k ++ l.drop k := (List.take_append_drop k l).symm
  have e1 : (l.take k).filter (fun x => decide (x < n)) = l.take k := List.filter_eq_self.2 fun x hx => by simpa using h1 x hx
  have e2 : (l.drop k).filter (fun x => decide (x < n)) = [] := List.filter_eq_nil_iff.2 fun x hx => by have := h2 x hx; simp; omega
  conv => lhs; rw [e]
  rw [List.filter_append, e1, e2, List.append_nil]
theorem filter_split2 {l : List Int} {n : Int} {k : Nat} (h1 : ∀ x ∈ l.take k, x < n) (h2 : ∀ x ∈ l.drop k, n < x) : l.filter (fun x => decide (n < x)) = l.drop k := by
  have e : l = l.take k ++ l.drop k := (List.take_append_drop k l).symm
  have e1 : (l.take k).filter (fun x => decide (n < x)) = [] := List.filter_eq_nil_iff.2 fun x hx => by have := h1 x hx; simp; omega
  have e2 : (l.drop k).filter (fun x => decide (n < x)) = l.drop k := List.filter_eq_self.2 fun x hx => by simpa using h2 x hx
  conv => lhs; rw [e]
  rw [List.filter_append, e1, e2, List.nil_append]
/-- n is there already, at place k. -/
theorem insS_there {l : List Int} {n : Int} (hs : l.Pairwise (· < ·)) {k : Nat} (hk : l[k]? = some n) : insS l n = l := by
  have hkl := (List.getElem?_eq_some_iff.1 hk).1
  have hge := (List.getElem?_eq_some_iff.1 hk).2
  have e : l = l.take k ++ n :: l.drop (k + 1) := by
    conv => lhs; rw [← List.take_append_drop k l]
    rw [List.drop_eq_getElem_cons hkl, hge]
  rw [e] at hs
  obtain ⟨p1, p2, p3⟩ := List.pairwise_append.1 hs
  obtain ⟨p4, p5⟩ := List.pairwise_cons.1 p2
  have a1 : ∀ x ∈ l.take k, x < n := fun x hx => p3 x hx n (by simp)
  have a2 : ∀ x ∈ l.drop k, n ≤ x := by
    intro x hx
    rw [List.drop_eq_getElem_cons hkl, hge] at hx
    rcases List.mem_cons.1 hx with rfl | hx
    · exact Int.le_refl _
    · exact Int.le_of_lt (p4 x hx)
  have b1 : ∀ x ∈ l.take (k + 1), x ≤ n := by
    intro x hx
    rw [List.take_add_one, hk] at hx
    rcases List.mem_append.1 hx with hx | hx
    · exact Int.le_of_lt (a1 x hx)
    · simp at hx
      omega
  unfold insS
  rw [filter_split a1 a2]
  have e2 : l.filter (fun x => decide (n < x)) = l.drop (k + 1) := by
    have c : l = l.take (k + 1) ++ l.drop (k + 1) := (List.take_append_drop (k + 1) l).symm
    have c1 : (l.take (k + 1)).filter (fun x => decide (n < x)) = [] := List.filter_eq_nil_iff.2 fun x hx => by have := b1 x hx; simp; omega
    have c2 : (l.drop (k + 1)).filter (fun x => decide (n < x)) = l.drop (k + 1) := List.filter_eq_self.2 fun x hx => by simpa using p4 x hx
    conv => lhs; rw [c]
    rw [List.filter_append, c1, c2, List.nil_append]
  rw [e2]
  exact e.symm
/-- n belongs at place k. -/
theorem insS_new {l : List Int} {n : Int} {k : Nat} (h1 : ∀ x ∈ l.take k, x < n) (h2 : ∀ x ∈ l.drop k, n < x) : insS l n = l.take k ++ n :: l.drop k := by
  unfold insS
  rw [filter_split h1 (fun x hx => Int.le_of_lt (h2 x hx)), filter_split2 h1 h2]
theorem mem_insS (l : List Int) (n x : Int) : x ∈ insS l n ↔ x = n ∨ x ∈ l := by
  unfold insS
  simp only [List.mem_append, List.mem_filter, List.mem_cons, decide_eq_true_eq]
  constructor
  · rintro (⟨h, _⟩ | h | ⟨h, _⟩)
    · exact .inr h
    · exact .inl h
    · exact .inr h
  · rintro (h | h)
    · exact .inr (.inl h)
    · rcases Int.lt_trichotomy x n with h1 | h1 | h1
      · exact .inl ⟨h, h1⟩
      · exact .inr (.inl h1)
      · exact .inr (.inr ⟨h, h1⟩)
theorem sorted_insS {l : List Int} (n : Int) (h : l.Pairwise (· < ·)) : (insS l n).Pairwise (· < ·) := by
  unfold insS
  refine List.pairwise_append.2 ⟨h.filter _, List.pairwise_cons.2 ⟨fun x hx => ?_, h.filter _⟩, fun x hx y hy => ?_⟩
  · simpa using (List.mem_filter.1 hx).2
  · have h1 : x < n := by simpa using (List.mem_filter.1 hx).2
    rcases List.mem_cons.1 hy with rfl | hy
    · exact h1
    · have h2 : n < y := by simpa using (List.mem_filter.1 hy).2
      omega
theorem length_insS (l : List Int) (n : Int) : (insS l n).length ≤ l.length + 1 := by
  unfold insS
  have h1 := List.length_filter_le (fun x : Int => decide (x < n)) l
  have h : ∀ l : List Int, (l.filter (fun x => decide (x < n))).length + (l.filter (fun x => decide (n < x))).length ≤ l.length := by
    intro l
    induction l with
    | nil => simp
    | cons y r ih =>
      simp only [List.filter_cons]
      rcases Int.lt_trichotomy y n with h1 | h1 | h1
      · have h2 : ¬ n < y := by omega
        simp only [h1, h2, decide_true, decide_false, if_true, List.length_cons, Bool.false_eq_true, if_false]
        omega
      · have h2 : ¬ n < y := by omega
        have h3 : ¬ y < n := by omega
        simp only [h3, h2, decide_false, List.length_cons, Bool.false_eq_true, if_false]
        omega
      · have h2 : ¬ y < n := by omega
        simp only [h1, h2, decide_true, decide_false, if_true, List.length_cons, Bool.false_eq_true, if_false]
        omega
  have := h l
  simp
  omega
theorem insS_nodup {l : List Int} (h : l.Pairwise (· < ·)) {k : List Int} (hk : k.Pairwise (· < ·)) (he : ∀ x, x ∈ l ↔ x ∈ k) : l = k := by
  have hp : l.Perm k := (List.perm_ext_iff_of_nodup (h.imp (fun a => Int.ne_of_lt a)) (hk.imp (fun a => Int.ne_of_lt a))).2 he
  exact hp.eq_of_pairwise (fun a b _ _ h1 h2 => by omega) h hk
end Go.Proofs.YtghmmcdeejhcjaaGreat
