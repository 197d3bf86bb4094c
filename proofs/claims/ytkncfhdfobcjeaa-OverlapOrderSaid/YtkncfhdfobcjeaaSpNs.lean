/- A row of slices of spans (the lists that Pieces takes), each slice readable. -/
import Derived.Test.YtkncfhdfobcjeaaSpA
namespace Go.Proofs.Ytkncfhdfobcjeaa
open Go.RowKit

/-- The value v is a slice of the spans l, readable below B. -/
def Nv (w : World) (B : Nat) (v : Value) (l : List Sp) : Prop := ∃ A c, v = .slice A l.length c ∧ Rd w B 2 A l.length (flat Sp.cells l)
/-- The values vs are slices of the lists ls. -/
def Ns (w : World) (B : Nat) (vs : List Value) (ls : List (List Sp)) : Prop := vs.length = ls.length ∧ ∀ (i : Nat) (v : Value) (l : List Sp), vs[i]? = some v → ls[i]? = some l → Nv w B v l

theorem Nv.below {w w' : World} {B : Nat} {v : Value} {l : List Sp} (h : Nv w B v l) (hb : Below B w w') : Nv w' B v l := by
  obtain ⟨A, c, e, hr⟩ := h
  exact ⟨A, c, e, hr.below hb⟩
theorem Nv.mono {w : World} {B B' : Nat} {v : Value} {l : List Sp} (h : Nv w B v l) (hB : B ≤ B') : Nv w B' v l := by
  obtain ⟨A, c, e, hr⟩ := h
  exact ⟨A, c, e, hr.mono hB⟩
theorem Nv.grown {w w' : World} {B : Nat} {v : Value} {l : List Sp} {row : Option Nat} (h : Nv w B v l) (hg : w.grownBy w' row) (hB : B ≤ w.heap.size) (hr : ∀ g, row = some g → B ≤ g) : Nv w' B v l := by
  obtain ⟨A, c, e, hrd⟩ := h
  exact ⟨A, c, e, hrd.grown hg hB hr⟩
theorem Ns.nil (w : World) (B : Nat) : Ns w B [] [] := ⟨rfl, fun i v l h => by simp at h⟩
theorem Ns.below {w w' : World} {B : Nat} {vs : List Value} {ls : List (List Sp)} (h : Ns w B vs ls) (hb : Below B w w') : Ns w' B vs ls := ⟨h.1, fun i v l h1 h2 => (h.2 i v l h1 h2).below hb⟩
theorem Ns.mono {w : World} {B B' : Nat} {vs : List Value} {ls : List (List Sp)} (h : Ns w B vs ls) (hB : B ≤ B') : Ns w B' vs ls := ⟨h.1, fun i v l h1 h2 => (h.2 i v l h1 h2).mono hB⟩
theorem Ns.snoc {w : World} {B : Nat} {vs : List Value} {ls : List (List Sp)} {v : Value} {l : List Sp} (h : Ns w B vs ls) (hv : Nv w B v l) : Ns w B (vs ++ [v]) (ls ++ [l]) := by
  refine ⟨by simp [h.1], fun i u k h1 h2 => ?_⟩
  by_cases hi : i < vs.length
  · rw [List.getElem?_append_left hi] at h1
    rw [List.getElem?_append_left (by rw [← h.1]; exact hi)] at h2
    exact h.2 i u k h1 h2
  · rw [List.getElem?_append_right (by omega)] at h1
    rw [List.getElem?_append_right (by rw [← h.1]; omega), ← h.1] at h2
    have := (List.getElem?_eq_some_iff.1 h1).1
    have h0 : i - vs.length = 0 := by simp at this; omega
    rw [h0] at h1 h2
    simp at h1 h2
    subst h1 h2
    exact hv
theorem Ns.set {w : World} {B k : Nat} {vs : List Value} {ls : List (List Sp)} {v : Value} {l : List Sp} (h : Ns w B vs ls) (hv : Nv w B v l) : Ns w B (vs.set k v) (ls.set k l) := by
  refine ⟨by simp [h.1], fun i u q h1 h2 => ?_⟩
  by_cases hk : k = i
  · subst hk
    have l1 := (List.getElem?_eq_some_iff.1 h1).1
    have l2 := (List.getElem?_eq_some_iff.1 h2).1
    rw [List.length_set] at l1 l2
    rw [List.getElem?_set_self l1] at h1
    rw [List.getElem?_set_self l2] at h2
    cases h1
    cases h2
    exact hv
  · rw [List.getElem?_set_ne hk] at h1 h2
    exact h.2 i u q h1 h2
end Go.Proofs.Ytkncfhdfobcjeaa
