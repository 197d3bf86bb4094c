/- A fact made out of numbers, letter by letter, in plain Lean. No program of the seat is named here. -/
import Derived.Test.YtbogmkhoppffgaaFact
namespace Go.Proofs.Ytbogmkhoppffgaa

/-- The fact y behind the first j letters: what is set is in its range, all else is 0. -/
structure MkI (p k F T : Int) (U : List UInt8) (j : Nat) (y : Fc) : Prop where
  i : 0 ≤ y.i ∧ y.i ≤ 5
  n : 1 ≤ y.n ∧ y.n ≤ 999
  v : 1 ≤ y.v ∧ y.v ≤ 99
  fp : y.p = p
  fk : y.k = k
  sp : 80 ∈ U.take j → y.f = F ∧ y.t = T
  s : FldOk (U.take j) 83 y.s 0 5
  e : FldOk (U.take j) 84 y.e 0 5
  h : FldOk (U.take j) 72 y.h 1 100
  c : FldOk (U.take j) 67 y.c 1 999
  a : FldOk (U.take j) 65 y.a 0 1000000000
  r : FldOk (U.take j) 82 y.r 1 99
  q4 : k = 4 → 84 ∈ U.take j → y.s ≠ y.e
  q2 : k = 10 ∨ k = 14 → 82 ∈ U.take j → y.r ≠ p
theorem take_mem {U : List UInt8} {j : Nat} {l m : UInt8} (h : U[j]? = some l) : m ∈ U.take (j + 1) ↔ m ∈ U.take j ∨ m = l := by
  rw [List.take_add_one, h]
  simp
theorem FldOk.keep {U : List UInt8} {j : Nat} {l m : UInt8} {x lo hi : Int} (h : FldOk (U.take j) m x lo hi) (hl : U[j]? = some l) (hne : m ≠ l) : FldOk (U.take (j + 1)) m x lo hi :=
  ⟨fun hm => h.1 (((take_mem hl).1 hm).resolve_right hne), fun hm => h.2 (fun e => hm ((take_mem hl).2 (.inl e)))⟩
theorem FldOk.now {U : List UInt8} {j : Nat} {l : UInt8} {x lo hi : Int} (hl : U[j]? = some l) (hx : lo ≤ x ∧ x ≤ hi) : FldOk (U.take (j + 1)) l x lo hi :=
  ⟨fun _ => hx, fun hm => absurd ((take_mem hl).2 (.inr rfl)) hm⟩
theorem FldOk.none {m : UInt8} {lo hi : Int} {U : List UInt8} : FldOk (U.take 0) m 0 lo hi := ⟨fun hm => by simp at hm, fun _ => rfl⟩
theorem mkI_start {i n v p k F T : Int} {g : Bool} {U : List UInt8} (hi : 0 ≤ i ∧ i ≤ 5) (hn : 1 ≤ n ∧ n ≤ 999) (hv : 1 ≤ v ∧ v ≤ 99) : MkI p k F T U 0 ⟨i, n, v, g, p, k, 0, 0, 0, 0, 0, 0, 0, 0⟩ :=
  ⟨hi, hn, hv, rfl, rfl, fun hm => by simp at hm, .none, .none, .none, .none, .none, .none, fun _ hm => by simp at hm, fun _ hm => by simp at hm⟩
section
variable {p k F T : Int} {U : List UInt8} {j : Nat} {y : Fc}
theorem MkI.setS (m : MkI p k F T U j y) (hl : U[j]? = some 83) (h4 : k = 4 → 84 ∉ U.take (j + 1)) {z : Int} (hz : 0 ≤ z ∧ z ≤ 5) : MkI p k F T U (j + 1) { y with s := z } :=
  ⟨m.i, m.n, m.v, m.fp, m.fk, fun hm => m.sp (((take_mem hl).1 hm).resolve_right (by decide)), .now hl hz, m.e.keep hl (by decide), m.h.keep hl (by decide), m.c.keep hl (by decide), m.a.keep hl (by decide), m.r.keep hl (by decide),
    fun h hm => absurd hm (h4 h), fun h hm => m.q2 h (((take_mem hl).1 hm).resolve_right (by decide))⟩
theorem MkI.setP (m : MkI p k F T U j y) (hl : U[j]? = some 80) : MkI p k F T U (j + 1) { y with f := F, t := T } :=
  ⟨m.i, m.n, m.v, m.fp, m.fk, fun _ => ⟨rfl, rfl⟩, m.s.keep hl (by decide), m.e.keep hl (by decide), m.h.keep hl (by decide), m.c.keep hl (by decide), m.a.keep hl (by decide), m.r.keep hl (by decide),
    fun h hm => m.q4 h (((take_mem hl).1 hm).resolve_right (by decide)), fun h hm => m.q2 h (((take_mem hl).1 hm).resolve_right (by decide))⟩
theorem MkI.setT (m : MkI p k F T U j y) (hl : U[j]? = some 84) {z : Int} (hz : 0 ≤ z ∧ z ≤ 5) (h4 : k = 4 → y.s ≠ z) : MkI p k F T U (j + 1) { y with e := z } :=
  ⟨m.i, m.n, m.v, m.fp, m.fk, fun hm => m.sp (((take_mem hl).1 hm).resolve_right (by decide)), m.s.keep hl (by decide), .now hl hz, m.h.keep hl (by decide), m.c.keep hl (by decide), m.a.keep hl (by decide), m.r.keep hl (by decide),
    fun h _ => h4 h, fun h hm => m.q2 h (((take_mem hl).1 hm).resolve_right (by decide))⟩
theorem MkI.setH (m : MkI p k F T U j y) (hl : U[j]? = some 72) {z : Int} (hz : 1 ≤ z ∧ z ≤ 100) : MkI p k F T U (j + 1) { y with h := z } :=
  ⟨m.i, m.n, m.v, m.fp, m.fk, fun hm => m.sp (((take_mem hl).1 hm).resolve_right (by decide)), m.s.keep hl (by decide), m.e.keep hl (by decide), .now hl hz, m.c.keep hl (by decide), m.a.keep hl (by decide), m.r.keep hl (by decide),
    fun h hm => m.q4 h (((take_mem hl).1 hm).resolve_right (by decide)), fun h hm => m.q2 h (((take_mem hl).1 hm).resolve_right (by decide))⟩
theorem MkI.setC (m : MkI p k F T U j y) (hl : U[j]? = some 67) {z : Int} (hz : 1 ≤ z ∧ z ≤ 999) : MkI p k F T U (j + 1) { y with c := z } :=
  ⟨m.i, m.n, m.v, m.fp, m.fk, fun hm => m.sp (((take_mem hl).1 hm).resolve_right (by decide)), m.s.keep hl (by decide), m.e.keep hl (by decide), m.h.keep hl (by decide), .now hl hz, m.a.keep hl (by decide), m.r.keep hl (by decide),
    fun h hm => m.q4 h (((take_mem hl).1 hm).resolve_right (by decide)), fun h hm => m.q2 h (((take_mem hl).1 hm).resolve_right (by decide))⟩
theorem MkI.setA (m : MkI p k F T U j y) (hl : U[j]? = some 65) {z : Int} (hz : 0 ≤ z ∧ z ≤ 1000000000) : MkI p k F T U (j + 1) { y with a := z } :=
  ⟨m.i, m.n, m.v, m.fp, m.fk, fun hm => m.sp (((take_mem hl).1 hm).resolve_right (by decide)), m.s.keep hl (by decide), m.e.keep hl (by decide), m.h.keep hl (by decide), m.c.keep hl (by decide), .now hl hz, m.r.keep hl (by decide),
    fun h hm => m.q4 h (((take_mem hl).1 hm).resolve_right (by decide)), fun h hm => m.q2 h (((take_mem hl).1 hm).resolve_right (by decide))⟩
theorem MkI.setR (m : MkI p k F T U j y) (hl : U[j]? = some 82) {z : Int} (hz : 1 ≤ z ∧ z ≤ 99) (h2 : z ≠ p) : MkI p k F T U (j + 1) { y with r := z } :=
  ⟨m.i, m.n, m.v, m.fp, m.fk, fun hm => m.sp (((take_mem hl).1 hm).resolve_right (by decide)), m.s.keep hl (by decide), m.e.keep hl (by decide), m.h.keep hl (by decide), m.c.keep hl (by decide), m.a.keep hl (by decide), .now hl hz,
    fun h hm => m.q4 h (((take_mem hl).1 hm).resolve_right (by decide)), fun _ _ => h2⟩
end
/-- Every kind has a span; the state of a posting is set first. -/
theorem use80 {k : Int} (h1 : 1 ≤ k) (h2 : k ≤ 14) : 80 ∈ useL k := by
  rcases kinds h1 h2 with rfl | rfl | rfl | rfl | rfl | rfl | rfl | rfl | rfl | rfl | rfl | rfl | rfl | rfl <;> decide
theorem use4 : useL 4 = [83, 80, 84] := rfl
theorem use4_s {j : Nat} (h : (useL 4)[j]? = some 83) : 84 ∉ (useL 4).take (j + 1) := by
  rw [use4] at h ⊢
  match j, h with
  | 0, _ => decide
  | 1, h => simp at h
  | 2, h => simp at h
theorem MkI.vld {p k F T : Int} {U : List UInt8} {y : Fc} (hU : U = useL k) (m : MkI p k F T U U.length y) (hk1 : 1 ≤ k) (hk2 : k ≤ 14) (hp : 1 ≤ p ∧ p ≤ 99) (hF : 0 ≤ F ∧ F < T ∧ T ≤ 73049) (h1 : k = 11 ∨ k = 12 → T = F + 1) : Vld y := by
  obtain ⟨q1, q2, q3, q5, q6, q7, q8, q9, q10, q11, q12, q13, q14, q15⟩ := m
  rw [List.take_length] at q7 q8 q9 q10 q11 q12 q13 q14 q15
  subst hU
  have h80 := use80 hk1 hk2
  obtain ⟨e1, e2⟩ := q7 h80
  obtain rfl : y.k = k := q6
  refine ⟨q1, q2, q3, by omega, ⟨hk1, hk2⟩, by omega, q8, q9, q10, q11, q12, q13, fun h => q14 h (by rw [h]; decide), fun h => ?_, fun h => ?_⟩
  · have := h1 h
    omega
  · rw [q5]
    refine q15 h ?_
    rcases h with h | h <;> rw [h] <;> decide
/-- A raw fact. -/
structure Rf where
  i : Int
  n : Int
  v : Int
  g : Bool
  p : Int
  k : Int
  s : Int
  e : Int
  f : Int
  l : Int
  h : Int
  a : Int
  r : Int
end Go.Proofs.Ytbogmkhoppffgaa
