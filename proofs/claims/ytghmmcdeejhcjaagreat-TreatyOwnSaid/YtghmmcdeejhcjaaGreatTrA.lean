/- Treaty rules in memory. -/
import Derived.Test.YtghmmcdeejhcjaaGreatSpA
import Derived.Test.YtghmmcdeejhcjaaGreatTreatyP
namespace Go.Proofs.YtghmmcdeejhcjaaGreat
open Go.RowKit

/-- Rules and the slice that holds their members. -/
structure Rv where
  r : Ru
  a : Option Addr
  c : Nat
def Rv.cells (x : Rv) : List Value := [.int .i64 x.r.f, .int .i64 x.r.d, .int .i64 x.r.p, .int .i64 x.r.b, .slice x.a x.r.m.length x.c]
def Rv.agg (x : Rv) : Value := .agg #[.int .i64 x.r.f, .int .i64 x.r.d, .int .i64 x.r.p, .int .i64 x.r.b, .slice x.a x.r.m.length x.c]
theorem rv_len (x : Rv) : x.cells.length = 5 := rfl
theorem rv_flen (l : List Rv) : (flat Rv.cells l).length = l.length * 5 := flat_length rv_len l
theorem rv_one (l : List Rv) : ∀ u ∈ flat Rv.cells l, u.oneCell' = true := by
  intro u hu
  obtain ⟨x, _, hx⟩ := List.mem_flatMap.1 hu
  simp [Rv.cells] at hx
  rcases hx with rfl | rfl | rfl | rfl | rfl <;> rfl
theorem info_rules : (Tryz.prog.info? 31).map (fun i => (i.zero, i.size, i.bytes)) = some (some (.agg #[.int .i64 0, .int .i64 0, .int .i64 0, .int .i64 0, .slice none 0 0]), 5, 56) := by kernel_rfl
/-- A slice of rules whose members lie below B. -/
def Rus (w : World) (B : Nat) (A : Option Addr) (n : Nat) (X : List Rv) : Prop := Rd w B 5 A n (flat Rv.cells X) ∧ X.length = n ∧ ∀ x ∈ X, Rd w B 1 x.a x.r.m.length (ints x.r.m)
theorem Rus.below {w w' : World} {B n : Nat} {A : Option Addr} {X : List Rv} (h : Rus w B A n X) (hb : Below B w w') : Rus w' B A n X := ⟨h.1.below hb, h.2.1, fun x hx => (h.2.2 x hx).below hb⟩
theorem Rus.mono {w : World} {B B' n : Nat} {A : Option Addr} {X : List Rv} (h : Rus w B A n X) (hB : B ≤ B') : Rus w B' A n X := ⟨h.1.mono hB, h.2.1, fun x hx => (h.2.2 x hx).mono hB⟩
theorem Rus.to {w w' : World} {n : Nat} {A : Option Addr} {X : List Rv} (h : Rus w w.heap.size A n X) (hb : Below w.heap.size w w') : Rus w' w'.heap.size A n X := (h.below hb).mono hb.size
/-- The cells of one. -/
theorem rv_cells {w : World} {B n : Nat} {A : Option Addr} {X : List Rv} (h : Rus w B A n X) {k : Nat} {x : Rv} (hx : X[k]? = some x) :
    k < n ∧ ∃ b o, A = some ⟨b, o, none⟩ ∧ b < B ∧ w.cell? ⟨b, o + k * 5, none⟩ = some (.int .i64 x.r.f) ∧ w.cell? ⟨b, o + k * 5 + 1, none⟩ = some (.int .i64 x.r.d) ∧ w.cell? ⟨b, o + k * 5 + 2, none⟩ = some (.int .i64 x.r.p) ∧ w.cell? ⟨b, o + k * 5 + 3, none⟩ = some (.int .i64 x.r.b) ∧
      w.cell? ⟨b, o + k * 5 + 4, none⟩ = some (.slice x.a x.r.m.length x.c) ∧ Rd w B 1 x.a x.r.m.length (ints x.r.m) := by
  obtain ⟨hk, b, o, e, hb, hc⟩ := h.1.elem rv_len hx (by omega)
  exact ⟨hk, b, o, e, hb, by simpa using hc 0 _ rfl, hc 1 _ rfl, hc 2 _ rfl, hc 3 _ rfl, hc 4 _ rfl, h.2.2 x (List.mem_of_getElem? hx)⟩
set_option maxHeartbeats 2000000 in
theorem tvalid_any (n : Int) (w : World) : Calls Tryz.prog 15 #[.int .i64 n] w fun e w' => e = .returned (.bool (isD n)) ∧ w = w' := by
  by_cases h1 : 0 ≤ n
  · have d1 : decide (0 ≤ n) = true := by simpa using h1
    by_cases h2 : n ≤ 73048
    · have d2 : decide (n ≤ 73048) = true := by simpa using h2
      go_enter Tryz.func15, Tryz.ntmps15
      go_wp2
      go_ret
      exact ⟨ret_bool (by simp [isD]; omega), rfl⟩
    · have d2 : decide (n ≤ 73048) = false := by simpa using h2
      go_enter Tryz.func15, Tryz.ntmps15
      go_wp2
      go_ret
      exact ⟨ret_bool (by simp [isD]; omega), rfl⟩
  · have d1 : decide (0 ≤ n) = false := by simpa using h1
    go_enter Tryz.func15, Tryz.ntmps15
    go_wp2
    go_ret
    exact ⟨ret_bool (by simp [isD]; omega), rfl⟩
/-- A literal: a row of the call's own, full. -/
theorem own_full {w : World} {base g e sz n : Nat} {cs : Array Value} (h : w.heap[g]? = some (.cells cs e (0, 0))) (hb : base ≤ g) (hs : cs.size = n * sz) (hn : n ≤ maxLen) : w.ownsRow base e sz (.slice (some ⟨g, 0, none⟩) n n) n cs.toList :=
  ⟨by simpa using hs, .inr ⟨g, n, cs, rfl, hb, h, Nat.le_refl _, hn, hs, by rw [List.take_of_length_le (by simp [hs])]⟩⟩
end Go.Proofs.YtghmmcdeejhcjaaGreat
