/- Facts in memory; which fields a kind uses. -/
import Derived.Test.YtbogmkhoppffgaaScA
import Derived.Test.YtbogmkhoppffgaaFact
namespace Go.Proofs.Ytbogmkhoppffgaa
open Go.RowKit

def Fc.cells (x : Fc) : List Value := [.int .i64 x.i, .int .i64 x.n, .int .i64 x.v, .bool x.g, .int .i64 x.p, .int .i64 x.k, .int .i64 x.s, .int .i64 x.f, .int .i64 x.t, .int .i64 x.e, .int .i64 x.h, .int .i64 x.c, .int .i64 x.a, .int .i64 x.r]
def Fc.agg (x : Fc) : Value := .agg #[.int .i64 x.i, .int .i64 x.n, .int .i64 x.v, .bool x.g, .int .i64 x.p, .int .i64 x.k, .int .i64 x.s, .int .i64 x.f, .int .i64 x.t, .int .i64 x.e, .int .i64 x.h, .int .i64 x.c, .int .i64 x.a, .int .i64 x.r]
theorem fc_len (x : Fc) : x.cells.length = 14 := rfl
theorem fc_flen (l : List Fc) : (flat Fc.cells l).length = l.length * 14 := flat_length fc_len l
theorem fc_one (l : List Fc) : ∀ u ∈ flat Fc.cells l, u.oneCell' = true := by
  intro u hu
  obtain ⟨x, _, hx⟩ := List.mem_flatMap.1 hu
  simp only [Fc.cells, List.mem_cons, List.not_mem_nil, or_false] at hx
  rcases hx with rfl | rfl | rfl | rfl | rfl | rfl | rfl | rfl | rfl | rfl | rfl | rfl | rfl | rfl <;> rfl
theorem info_fact : (Try.prog.info? 40).map (fun i => (i.zero, i.size, i.bytes)) = some (some (.agg #[.int .i64 0, .int .i64 0, .int .i64 0, .bool false, .int .i64 0, .int .i64 0, .int .i64 0, .int .i64 0, .int .i64 0, .int .i64 0, .int .i64 0, .int .i64 0, .int .i64 0, .int .i64 0]), 14, 112) := by kernel_rfl
/-- A fact lies at a place. -/
def FcAt (w : World) (b o : Nat) (x : Fc) : Prop :=
  w.cell? ⟨b, o, none⟩ = some (.int .i64 x.i) ∧ w.cell? ⟨b, o + 1, none⟩ = some (.int .i64 x.n) ∧ w.cell? ⟨b, o + 2, none⟩ = some (.int .i64 x.v) ∧ w.cell? ⟨b, o + 3, none⟩ = some (.bool x.g) ∧ w.cell? ⟨b, o + 4, none⟩ = some (.int .i64 x.p) ∧
  w.cell? ⟨b, o + 5, none⟩ = some (.int .i64 x.k) ∧ w.cell? ⟨b, o + 6, none⟩ = some (.int .i64 x.s) ∧ w.cell? ⟨b, o + 7, none⟩ = some (.int .i64 x.f) ∧ w.cell? ⟨b, o + 8, none⟩ = some (.int .i64 x.t) ∧ w.cell? ⟨b, o + 9, none⟩ = some (.int .i64 x.e) ∧
  w.cell? ⟨b, o + 10, none⟩ = some (.int .i64 x.h) ∧ w.cell? ⟨b, o + 11, none⟩ = some (.int .i64 x.c) ∧ w.cell? ⟨b, o + 12, none⟩ = some (.int .i64 x.a) ∧ w.cell? ⟨b, o + 13, none⟩ = some (.int .i64 x.r)
theorem fcAt_of {w : World} {b o : Nat} {x : Fc} (hc : ∀ (i : Nat) (u : Value), x.cells[i]? = some u → w.cell? ⟨b, o + i, none⟩ = some u) : FcAt w b o x :=
  ⟨by simpa using hc 0 _ rfl, hc 1 _ rfl, hc 2 _ rfl, hc 3 _ rfl, hc 4 _ rfl, hc 5 _ rfl, hc 6 _ rfl, hc 7 _ rfl, hc 8 _ rfl, hc 9 _ rfl, hc 10 _ rfl, hc 11 _ rfl, hc 12 _ rfl, hc 13 _ rfl⟩
theorem fc_cells {w : World} {B n : Nat} {A : Option Addr} {l : List Fc} (h : Rd w B 14 A n (flat Fc.cells l)) {k : Nat} {x : Fc} (hx : l[k]? = some x) : k < n ∧ ∃ b o, A = some ⟨b, o, none⟩ ∧ b < B ∧ FcAt w b (o + k * 14) x := by
  obtain ⟨hk, b, o, e, hb, hc⟩ := h.elem fc_len hx (by omega)
  exact ⟨hk, b, o, e, hb, fcAt_of hc⟩
theorem FcAt.below {w w' : World} {B b o : Nat} {x : Fc} (h : FcAt w b o x) (hb : Below B w w') (hlt : b < B) : FcAt w' b o x := by
  obtain ⟨h0, h1, h2, h3, h4, h5, h6, h7, h8, h9, h10, h11, h12, h13⟩ := h
  exact ⟨(hb.cell (p := ⟨b, o, none⟩) hlt).trans h0, (hb.cell (p := ⟨b, o + 1, none⟩) hlt).trans h1, (hb.cell (p := ⟨b, o + 2, none⟩) hlt).trans h2, (hb.cell (p := ⟨b, o + 3, none⟩) hlt).trans h3, (hb.cell (p := ⟨b, o + 4, none⟩) hlt).trans h4, (hb.cell (p := ⟨b, o + 5, none⟩) hlt).trans h5, (hb.cell (p := ⟨b, o + 6, none⟩) hlt).trans h6,
    (hb.cell (p := ⟨b, o + 7, none⟩) hlt).trans h7, (hb.cell (p := ⟨b, o + 8, none⟩) hlt).trans h8, (hb.cell (p := ⟨b, o + 9, none⟩) hlt).trans h9, (hb.cell (p := ⟨b, o + 10, none⟩) hlt).trans h10, (hb.cell (p := ⟨b, o + 11, none⟩) hlt).trans h11, (hb.cell (p := ⟨b, o + 12, none⟩) hlt).trans h12, (hb.cell (p := ⟨b, o + 13, none⟩) hlt).trans h13⟩
theorem fcAt_row {w : World} {g : Nat} {t : TypeId} {fr : Nat × Nat} {x : Fc} (h : w.heap[g]? = some (.cells x.cells.toArray t fr)) : FcAt w g 0 x := by
  refine fcAt_of fun i u hu => ?_
  rw [Nat.zero_add, cell_of_row w g i _ t fr h]
  simpa using hu
/-- The string of the letters. -/
def useS (k : Int) : ByteArray := ⟨(useL k).toArray⟩
set_option maxHeartbeats 4000000 in
theorem tuses_any (k : Int) (w : World) (h1 : 1 ≤ k) (h2 : k ≤ 14) : Calls Try.prog 63 #[.int .i64 k] w fun e w' => e = .returned (.string (useS k)) ∧ w = w' := by
  rcases kinds h1 h2 with rfl | rfl | rfl | rfl | rfl | rfl | rfl | rfl | rfl | rfl | rfl | rfl | rfl | rfl
  all_goals
    go_enter Try.func63, Try.ntmps63
    go_wp2
    go_ret
    exact ⟨rfl, rfl⟩
set_option maxHeartbeats 8000000 in
theorem ruses_any (k : Int) (w : World) (h1 : 1 ≤ k) (h2 : k ≤ 14) : Calls Try.prog 30 #[.int .i64 k] w fun e w' => e = .returned (.string (useS k)) ∧ Below w.heap.size w w' := by
  rcases kinds h1 h2 with rfl | rfl | rfl | rfl | rfl | rfl | rfl | rfl | rfl | rfl | rfl | rfl | rfl | rfl
  all_goals
    go_enter Try.func30, Try.ntmps30
    go_wp2
    go_ret
    exact ⟨rfl, (Below.refl _ _).alloc (Nat.le_refl _) _⟩
end Go.Proofs.Ytbogmkhoppffgaa
