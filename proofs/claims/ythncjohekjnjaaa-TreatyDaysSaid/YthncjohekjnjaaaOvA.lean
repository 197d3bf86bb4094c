/- Claims and counted days in memory; the days of a state and a rank: Of of coverage and of overlap, PeriodsOf and CountedOf of the reference. -/
import Derived.Test.YthncjohekjnjaaaOverB
import Derived.Test.YthncjohekjnjaaaSpPw
namespace Go.Proofs.Ythncjohekjnjaaa
open Go.RowKit

def Pr.cells (p : Pr) : List Value := [.int .i64 p.s, .int .i64 p.r, .int .i64 p.f, .int .i64 p.t]
def Pr.ccells (p : Pr) : List Value := [.int .i64 p.f, .int .i64 p.t, .int .i64 p.s, .int .i64 p.r]
theorem pr_len (x : Pr) : x.cells.length = 4 := rfl
theorem pc_len (x : Pr) : x.ccells.length = 4 := rfl
theorem pr_one (l : List Pr) : ∀ u ∈ flat Pr.cells l, u.oneCell' = true := by
  intro u hu
  obtain ⟨x, _, hx⟩ := List.mem_flatMap.1 hu
  simp only [Pr.cells, List.mem_cons, List.not_mem_nil, or_false] at hx
  rcases hx with rfl | rfl | rfl | rfl <;> rfl
theorem pc_one (l : List Pr) : ∀ u ∈ flat Pr.ccells l, u.oneCell' = true := by
  intro u hu
  obtain ⟨x, _, hx⟩ := List.mem_flatMap.1 hu
  simp only [Pr.ccells, List.mem_cons, List.not_mem_nil, or_false] at hx
  rcases hx with rfl | rfl | rfl | rfl <;> rfl
theorem ofL_take {C : List Pr} {k : Nat} {p : Pr} (h : C[k]? = some p) (s r : Int) : ofL (C.take (k + 1)) s r = ofL (C.take k) s r ++ if p.s = s ∧ (r = 0 ∨ p.r = r) then [p.sp] else [] := by
  rw [List.take_add_one, h, Option.toList_some]
  unfold ofL
  rw [List.filter_append, List.map_append, List.filter_cons]
  by_cases hc : p.s = s ∧ (r = 0 ∨ p.r = r)
  · rw [if_pos hc, if_pos (by simpa using hc)]
    rfl
  · rw [if_neg hc, if_neg (by simpa using hc)]
    rfl
theorem ofL_length (C : List Pr) (s r : Int) : (ofL C s r).length ≤ C.length := by
  unfold ofL
  rw [List.length_map]
  exact List.length_filter_le _ _

end Go.Proofs.Ythncjohekjnjaaa
