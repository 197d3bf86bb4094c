/- Small debts in another order; plain Lean. -/
import Derived.Test.YtldkblkcbffelaaLawA
namespace Go.Proofs.Ytldkblkcbffelaa
open Go.RowKit

/-- A debt made small. -/
def sm (x : Dt) : Dt := { x with a := 1 + x.a % 1000 }
def Small (x : Dt) : Prop := x.ok ∧ x.a ≤ 1000
theorem sm_small {x : Dt} (h : x.ok) : Small (sm x) := by
  have hn := h.nums
  refine ⟨?_, ?_⟩
  · have e : ∀ p : Prop, [Decidable p] → p → decide p = true := fun _ _ h => decide_eq_true h
    simp only [Dt.ok, sm, validB]
    exact e _ (by omega)
  · simp only [sm]
    omega
def smL (D : List Dt) (k : Nat) : List Dt := (D.take k).map sm ++ D.drop k
theorem flat_len4 (l : List Dt) : (flat Dt.cells l).length = l.length * 4 := flat_length dt_len l
theorem smL_step {D : List Dt} {k : Nat} {x : Dt} (hx : D[k]? = some x) : (flat Dt.cells (smL D k)).set (k * 4 + 3) (.int .i64 (1 + x.a % 1000)) = flat Dt.cells (smL D (k + 1)) := by
  obtain ⟨hk, e⟩ := List.getElem?_eq_some_iff.1 hx
  have h1 : D.drop k = x :: D.drop (k + 1) := by rw [List.drop_eq_getElem_cons hk, e]
  have h2 : D.take (k + 1) = D.take k ++ [x] := take_succ_get hx
  have hl : (flat Dt.cells ((D.take k).map sm)).length = k * 4 := by rw [flat_len4, List.length_map, List.length_take]; congr 1; omega
  unfold smL
  rw [h1, h2, List.map_append, flat_append, flat_append, flat_append, flat_cons, List.append_assoc, List.set_append_right _ _ (by omega), hl]
  congr 1
  rw [show k * 4 + 3 - k * 4 = 3 by omega]
  rfl
theorem smL_get {D : List Dt} {k : Nat} {x : Dt} (hx : D[k]? = some x) : (smL D k)[k]? = some x := by
  have hk := (List.getElem?_eq_some_iff.1 hx).1
  unfold smL
  rw [List.getElem?_append_right (by simp; omega)]
  simp only [List.length_map, List.length_take]
  rw [show k - min k D.length = 0 by omega, List.getElem?_drop]
  simpa using hx
theorem smL_length (D : List Dt) (k : Nat) : (smL D k).length = D.length := by simp [smL]; omega
theorem smL_all (D : List Dt) : smL D D.length = D.map sm := by simp [smL]
theorem smL_zero (D : List Dt) : smL D 0 = D := by simp [smL]

theorem rpos_small (s u : Int) : ∀ (L : List Dt), (∀ x ∈ L, Small x) → ∀ v : Int, v - 1000 * L.length ≤ L.foldl (rstep s u) v ∧ L.foldl (rstep s u) v ≤ v + 1000 * L.length
  | [], _, v => by simp
  | x :: L, h, v => by
    have ha := (h x (by simp)).1.nums
    have ha2 := (h x (by simp)).2
    have hi := rpos_small s u L (fun y hy => h y (by simp [hy])) (rstep s u v x)
    have hr : v - 1000 ≤ rstep s u v x ∧ rstep s u v x ≤ v + 1000 := by
      unfold rstep
      split <;> split <;> omega
    simp only [List.foldl_cons, List.length_cons]
    omega
/-- Small debts are all taken. -/
theorem small_post {L : List Dt} {x : Dt} (hL : ∀ y ∈ L, Small y) (hx : Small x) (hl : L.length ≤ 20) : codeOf L x = 0 ∧ nextOf L x = L ++ [x] := by
  have hv : validB x.d x.c x.u x.a = true := hx.1
  have hall : ∀ y ∈ L ++ [x], Small y := by
    intro y hy
    rcases List.mem_append.1 hy with hy | hy
    · exact hL y hy
    · rw [List.mem_singleton.1 hy]; exact hx
  have hb : ∀ s u, fitsB (rpos (L ++ [x]) s u) = true := by
    intro s u
    have := rpos_small s u (L ++ [x]) hall 0
    rw [List.length_append, List.length_singleton] at this
    rw [fitsB_iff]
    unfold rpos
    omega
  have hw : wideB L x = true := by unfold wideB; rw [hb, hb]; rfl
  exact ⟨by simp [codeOf, hv, hw], by simp [nextOf, hv, hw]⟩

/-- The list that begins at its k-th element. -/
def rot (D : List Dt) (k : Nat) : List Dt := D.drop k ++ D.take k
theorem rot_length (D : List Dt) (k : Nat) : (rot D k).length = D.length := by simp [rot]; omega
theorem rot_get {D : List Dt} {k i : Nat} (hk : k < D.length) (hi : i < D.length) : (rot D k)[i]? = D[(i + k) % D.length]? := by
  unfold rot
  by_cases h : i + k < D.length
  · rw [Nat.mod_eq_of_lt h, List.getElem?_append_left (by simp; omega), List.getElem?_drop, Nat.add_comm]
  · have e : (i + k) % D.length = i + k - D.length := by
      rw [Nat.mod_eq_sub_mod (by omega), Nat.mod_eq_of_lt (by omega)]
    rw [e, List.getElem?_append_right (by simp; omega), List.length_drop, List.getElem?_take]
    rw [if_pos (by omega)]
    congr 1
    omega
theorem rot_mem {D : List Dt} {k : Nat} {x : Dt} (h : x ∈ rot D k) : x ∈ D := by
  rcases List.mem_append.1 h with h | h
  · exact List.mem_of_mem_drop h
  · exact List.mem_of_mem_take h
def dl (s u : Int) (x : Dt) : Int := rstep s u 0 x
theorem rstep_dl (s u v : Int) (x : Dt) : rstep s u v x = v + dl s u x := by unfold dl rstep; omega
theorem fold_dl (s u : Int) : ∀ (L : List Dt) (v : Int), L.foldl (rstep s u) v = v + L.foldl (rstep s u) 0
  | [], v => by simp
  | x :: L, v => by
    simp only [List.foldl_cons]
    rw [fold_dl s u L (rstep s u v x), fold_dl s u L (rstep s u 0 x), rstep_dl s u v, rstep_dl s u 0]
    omega
theorem rpos_append (K L : List Dt) (s u : Int) : rpos (K ++ L) s u = rpos K s u + rpos L s u := by
  unfold rpos
  rw [List.foldl_append, fold_dl]
/-- The order of the debts does not matter. -/
theorem rpos_rot (D : List Dt) (k : Nat) (s u : Int) : rpos (rot D k) s u = rpos D s u := by
  have h : rpos D s u = rpos (D.take k ++ D.drop k) s u := by rw [List.take_append_drop]
  rw [h, rot, rpos_append, rpos_append]
  omega
end Go.Proofs.Ytldkblkcbffelaa
