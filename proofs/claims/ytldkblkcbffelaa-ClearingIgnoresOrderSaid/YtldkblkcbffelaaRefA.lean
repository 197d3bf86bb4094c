/- The reference's ledger: the debts that were posted; its Position and Between. -/
import Derived.Test.YtldkblkcbffelaaDebtA
import Derived.Test.YtldkblkcbffelaaStill
namespace Go.Proofs.Ytldkblkcbffelaa
open Go.RowKit

theorem dt_len (x : Dt) : x.cells.length = 4 := rfl

/-- The reference's ledger at block rb holds the debts L. -/
structure RefA (w : World) (rb : Nat) (L : List Dt) : Prop where
  row : ∃ v, w.heap[rb]? = some (.cells #[v] 33 (0, 0)) ∧ w.ownsRow 0 37 4 v L.length (flat Dt.cells L)
  valid : ∀ x ∈ L, validB x.d x.c x.u x.a = true
  short : L.length ≤ 1000

def rstep (s u : Int) (v : Int) (x : Dt) : Int := (v + (if ((x.u == u) && (x.c == s)) = true then x.a else 0)) - (if ((x.u == u) && (x.d == s)) = true then x.a else 0)
def rpos (L : List Dt) (s u : Int) : Int := L.foldl (rstep s u) 0

theorem valid_amount {x : Dt} (h : validB x.d x.c x.u x.a = true) : 1 ≤ x.a ∧ x.a ≤ 1000000000000 := by
  simp [validB] at h
  omega

theorem rpos_bd (s u : Int) : ∀ (L : List Dt), (∀ x ∈ L, validB x.d x.c x.u x.a = true) → ∀ v : Int, v - 1000000000000 * L.length ≤ L.foldl (rstep s u) v ∧ L.foldl (rstep s u) v ≤ v + 1000000000000 * L.length
  | [], _, v => by simp
  | x :: L, h, v => by
    have ha := valid_amount (h x (by simp))
    have hi := rpos_bd s u L (fun y hy => h y (by simp [hy])) (rstep s u v x)
    have hr : v - 1000000000000 ≤ rstep s u v x ∧ rstep s u v x ≤ v + 1000000000000 := by
      unfold rstep
      split <;> split <;> omega
    simp only [List.foldl_cons, List.length_cons]
    omega

theorem take_succ_get {α : Type} {L : List α} {k : Nat} {x : α} (h : L[k]? = some x) : L.take (k + 1) = L.take k ++ [x] := by
  rw [List.take_add_one, h]
  rfl

/-- The cells of one debt of the ledger. -/
theorem own_cells {w : World} {g n c : Nat} {L : List Dt} (h : w.ownsRow 0 37 4 (.slice (some ⟨g, 0, none⟩) n c) n (flat Dt.cells L)) {k : Nat} {x : Dt} (hx : L[k]? = some x) :
    w.cell? ⟨g, k * 4, none⟩ = some (.int .i64 x.d) ∧ w.cell? ⟨g, k * 4 + 1, none⟩ = some (.int .i64 x.c) ∧ w.cell? ⟨g, k * 4 + 2, none⟩ = some (.int .i64 x.u) ∧ w.cell? ⟨g, k * 4 + 3, none⟩ = some (.int .i64 x.a) := by
  have hc : ∀ j u, (flat Dt.cells L)[j]? = some u → w.cell? ⟨g, j, none⟩ = some u := fun j u hu => by
    have := h.cells (g := g) rfl j u hu
    rwa [addAt, Nat.zero_add] at this
  have hg := fun i u (hu : x.cells[i]? = some u) (hi : i < 4) => hc (k * 4 + i) u (by rw [flat_get dt_len L k i x hx hi]; exact hu)
  exact ⟨hg 0 _ rfl (by omega), hg 1 _ rfl (by omega), hg 2 _ rfl (by omega), hg 3 _ rfl (by omega)⟩

set_option maxHeartbeats 1000000 in
theorem rposition_any (rb : Nat) (L : List Dt) (s u : Int) (w : World) (h : RefA w rb L) :
    Calls Try.prog 30 #[.pointer (some ⟨rb, 0, none⟩), .int .i64 s, .int .i64 u] w fun e w' => e = .returned (.int .i64 (rpos L s u)) ∧ Below w.heap.size w w' := by
  obtain ⟨v, hrb, hown⟩ := h.row
  obtain ⟨A, c, rfl, hnc, hcm, hA⟩ := own_form hown
  have hcell : w.cell? ⟨rb, 0, none⟩ = some (.slice A L.length c) := by rw [cell_of_row w rb 0 _ _ _ hrb]; rfl
  have hrlt : rb < w.heap.size := (Array.getElem?_eq_some_iff.1 hrb).1
  have hval := h.valid
  have hsh := h.short
  generalize hn : L.length = n at *
  have Hn := Lib.hid hn
  clear hn
  go_enter Try.func30, Try.ntmps30
  go_wp2
  go_loopw [7, 8] (fun t i wr => ∃ k : Nat, k ≤ n ∧ i = .int .i64 k ∧ t = .int .i64 (rpos (L.take k) s u) ∧ Below w.heap.size w wr) (fun _ i _ => n - (intOf i).toNat)
  case atStart => exact ⟨0, by omega, rfl, rfl, Below.refl _ _⟩
  case round =>
    obtain ⟨k, hk, rfl, rfl, hb⟩ := hrel
    have hcr : wr.cell? ⟨rb, 0, none⟩ = some (.slice A n c) := (hb.cell (p := ⟨rb, 0, none⟩) hrlt).trans hcell
    have hbd := rpos_bd s u (L.take k) (fun x hx => hval x (List.mem_of_mem_take hx)) 0
    have hlen : (L.take k).length ≤ k := List.length_take_le _ _
    change _ ≤ rpos (L.take k) s u ∧ rpos (L.take k) s u ≤ _ at hbd
    have hwsz := hb.size
    by_cases hlt : k < n
    · obtain ⟨g, rfl, hg⟩ := hA (by omega)
      have hL : k < L.length := by rw [Hn.out]; exact hlt
      obtain ⟨x, hx⟩ : ∃ x, L[k]? = some x := ⟨_, List.getElem?_eq_getElem hL⟩
      have hx2 := valid_amount (hval x (List.mem_of_getElem? hx))
      obtain ⟨c0, c1, c2, c3⟩ := own_cells (n := n) hown hx
      have e0 := (hb.cell (p := ⟨g, k * 4, none⟩) hg).trans c0
      have e1 := (hb.cell (p := ⟨g, k * 4 + 1, none⟩) hg).trans c1
      have e2 := (hb.cell (p := ⟨g, k * 4 + 2, none⟩) hg).trans c2
      have e3 := (hb.cell (p := ⟨g, k * 4 + 3, none⟩) hg).trans c3
      have hstep : rpos (L.take (k + 1)) s u = rstep s u (rpos (L.take k) s u) x := by unfold rpos; rw [take_succ_get hx, List.foldl_append]; rfl
      have HS := Lib.hid hstep
      clear hstep c0 c1 c2 c3 hx
      generalize rpos (L.take k) s u = V at *
      go_wp2
      all_goals refine ⟨⟨k + 1, by omega, by go_num, ?_, hb.alloc hwsz _⟩, by simp [intOf]; omega⟩
      all_goals rw [HS.out]
      all_goals (congr 1; simp [rstep, *]; try omega)
    · obtain rfl : k = n := by omega
      go_wp2
      go_ret
      exact ⟨ret_int (by rw [List.take_of_length_le (by rw [Hn.out]; exact Nat.le_refl _)]), hb⟩

def bstep (s t u : Int) (v : Int) (x : Dt) : Int :=
  if (x.u == u) = true then (v + (if ((x.d == s) && (x.c == t)) = true then x.a else 0)) - (if ((x.d == t) && (x.c == s)) = true then x.a else 0) else v
def rbet (L : List Dt) (s t u : Int) : Int := L.foldl (bstep s t u) 0
theorem rbet_bd (s t u : Int) : ∀ (L : List Dt), (∀ x ∈ L, validB x.d x.c x.u x.a = true) → ∀ v : Int, v - 1000000000000 * L.length ≤ L.foldl (bstep s t u) v ∧ L.foldl (bstep s t u) v ≤ v + 1000000000000 * L.length
  | [], _, v => by simp
  | x :: L, h, v => by
    have ha := valid_amount (h x (by simp))
    have hi := rbet_bd s t u L (fun y hy => h y (by simp [hy])) (bstep s t u v x)
    have hr : v - 1000000000000 ≤ bstep s t u v x ∧ bstep s t u v x ≤ v + 1000000000000 := by
      unfold bstep
      split
      · split <;> split <;> omega
      · omega
    simp only [List.foldl_cons, List.length_cons]
    omega

set_option maxHeartbeats 2000000 in
theorem rbetween_any (rb : Nat) (L : List Dt) (s t u : Int) (w : World) (h : RefA w rb L) :
    Calls Try.prog 31 #[.pointer (some ⟨rb, 0, none⟩), .int .i64 s, .int .i64 t, .int .i64 u] w fun e w' => e = .returned (.int .i64 (rbet L s t u)) ∧ Below w.heap.size w w' := by
  obtain ⟨v, hrb, hown⟩ := h.row
  obtain ⟨A, c, rfl, hnc, hcm, hA⟩ := own_form hown
  have hcell : w.cell? ⟨rb, 0, none⟩ = some (.slice A L.length c) := by rw [cell_of_row w rb 0 _ _ _ hrb]; rfl
  have hrlt : rb < w.heap.size := (Array.getElem?_eq_some_iff.1 hrb).1
  have hval := h.valid
  have hsh := h.short
  generalize hn : L.length = n at *
  have Hn := Lib.hid hn
  clear hn
  go_enter Try.func31, Try.ntmps31
  go_wp2
  go_loopw [9, 10] (fun t' i wr => ∃ k : Nat, k ≤ n ∧ i = .int .i64 k ∧ t' = .int .i64 (rbet (L.take k) s t u) ∧ Below w.heap.size w wr) (fun _ i _ => n - (intOf i).toNat)
  case atStart => exact ⟨0, by omega, rfl, rfl, Below.refl _ _⟩
  case round =>
    obtain ⟨k, hk, rfl, rfl, hb⟩ := hrel
    have hcr : wr.cell? ⟨rb, 0, none⟩ = some (.slice A n c) := (hb.cell (p := ⟨rb, 0, none⟩) hrlt).trans hcell
    have hbd := rbet_bd s t u (L.take k) (fun x hx => hval x (List.mem_of_mem_take hx)) 0
    have hlen : (L.take k).length ≤ k := List.length_take_le _ _
    change _ ≤ rbet (L.take k) s t u ∧ rbet (L.take k) s t u ≤ _ at hbd
    have hwsz := hb.size
    by_cases hlt : k < n
    · obtain ⟨g, rfl, hg⟩ := hA (by omega)
      have hL : k < L.length := by rw [Hn.out]; exact hlt
      obtain ⟨x, hx⟩ : ∃ x, L[k]? = some x := ⟨_, List.getElem?_eq_getElem hL⟩
      have hx2 := valid_amount (hval x (List.mem_of_getElem? hx))
      obtain ⟨c0, c1, c2, c3⟩ := own_cells (n := n) hown hx
      have e0 := (hb.cell (p := ⟨g, k * 4, none⟩) hg).trans c0
      have e1 := (hb.cell (p := ⟨g, k * 4 + 1, none⟩) hg).trans c1
      have e2 := (hb.cell (p := ⟨g, k * 4 + 2, none⟩) hg).trans c2
      have e3 := (hb.cell (p := ⟨g, k * 4 + 3, none⟩) hg).trans c3
      have hstep : rbet (L.take (k + 1)) s t u = bstep s t u (rbet (L.take k) s t u) x := by unfold rbet; rw [take_succ_get hx, List.foldl_append]; rfl
      have HS := Lib.hid hstep
      clear hstep c0 c1 c2 c3 hx
      generalize rbet (L.take k) s t u = V at *
      obtain ⟨b0, hb0⟩ : ∃ b, (x.u != u) = b := ⟨_, rfl⟩
      obtain ⟨b1, hb1⟩ : ∃ b, (x.d == s) = b := ⟨_, rfl⟩
      obtain ⟨b2, hb2⟩ : ∃ b, (x.c == t) = b := ⟨_, rfl⟩
      obtain ⟨b3, hb3⟩ : ∃ b, (x.d == t) = b := ⟨_, rfl⟩
      obtain ⟨b4, hb4⟩ : ∃ b, (x.c == s) = b := ⟨_, rfl⟩
      have hb0' : (x.u == u) = !b0 := by rw [← hb0]; simp [bne]
      go_wp2
      all_goals refine ⟨⟨k + 1, by omega, by go_num, ?_, hb.alloc hwsz _⟩, by simp [intOf]; omega⟩
      all_goals rw [HS.out]
      all_goals (congr 1; simp [bstep, *]; try omega)
    · obtain rfl : k = n := by omega
      go_wp2
      go_ret
      exact ⟨ret_int (by rw [List.take_of_length_le (by rw [Hn.out]; exact Nat.le_refl _)]), hb⟩
end Go.Proofs.Ytldkblkcbffelaa
