/- The law's 'ledgers': a ledger and the reference, with the same debts. -/
import Derived.Test.YtldkblkcbffelaaTwoA
import Derived.Test.YtldkblkcbffelaaDebtsA
import Derived.Test.YtldkblkcbffelaaSameA
import Derived.Deep.RegionHeld3
import Derived.OwnWalk
namespace Go.Proofs.Ytldkblkcbffelaa
open Go.RowKit

/-- The debts that a ledger holds after a list of posts. -/
def heldOf (L D : List Dt) : List Dt := D.foldl nextOf L
theorem heldOf_snoc (L D : List Dt) (x : Dt) : heldOf L (D ++ [x]) = nextOf (heldOf L D) x := by simp [heldOf]
theorem heldOf_ok : ∀ (D L : List Dt), (∀ x ∈ L, x.ok) → ∀ y ∈ heldOf L D, y.ok
  | [], _, h => h
  | x :: D, L, h => heldOf_ok D (nextOf L x) (nextOf_ok h x)
theorem heldOf_length : ∀ (D L : List Dt), (heldOf L D).length ≤ L.length + D.length
  | [], L => by simp [heldOf]
  | x :: D, L => by
    have h1 := heldOf_length D (nextOf L x)
    have h2 := nextOf_length L x
    have e : heldOf L (x :: D) = heldOf (nextOf L x) D := rfl
    rw [e]
    simp only [List.length_cons]
    omega

theorem Led.own_ne {w : World} {lb mb base sz n : Nat} {L : List Dt} {v : Value} {xs : List Value} (h : Led w lb mb L) (hown : w.ownsRow base 37 sz v n xs) : v.ownBlock ≠ some mb ∧ v.ownBlock ≠ some lb := by
  rcases hown.2 with ⟨rfl, _⟩ | ⟨g, cap, cur, rfl, _, hgg, _⟩
  · simp [Value.ownBlock]
  · obtain ⟨h1, h2⟩ := h.notRow (by decide) hgg
    exact ⟨fun e => h2 (by simpa [Value.ownBlock] using e.symm), fun e => h1 (by simpa [Value.ownBlock] using e.symm)⟩
theorem RefA.own_ne {w : World} {rb base sz n : Nat} {L : List Dt} {v : Value} {xs : List Value} (h : RefA w rb L) (hown : w.ownsRow base 37 sz v n xs) : v.ownBlock ≠ some rb := by
  obtain ⟨_, hrb, _⟩ := h.row
  exact Go.Proofs.Ytldkblkcbffelaa.own_ne hown hrb (by decide)
theorem Led.ref_ne {w : World} {lb mb rb : Nat} {L K : List Dt} (h : Led w lb mb L) (hr : RefA w rb K) : lb ≠ rb ∧ mb ≠ rb := by
  obtain ⟨_, hrb, _⟩ := hr.row
  exact h.notRow (by decide) hrb
/-- The reference stays while the program posts. -/
theorem RefA.beside {w w' : World} {lb mb rb : Nat} {L K : List Dt} (hr : RefA w rb K) (h : Led w lb mb L) (hg : w.grownBy w' (some mb)) : RefA w' rb K :=
  hr.grown hg (fun e => (h.ref_ne hr).2 (by injection e with e; exact e.symm)) (fun k e cur fr hk => by
    injection e with e
    subst e
    exact (h.notRow (by decide) hk).2 rfl)
/-- The program's ledger stays while the reference posts. -/
theorem Led.beside {w w' : World} {lb mb rb : Nat} {L K : List Dt} (h : Led w lb mb L) (hr : RefA w rb K) (hg : w.grownBy w' (some rb)) : Led w' lb mb L :=
  h.grown hg (fun e => (h.ref_ne hr).1 (by injection e)) (fun e => (h.ref_ne hr).2 (by injection e))
theorem RefA.start {w : World} (b : Nat) (h : w.heap[b]? = some (.cells #[.slice none 0 0] 33 (0, 0))) : RefA w b [] :=
  ⟨⟨_, h, World.ownsRow_nil _ _ _ _⟩, by simp, by simp⟩

/-- A cell of an array of debts, behind a call that writes another block. -/
theorem cell_grown {w w' : World} {row : Option Nat} (hg : w.grownBy w' row) {b o : Nat} {u : Value} (h : w.cell? ⟨b, o, none⟩ = some u) (hb : b < w.heap.size) (hne : some b ≠ row) : w'.cell? ⟨b, o, none⟩ = some u :=
  (World.cell?_of_block (a := ⟨b, o, none⟩) (hg.block b hb hne)).trans h

set_option maxHeartbeats 4000000 in
theorem ledgers_any (A : Option Addr) (n c : Nat) (l : List Rw) (w : World) (h : Rd w w.heap.size 4 A n (flat Rw.cells l)) (hok : ∀ r ∈ l, r.ok) (hn : n = l.length) (hn2 : n ≤ maxLen) :
    Calls Try.prog 13 #[.slice A n c] w fun e w' => ∃ lb mb rb, e = .returned (.tuple #[.pointer (some ⟨lb, 0, none⟩), .pointer (some ⟨rb, 0, none⟩), .bool true]) ∧
      Led w' lb mb (heldOf [] (debtsOf l)) ∧ RefA w' rb (heldOf [] (debtsOf l)) ∧ Below w.heap.size w w' ∧ w.heap.size ≤ lb ∧ w.heap.size ≤ mb ∧ w.heap.size ≤ rb := by
  have Hn := Lib.hid hn
  clear hn
  go_enter Try.func13, Try.ntmps13
  go_wp2_with (go_at_call 16; refine (new_any _).mono ?_; rintro e w1 ⟨rfl, hb1, hled1⟩)
  have hz1 := hb1.size
  have hL1 : Led w1 (w.heap.size + 1) w.heap.size [] := ⟨[], hled1, Rel.start, by simp, by simp⟩
  have hlt1 := hL1.lt
  have hR1 := RefA.start (w := w1.alloc (.cells #[.slice none 0 0] 33)) w1.heap.size (heap_alloc_new w1 _)
  have hL2 := hL1.alloc (.cells #[.slice none 0 0] 33)
  have hb2 := hb1.alloc hz1 (.cells #[.slice none 0 0] 33)
  have hz2 : (w1.alloc (.cells #[.slice none 0 0] 33)).heap.size = w1.heap.size + 1 := by simp
  refine (debts_any A n c l _ ((h.below hb2).mono (by omega)) hok Hn.out hn2).mono ?_
  rintro e w3 ⟨v, rfl, hown, hb3⟩
  have hL3 := hL2.below hb3
  have hR3 := hR1.below hb3
  have hb4 := hb2.trans (hb3.mono hb2.size)
  have hown3 := ownsRow_base (base' := 0) hown (by omega)
  have hz3 := hb3.size
  clear hled1 hL1 hR1 hL2 hb2 hb1 hb3 hown
  have hlen : (debtsOf l).length ≤ 20 := by simp [debtsOf, List.length_take]; omega
  generalize hD : debtsOf l = D at *
  have HD := Lib.hid hD
  clear hD
  obtain ⟨A1, c1, rfl, hnc1, hcm1, hA1⟩ := own_form hown3
  generalize hN : D.length = N at *
  have HN := Lib.hid hN
  clear hN
  go_wp2_with fail
  go_loopw [8] (fun i wr => ∃ k : Nat, k ≤ N ∧ i = .int .i64 k ∧ Led wr (w.heap.size + 1) w.heap.size (heldOf [] (D.take k)) ∧ RefA wr w1.heap.size (heldOf [] (D.take k)) ∧ wr.ownsRow 0 37 4 (.slice A1 N c1) N (flat Dt.cells D) ∧ Below w.heap.size w wr) (fun i _ => N - (intOf i).toNat)
  case atStart => exact ⟨0, by omega, rfl, hL3, hR3, hown3, hb4⟩
  case round =>
    obtain ⟨k, hk, rfl, hL, hR, hown, hb⟩ := hrel
    clear hL3 hR3 hown3 hb4
    by_cases hlt : k < N
    · have hkl : k < D.length := by rw [HN.out]; exact hlt
      obtain ⟨x, hx⟩ : ∃ x, D[k]? = some x := ⟨_, List.getElem?_eq_getElem hkl⟩
      obtain ⟨g, rfl, _⟩ := hA1 (by omega)
      obtain ⟨e0, e1, e2, e3⟩ := own_cells hown hx
      have hglt : g < wr.heap.size := by
        obtain ⟨_, h2⟩ := (own_form hown).choose_spec
        exact World.block_lt_of_cell? _ _ e0
      have hstep : heldOf [] (D.take (k + 1)) = nextOf (heldOf [] (D.take k)) x := by rw [take_succ_get hx, heldOf_snoc]
      have hlK : (heldOf [] (D.take k)).length ≤ 900 := by
        have := heldOf_length (D.take k) []
        rw [List.length_take] at this
        simp at this
        omega
      have HS := Lib.hid hstep
      have hgm : some g ≠ some w.heap.size := fun e => (hL.own_ne hown).1 (by simpa [Value.ownBlock] using e)
      have hgr : some g ≠ some w1.heap.size := fun e => hR.own_ne hown (by simpa [Value.ownBlock] using e)
      have hlo : (0 : Int) ≤ (k : Int) := by omega
      have hhi : (k : Int) < (N : Int) := by omega
      have hwsz := hb.size
      clear hstep hx
      generalize heldOf [] (D.take k) = K at *
      have hLd := hL.drew
      have hRd : RefA wr.drew w1.heap.size K := ⟨hR.row, hR.valid, hR.short⟩
      have hbd := hb.drew
      have hglt2 : g < wr.drew.heap.size := hglt
      have hod : wr.drew.ownsRow 0 37 4 (.slice (some ⟨g, 0, none⟩) N c1) N (flat Dt.cells D) := hown
      go_wp2_with fail
      go_region_held3 (fun w' => w'.cell? ⟨g, k * 4, none⟩ = some (.int .i64 x.d) ∧ w'.cell? ⟨g, k * 4 + 1, none⟩ = some (.int .i64 x.c) ∧ w'.cell? ⟨g, k * 4 + 2, none⟩ = some (.int .i64 x.u) ∧ w'.cell? ⟨g, k * 4 + 3, none⟩ = some (.int .i64 x.a)) (go_keep)
        (first
          | (go_at_call 17; refine (post_led _ _ K x _ hLd hlK).mono ?_; rintro e w2 ⟨rfl, hL2, hg2⟩
             have q0 := cell_grown (w := wr.drew) hg2 e0 hglt hgm
             have q1 := cell_grown (w := wr.drew) hg2 e1 hglt hgm
             have q2 := cell_grown (w := wr.drew) hg2 e2 hglt hgm
             have q3 := cell_grown (w := wr.drew) hg2 e3 hglt hgm
             have hR2 := hRd.beside hLd hg2
             have hown2 := hod.kept hg2 (.inr (hL.own_ne hown).1)
             have hz5 := hg2.size
             have hglt3 := Nat.lt_of_lt_of_le hglt2 hz5)
          | (go_at_call 18; refine (rpost_led _ K x _ hR2 hlK).mono ?_; rintro e w4 ⟨rfl, hR4, hg4⟩
             have r0 := cell_grown hg4 q0 hglt3 hgr
             have r1 := cell_grown hg4 q1 hglt3 hgr
             have r2 := cell_grown hg4 q2 hglt3 hgr
             have r3 := cell_grown hg4 q3 hglt3 hgr))
      go_wp2_with fail
      go_roundw
      case rel =>
        refine ⟨k + 1, by omega, by go_num, ?_, ?_, ?_, ?_⟩
        · rw [HS.out]; exact hL2.beside hR2 hg4
        · rw [HS.out]; exact hR4
        · exact hown2.kept hg4 (.inr (hR2.own_ne hown2))
        · exact (hbd.grown hg2 hwsz (fun k e => by injection e with e; omega)).grown hg4 (Nat.le_trans hwsz hz5) (fun k e => by injection e with e; omega)
      case measure => simp [intOf]; omega
    · have hkk : D.take k = D := List.take_of_length_le (by have := HN.out; omega)
      rw [hkk] at hL hR
      go_wp2_with fail
      go_ret3
      rw [← HD.out] at hL hR
      exact ⟨_, _, _, rfl, hL, hR, hb, by omega, by omega, by omega⟩
end Go.Proofs.Ytldkblkcbffelaa
