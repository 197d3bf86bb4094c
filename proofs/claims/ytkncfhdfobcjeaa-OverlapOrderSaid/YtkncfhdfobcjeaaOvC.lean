/- The board is collected. -/
import Derived.Test.YtkncfhdfobcjeaaOvB
namespace Go.Proofs.Ytkncfhdfobcjeaa
open Go.RowKit

theorem Nls.setCell {w : World} {base k : Nat} {vs : List Value} {ls : List (List Sp)} (h : Nls w base k vs ls) {p : Addr} {cs : Array Value} {t : TypeId} {fr : Nat × Nat} (hg : w.heap[p.block]? = some (.cells cs t fr)) (hne : 48 ≠ t) (u : Value) : Nls (w.setCell p u) base k vs ls := fun i v l h1 h2 h3 => by
  obtain ⟨A, c, e, ho⟩ := h i v l h1 h2 h3
  exact ⟨A, c, e, ownsRow_setCell_ne ho (own_ne ho hg hne) u⟩
/-- The board is filled up to its m-th list. -/
def Bt (w : World) (base g m : Nat) (C : List Pr) : Prop := ∃ vs : List Value, w.heap[g]? = some (.cells vs.toArray 80 (0, 0)) ∧ vs.length = 42 ∧ Nls w base m vs (bdO C)
theorem Bt.under {w w' : World} {base g m : Nat} {C : List Pr} (h : Bt w base g m C) (hb : Below w.heap.size w w') : Bt w' base g m C := by
  obtain ⟨vs, h1, h2, h3⟩ := h
  exact ⟨vs, (hb.block g (Array.getElem?_eq_some_iff.1 h1).1).trans h1, h2, h3.under hb⟩
theorem Bt.step {w : World} {base g m : Nat} {C : List Pr} {A : Option Addr} {c : Nat} {l : List Sp} (h : Bt w base g m C) (hl : (bdO C)[m]? = some l) (ho : w.ownsRow base 48 2 (.slice A (nf (dset l)).length c) (nf (dset l)).length (flat Sp.cells (nf (dset l)))) :
    Bt (w.setCell ⟨g, m, none⟩ (.slice A (nf (dset l)).length c)) base g (m + 1) C := by
  obtain ⟨vs, h1, h2, h3⟩ := h
  refine ⟨vs.set m (.slice A (nf (dset l)).length c), ?_, by simpa using h2, ?_⟩
  · rw [heap_setCell_same w g m _ _ _ h1]
    simp
  · exact (h3.step hl ho).setCell (p := ⟨g, m, none⟩) h1 (by decide) _
theorem Bt.cell {w : World} {base g m k : Nat} {C : List Pr} (h : Bt w base g m C) (hk : k < 42) : (∃ v, w.cell? ⟨g, k, none⟩ = some v) ∧ w.frozen? ⟨g, k, none⟩ = false := by
  obtain ⟨vs, h1, h2, h3⟩ := h
  refine ⟨⟨vs[k]'(by omega), ?_⟩, frozen_of_row w g k _ _ h1⟩
  rw [cell_of_row w g k _ _ _ h1]
  simp [h2, hk]
theorem of_dset {A : Option Addr} {n c : Nat} {C : List Pr} {w : World} (s r : Int) (h : Rd w w.heap.size 4 A n (flat Pr.cells C)) (hn : C.length = n) (hn2 : n ≤ 5000) :
    Calls Try.prog 71 #[.slice A n c, .int .i64 s, .int .i64 r] w (RetNf w (dset (ofL C s r))) := by
  have := of_any (c := c) s r h hn hn2
  rwa [show Dd C s r = dset (ofL C s r) from rfl] at this
/-- The board of the claims is returned. -/
def RetBd (w : World) (C : List Pr) (e : Ending) (w' : World) : Prop := ∃ g, e = .returned (.pointer (some ⟨g, 0, none⟩)) ∧ w.heap.size ≤ g ∧ Bd w' w.heap.size g C ∧ Below w.heap.size w w'

set_option maxRecDepth 100000 in
set_option maxHeartbeats 2000000 in
theorem collect_any {A : Option Addr} {n c : Nat} {C : List Pr} {w : World} (h : Rd w w.heap.size 4 A n (flat Pr.cells C)) (hn : C.length = n) (hn2 : n ≤ 5000) :
    Calls Try.prog 54 #[.slice A n c] w (RetBd w C) := by
  have HN := Lib.hid hn
  clear hn
  go_enter Try.func54, Try.ntmps54
  go_wp2_with fail
  go_loopw [8] (fun i wr => ∃ a : Nat, a ≤ 6 ∧ i = .int .i64 (a : Int) ∧ Bt wr w.heap.size w.heap.size (a * 7) C ∧ Below w.heap.size w wr) (fun i _ => 6 - (intOf i).toNat)
  case atStart => exact ⟨0, by omega, rfl, ⟨_, heap_alloc_new w _, rfl, Nls.zero _ _ _ _⟩, (Below.refl _ _).alloc (Nat.le_refl _) _⟩
  case round =>
    obtain ⟨a, ha, rfl, hbt, hb⟩ := hrel
    by_cases hlt : a < 6
    · have hlo : (0 : Int) ≤ (a : Int) := by omega
      have hhi : (a : Int) < 6 := by omega
      obtain ⟨wo, rfl⟩ : ∃ wo : World, wo = wr := ⟨_, rfl⟩
      go_wp2_with fail
      go_loopw [11] (fun i wr => ∃ b : Nat, b ≤ 7 ∧ i = .int .i64 (b : Int) ∧ Bt wr w.heap.size w.heap.size (a * 7 + b) C ∧ Below w.heap.size w wr) (fun i _ => 7 - (intOf i).toNat)
      case atStart => exact ⟨0, by omega, rfl, hbt, hb⟩
      case round =>
        clear hbt hb
        obtain ⟨b, hb7, rfl, hbt, hb⟩ := hrel
        have hwsz := hb.size
        by_cases hlb : b < 7
        · have hlo2 : (0 : Int) ≤ (b : Int) := by omega
          have hhi2 : (b : Int) < 7 := by omega
          have hw1 : IntKind.i64.wrap ((b : Int) + 1) = (b : Int) + 1 := IntWalk.i64_in _ (by omega)
          have hrd := (h.below hb).mono hwsz
          have hat := bdO_at C hlt hlb
          have HAT := Lib.hid hat
          have hm42 : a * 7 + b < 42 := by omega
          clear hat
          go_upto_region 8 with (fail)
          go_region_held3 (fun _ => True) (go_keep)
            (first
              | (go_at_call 71; refine (of_dset (C := C) (a : Int) ((b : Int) + 1) (by first | exact hrd | exact hrd.drew) HN.out hn2).mono ?_; rintro e w3 ⟨A3, c3, rfl, hown3, hb3⟩
                 have hbt3 : Bt w3 w.heap.size w.heap.size (a * 7 + b) C := by first | exact Bt.under (w := wr) hbt hb3 | exact Bt.under (w := wr.drew) hbt hb3
                 obtain ⟨⟨v3, hc3⟩, hf3⟩ := hbt3.cell hm42))
          go_wp2_with fail
          have hst := hbt3.step HAT.out (ownsRow_base hown3 hwsz)
          go_roundw
          case rel => exact ⟨b + 1, by omega, by go_num, hst, (hb.drew.trans (hb3.mono hwsz)).setCell (p := ⟨w.heap.size, a * 7 + b, none⟩) (Nat.le_refl _) _⟩
          case measure => simp [intOf]; omega
        · obtain rfl : b = 7 := by omega
          go_wp2_with fail
          go_roundw
          case rel => exact ⟨a + 1, by omega, by go_num, by rw [show (a + 1) * 7 = a * 7 + 7 by omega]; exact hbt, hb⟩
          case measure => simp [intOf]; omega
    · obtain rfl : a = 6 := by omega
      go_wp2_with fail
      go_ret
      obtain ⟨vs, h1, h2, h3⟩ := hbt
      exact ⟨_, rfl, Nat.le_refl _, ⟨vs, h1, h2, h3⟩, hb⟩
end Go.Proofs.Ytkncfhdfobcjeaa
