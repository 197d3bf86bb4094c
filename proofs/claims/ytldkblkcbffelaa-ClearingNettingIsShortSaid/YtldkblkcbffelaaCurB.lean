/- The reference's Currencies. -/
import Derived.Test.YtldkblkcbffelaaRefB
import Derived.Test.YtldkblkcbffelaaInsB
namespace Go.Proofs.Ytldkblkcbffelaa
open Go.RowKit

def curStep (L : List Dt) (acc : List Int) (x : Dt) : List Int := if (rbet L x.d x.c x.u != 0) = true then insS acc x.u else acc
def rcur (L K : List Dt) : List Int := K.foldl (curStep L) []
theorem curStep_sorted {L : List Dt} {acc : List Int} (x : Dt) (h : acc.Pairwise (· < ·)) : (curStep L acc x).Pairwise (· < ·) := by
  unfold curStep
  split
  · exact sorted_insS _ h
  · exact h
theorem curStep_length (L : List Dt) (acc : List Int) (x : Dt) : (curStep L acc x).length ≤ acc.length + 1 := by
  unfold curStep
  split
  · exact length_insS _ _
  · omega
theorem foldl_cur_sorted (L : List Dt) : ∀ (K : List Dt) (acc : List Int), acc.Pairwise (· < ·) → (K.foldl (curStep L) acc).Pairwise (· < ·)
  | [], _, h => h
  | x :: K, _, h => foldl_cur_sorted L K _ (curStep_sorted x h)
theorem foldl_cur_length (L : List Dt) : ∀ (K : List Dt) (acc : List Int), (K.foldl (curStep L) acc).length ≤ acc.length + K.length
  | [], acc => by simp
  | x :: K, acc => by
    have h1 := foldl_cur_length L K (curStep L acc x)
    have h2 := curStep_length L acc x
    simp only [List.foldl_cons, List.length_cons]
    omega
theorem mem_foldl_cur (L : List Dt) (c : Int) : ∀ (K : List Dt) (acc : List Int), c ∈ K.foldl (curStep L) acc ↔ c ∈ acc ∨ ∃ x ∈ K, x.u = c ∧ rbet L x.d x.c x.u ≠ 0
  | [], acc => by simp
  | x :: K, acc => by
    rw [List.foldl_cons, mem_foldl_cur L c K]
    unfold curStep
    by_cases h : rbet L x.d x.c x.u = 0
    · simp [h]
    · have h2 : (rbet L x.d x.c x.u != 0) = true := by simpa using h
      rw [if_pos h2, mem_insS]
      constructor
      · rintro ((h3 | h3) | ⟨y, hy, h4⟩)
        · exact .inr ⟨x, by simp, h3.symm, h⟩
        · exact .inl h3
        · exact .inr ⟨y, by simp [hy], h4⟩
      · rintro (h3 | ⟨y, hy, h4, h5⟩)
        · exact .inl (.inr h3)
        · rcases List.mem_cons.1 hy with rfl | hy
          · exact .inl (.inl h4.symm)
          · exact .inr ⟨y, hy, h4, h5⟩
theorem rcur_sorted (L K : List Dt) : (rcur L K).Pairwise (· < ·) := foldl_cur_sorted L K [] List.Pairwise.nil
theorem rcur_length (L K : List Dt) : (rcur L K).length ≤ K.length := by
  have := foldl_cur_length L K []
  simpa [rcur] using this
theorem mem_rcur (L K : List Dt) (c : Int) : c ∈ rcur L K ↔ ∃ x ∈ K, x.u = c ∧ rbet L x.d x.c x.u ≠ 0 := by
  unfold rcur
  rw [mem_foldl_cur]
  simp

set_option maxHeartbeats 2000000 in
theorem rcurrencies_any (rb : Nat) (L : List Dt) (w : World) (h : RefA w rb L) :
    Calls Try.prog 33 #[.pointer (some ⟨rb, 0, none⟩)] w fun e w' => ∃ A c, e = .returned (.slice A (rcur L L).length c) ∧ Rd w' w'.heap.size 1 A (rcur L L).length (ints (rcur L L)) ∧ Below w.heap.size w w' := by
  obtain ⟨v, hrb, hown⟩ := h.row
  obtain ⟨A, c, rfl, hnc, hcm, hA⟩ := own_form hown
  have hcell : w.cell? ⟨rb, 0, none⟩ = some (.slice A L.length c) := by rw [cell_of_row w rb 0 _ _ _ hrb]; rfl
  have hrlt : rb < w.heap.size := (Array.getElem?_eq_some_iff.1 hrb).1
  have hsh := h.short
  generalize hn : L.length = n at *
  have Hn := Lib.hid hn
  clear hn
  go_enter Try.func33, Try.ntmps33
  go_wp2_with fail
  go_loopw [3, 4] (fun v i wr => ∃ (k : Nat) (A1 : Option Addr) (c1 : Nat), k ≤ n ∧ i = .int .i64 k ∧ v = .slice A1 (rcur L (L.take k)).length c1 ∧ Rd wr wr.heap.size 1 A1 (rcur L (L.take k)).length (ints (rcur L (L.take k))) ∧
    (rcur L (L.take k)).length ≤ c1 ∧ c1 ≤ maxLen ∧ Below w.heap.size w wr) (fun _ i _ => n - (intOf i).toNat)
  case atStart => exact ⟨0, none, 0, by omega, rfl, rfl, Rd.zero _ _ _ _, Nat.le_refl _, by unfold maxLen; omega, Below.refl _ _⟩
  case round =>
    obtain ⟨k, A1, c1, hk, rfl, rfl, hrd, hnc1, hcm1, hb⟩ := hrel
    have hcr : wr.cell? ⟨rb, 0, none⟩ = some (.slice A n c) := (hb.cell (p := ⟨rb, 0, none⟩) hrlt).trans hcell
    have hwsz := hb.size
    by_cases hlt : k < n
    · obtain ⟨g, rfl, hg⟩ := hA (by omega)
      have hL : k < L.length := by rw [Hn.out]; exact hlt
      obtain ⟨x, hx⟩ : ∃ x, L[k]? = some x := ⟨_, List.getElem?_eq_getElem hL⟩
      obtain ⟨c0, c1', c2, c3⟩ := own_cells (n := n) hown hx
      have e0 := (hb.cell (p := ⟨g, k * 4, none⟩) hg).trans c0
      have e1 := (hb.cell (p := ⟨g, k * 4 + 1, none⟩) hg).trans c1'
      have e2 := (hb.cell (p := ⟨g, k * 4 + 2, none⟩) hg).trans c2
      have e3 := (hb.cell (p := ⟨g, k * 4 + 3, none⟩) hg).trans c3
      have hstep : rcur L (L.take (k + 1)) = curStep L (rcur L (L.take k)) x := by unfold rcur; rw [take_succ_get hx, List.foldl_append]; rfl
      have hso := rcur_sorted L (L.take k)
      have hle := rcur_length L (L.take k)
      rw [List.length_take] at hle
      have HS := Lib.hid hstep
      clear hstep c0 c1' c2 c3 hx
      generalize rcur L (L.take k) = acc at *
      go_wp2_with fail
      refine (rbetween_any rb L _ _ _ _ (h.below (hb.alloc hwsz _))).mono ?_
      rintro e w1 ⟨rfl, hb1⟩
      have hb2 : Below w.heap.size w w1 := (hb.alloc hwsz _).trans (hb1.mono (by simp; omega))
      have hz1 := hb1.size
      have f2 : w1.cell? ⟨wr.heap.size, 2, none⟩ = some (.int .i64 x.u) := (hb1.cell (p := ⟨wr.heap.size, 2, none⟩) (by simp)).trans (by simp)
      have hrd1 : Rd w1 w1.heap.size 1 A1 acc.length (ints acc) := ((hrd.alloc (Nat.le_refl _) _).belowLe hb1 (by simp)).mono (by simp at hz1; omega)
      cases hz : (rbet L x.d x.c x.u != 0) with
      | true =>
        have hcs : curStep L acc x = insS acc x.u := by unfold curStep; rw [if_pos hz]
        have HC := Lib.hid hcs
        clear hcs
        go_wp2_with fail
        refine (ins_any A1 acc.length c1 acc x.u w1 hrd1 hso hnc1 (by omega) hcm1).mono ?_
        rintro e w2 ⟨A2, c2, rfl, hrd2, hnc2, hcm2, hb3⟩
        generalize hlen : (insS acc x.u).length = len2 at *
        have HL := Lib.hid hlen
        clear hlen
        go_wp2_with fail
        go_roundw
        case rel => exact ⟨k + 1, A2, c2, by omega, by go_num, by rw [HS.out, HC.out, HL.out], by rw [HS.out, HC.out, HL.out]; exact hrd2, by rw [HS.out, HC.out, HL.out]; exact hnc2, hcm2, hb2.trans (hb3.mono hb2.size)⟩
        case measure => simp [intOf]; omega
      | false =>
        have hcs : curStep L acc x = acc := by unfold curStep; rw [hz]; rfl
        have HC := Lib.hid hcs
        clear hcs
        go_wp2_with fail
        go_roundw
        case rel => exact ⟨k + 1, A1, c1, by omega, by go_num, by rw [HS.out, HC.out], by rw [HS.out, HC.out]; exact hrd1, by rw [HS.out, HC.out]; exact hnc1, hcm1, hb2⟩
        case measure => simp [intOf]; omega
    · have hkk : L.take k = L := List.take_of_length_le (by have := Hn.out; omega)
      rw [hkk] at hrd
      have HK := Lib.hid hkk
      clear hkk
      go_wp2_with fail
      go_ret
      exact ⟨A1, c1, by rw [HK.out]; rfl, hrd, hb⟩
end Go.Proofs.Ytldkblkcbffelaa
