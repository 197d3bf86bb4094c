/- The walk of ClearingPostRejects. -/
import Derived.Test.YtldkblkcbffelaaLawA
namespace Go.Proofs.Ytldkblkcbffelaa
open Go.RowKit

def Rw.dt (r : Rw) : Dt := ⟨r.d, r.c, r.u, r.a⟩
theorem flat_dt (l : List Rw) : flat Rw.cells l = flat Dt.cells (l.map Rw.dt) := by
  induction l with
  | nil => rfl
  | cons r l ih => rw [List.map_cons, flat_cons, flat_cons, ih]; rfl

set_option maxHeartbeats 4000000 in
theorem walkClearingPostRejects (A : Option Addr) (n c : Nat) (l : List Rw) (w : World) (h : Rd w w.heap.size 4 A n (flat Rw.cells l)) (_ : ∀ r ∈ l, r.ok) (hn : n = l.length) (_ : n ≤ maxLen) :
    Calls Try.prog 4 #[.slice A n c] w fun e w' => e = .returned (.bool true) ∧ Below w.heap.size w w' := by
  rw [flat_dt] at h
  have hn' : (l.map Rw.dt).length = n := by simp [hn]
  generalize l.map Rw.dt = D at *
  have HN := Lib.hid hn'
  clear hn hn'
  by_cases hbig : 20 < n
  · have hbig2 : (20 : Int) < (n : Int) := by omega
    go_enter Try.func4, Try.ntmps4
    go_wp2_with fail
    refine (awake_any w).mono ?_
    rintro e w2 ⟨rfl, hb2⟩
    go_wp2_with fail
    go_ret
    exact ⟨rfl, hb2⟩
  · have hbig2 : ¬ (20 : Int) < (n : Int) := by omega
    go_enter Try.func4, Try.ntmps4
    go_wp2_with (go_at_call 16; refine (new_any _).mono ?_; rintro e w1 ⟨rfl, hb1, hled1⟩)
    have hz1 := hb1.size
    have hL1 : Led w1 (w.heap.size + 1) w.heap.size [] := ⟨[], hled1, Rel.start, by simp, by simp⟩
    have hlt1 := hL1.lt
    have hR2 := RefA.start (w := w1.alloc (.cells #[.slice none 0 0] 33)) w1.heap.size (heap_alloc_new w1 _)
    have hL2 := hL1.alloc (.cells #[.slice none 0 0] 33)
    have hb2 := hb1.alloc hz1 (.cells #[.slice none 0 0] 33)
    clear hled1 hL1 hb1
    go_loopw [5] (fun i wr => ∃ k : Nat, k ≤ n ∧ i = .int .i64 k ∧ Led wr (w.heap.size + 1) w.heap.size (heldOf [] (D.take k)) ∧ RefA wr w1.heap.size (heldOf [] (D.take k)) ∧ Below w.heap.size w wr) (fun i _ => n - (intOf i).toNat)
    case atStart => exact ⟨0, by omega, rfl, hL2, hR2, hb2⟩
    case round =>
      obtain ⟨k, hk, rfl, hL, hR, hb⟩ := hrel
      clear hL2 hR2 hb2
      have hlK : (heldOf [] (D.take k)).length ≤ 900 := by
        have := heldOf_length (D.take k) []
        rw [List.length_take] at this
        simp at this
        omega
      by_cases hlt : k < n
      · have hkl : k < D.length := by rw [HN.out]; exact hlt
        obtain ⟨x, hx⟩ : ∃ x, D[k]? = some x := ⟨_, List.getElem?_eq_getElem hkl⟩
        have hR0 := h.below hb
        obtain ⟨_, g, o, rfl, hgb, e0, e1, e2, e3⟩ := dt_cells4 hR0 hx
        have hwsz := hb.size
        have hglt : g < wr.heap.size := Nat.lt_of_lt_of_le hgb hwsz
        have hstep : heldOf [] (D.take (k + 1)) = nextOf (heldOf [] (D.take k)) x := by rw [take_succ_get hx, heldOf_snoc]
        have HS := Lib.hid hstep
        have hgm : some g ≠ some w.heap.size := fun e => by injection e with e; omega
        have hgr : some g ≠ some w1.heap.size := fun e => by injection e with e; omega
        have hlo : (0 : Int) ≤ (k : Int) := by omega
        have hhi : (k : Int) < (n : Int) := by omega
        clear hstep hx
        generalize heldOf [] (D.take k) = K at *
        have hLd := hL.drew
        have hRd : RefA wr.drew w1.heap.size K := ⟨hR.row, hR.valid, hR.short⟩
        have hbd := hb.drew
        have hglt2 : g < wr.drew.heap.size := hglt
        go_wp2_with fail
        go_region_held3 (fun w' => w'.cell? ⟨g, o + k * 4, none⟩ = some (.int .i64 x.d) ∧ w'.cell? ⟨g, o + k * 4 + 1, none⟩ = some (.int .i64 x.c) ∧ w'.cell? ⟨g, o + k * 4 + 2, none⟩ = some (.int .i64 x.u) ∧ w'.cell? ⟨g, o + k * 4 + 3, none⟩ = some (.int .i64 x.a)) (go_keep)
          (first
            | (go_at_call 17; refine (post_led _ _ K x _ hLd hlK).mono ?_; rintro e w2 ⟨rfl, hL2, hg2⟩
               have q0 := cell_grown (w := wr.drew) hg2 e0 hglt hgm
               have q1 := cell_grown (w := wr.drew) hg2 e1 hglt hgm
               have q2 := cell_grown (w := wr.drew) hg2 e2 hglt hgm
               have q3 := cell_grown (w := wr.drew) hg2 e3 hglt hgm
               have hR2 := hRd.beside hLd hg2
               have hz5 := hg2.size
               have hglt3 := Nat.lt_of_lt_of_le hglt2 hz5)
            | (go_at_call 18; refine (rpost_led _ K x _ hR2 hlK).mono ?_; rintro e w4 ⟨rfl, hR4, hg4⟩
               have r0 := cell_grown hg4 q0 hglt3 hgr
               have r1 := cell_grown hg4 q1 hglt3 hgr
               have r2 := cell_grown hg4 q2 hglt3 hgr
               have r3 := cell_grown hg4 q3 hglt3 hgr))
        go_wp2_with fail
        go_roundw
        case rel =>
          refine ⟨k + 1, by omega, by go_num, ?_, ?_, ?_⟩
          · rw [HS.out]; exact hL2.beside hR2 hg4
          · rw [HS.out]; exact hR4
          · exact (hbd.grown hg2 hwsz (fun k e => by injection e with e; omega)).grown hg4 (Nat.le_trans hwsz hz5) (fun k e => by injection e with e; omega)
        case measure => simp [intOf]; omega
      · go_wp2_with fail
        refine (awake_any _).mono ?_
        rintro e w2 ⟨rfl, hb2⟩
        have hbb2 := hb.trans (hb2.mono hb.size)
        go_wp2_with fail
        refine (same_any _ _ _ _ w2 (hL.below hb2) (hR.below hb2) hlK).mono ?_
        rintro e w3 ⟨rfl, hb3⟩
        have hbb3 := hbb2.trans (hb3.mono hbb2.size)
        go_wp2_with fail
        go_ret
        exact ⟨rfl, hbb3⟩
end Go.Proofs.Ytldkblkcbffelaa
