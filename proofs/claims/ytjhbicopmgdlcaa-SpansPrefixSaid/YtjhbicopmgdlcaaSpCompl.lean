/- The program's complement. -/
import Derived.Test.YtjhbicopmgdlcaaSpNth
import Derived.StillTailTactics
namespace Go.Proofs.Ytjhbicopmgdlcaa
open Go.RowKit

set_option maxHeartbeats 4000000 in
theorem compl_any {A : Option Addr} {n c : Nat} {l : List Sp} {w : World} (h : Ds w A n l) (hl : Norm l) (hn : n ≤ 10000) : Calls Try.prog 51 #[.slice A n c] w (RetNf w fun x => !cov l x) := by
  obtain ⟨i0, hi0, hz0, hz1, hz2⟩ := info_parts info_span
  have hres : compl 0 l = nf fun x => !cov l x := nf_unique (compl_norm hl) fun x hx => by rw [compl_cov hl, hx, Bool.true_and]
  have HN := Lib.hid h.2
  have hrd := h.1
  have HR := Lib.hid hres
  have HF := Lib.hid (norm_fit hl (Int.le_refl _))
  have hcl := compl_length l 0
  clear h hl hres
  go_enter Try.func51, Try.ntmps51
  go_wp2_with fail
  go_loopw [3, 4, 9] (fun v a i wr => ∃ (k : Nat) (O : List Sp) (q : Int), k ≤ n ∧ i = .int .i64 (k : Int) ∧ a = .int .i64 q ∧ 0 ≤ q ∧ q ≤ 73049 ∧ O ++ compl q (l.drop k) = compl 0 l ∧ O.length ≤ k ∧ wr.ownsRow w.heap.size 36 2 v O.length (flat Sp.cells O) ∧ Below w.heap.size w wr) (fun _ _ i _ => n - (intOf i).toNat)
  case atStart => exact ⟨0, [], 0, by omega, rfl, rfl, by omega, by omega, rfl, by simp, World.ownsRow_nil _ _ _ _, Below.refl _ _⟩
  case round =>
    obtain ⟨k, O, q, hk, rfl, rfl, hq0, hq1, hO, hOk, hown, hb⟩ := hrel
    have hwsz := hb.size
    obtain ⟨A2, c2, rfl, _, _, _⟩ := own_form hown
    by_cases hlt : k < n
    · have hkl : k < l.length := by rw [HN.out]; exact hlt
      obtain ⟨x, hx⟩ : ∃ x, l[k]? = some x := ⟨_, List.getElem?_eq_getElem hkl⟩
      obtain ⟨_, g, o, rfl, hgb, e0, e1⟩ := sp_cells (hrd.below hb) hx
      obtain ⟨f1, f2, f3⟩ := HF.out x (List.mem_of_getElem? hx)
      rw [drop_getS hx, compl] at hO
      have HO := Lib.hid hO
      have hlo : (0 : Int) ≤ (k : Int) := by omega
      have hhi : (k : Int) < (n : Int) := by omega
      clear hx hO
      have hrow : (wr.alloc (.cells #[.int .i64 x.f, .int .i64 x.t] 36)).heap[wr.heap.size]? = some (.cells #[.int .i64 x.f, .int .i64 x.t] 36 (0, 0)) := heap_alloc_new wr _
      by_cases hlt2 : q < x.f
      · have HO2 : Hid ((O ++ [Sp.mk q x.f]) ++ compl x.t (l.drop (k + 1)) = compl 0 l) := by have := HO.out; rw [if_pos hlt2] at this; rw [List.append_assoc]; exact this
        have hl2 : (O ++ [Sp.mk q x.f]).length = O.length + 1 := by simp
        have hf2 : flat Sp.cells (O ++ [Sp.mk q x.f]) = flat Sp.cells O ++ [.int .i64 q, .int .i64 x.f] := by rw [flat_append, flat_one]; rfl
        have HL2 := Lib.hid hl2
        have HF2 := Lib.hid hf2
        have hownA := hown.alloc (.cells #[.int .i64 x.f, .int .i64 x.t] 36)
        have hbA := hb.alloc hwsz (.cells #[.int .i64 x.f, .int .i64 x.t] 36)
        have hzA : (wr.alloc (.cells #[.int .i64 x.f, .int .i64 x.t] 36)).heap.size = wr.heap.size + 1 := by simp
        have hnb : (Value.slice A2 O.length c2).ownBlock ≠ some wr.heap.size := fun e => by have := (hown.lt _ e).2; omega
        clear hl2 hf2 hown
        go_upto_region 7 with (fail)
        obtain ⟨W, hW⟩ : ∃ W, W = wr.alloc (.cells #[.int .i64 x.f, .int .i64 x.t] 36) := ⟨_, rfl⟩
        rw [← hW] at hrow hownA hbA hzA ⊢
        clear hW
        have hzA1 : wr.heap.size < W.heap.size := by omega
        have s0 : W.cell? ⟨wr.heap.size, 0, none⟩ = some (.int .i64 x.f) := by rw [cell_of_row W _ 0 _ _ _ hrow]; rfl
        have hWz := hbA.size
        clear hzA
        go_wp2_with (at_builtin; go_loud (refine wpList_append_rd (by rfl) (.tmp 17) (.tmp 22) 22 (by rfl) w.heap.size 36 i0 _ 2 16 Try.underlying22 hi0 hz0 hz1 hz2 rfl (by omega) (.slice A2 O.length c2) O.length (flat Sp.cells O) (by rfl) (hownA.alloc _) (W.heap.size + 1) (some ⟨W.heap.size, 0, none⟩) 1 1 [.int .i64 q, .int .i64 x.f] (by rfl) (Rd.built (heap_alloc_new W _) (by omega) rfl) (by intro u hu; simp at hu; rcases hu with rfl | rfl <;> rfl) (by unfold maxLen; omega) (by omega) (by simp; omega) ?_); intro v4 w4 hown4 hg4 hat4
                     obtain ⟨A4, c4, rfl, _, _, _⟩ := own_form hown4
                     have hrow4 := (hg4.block wr.heap.size (by simp; omega) (fun e => hnb e.symm)).trans ((Below.heap_alloc _ _ _ hzA1).trans hrow)
                     have t1 : w4.cell? ⟨wr.heap.size, 1, none⟩ = some (.int .i64 x.t) := by rw [cell_of_row w4 _ 1 _ _ _ hrow4]; rfl)
        have hb4 := (hbA.alloc hbA.size (.cells #[.int .i64 q, .int .i64 x.f] 36)).grown hg4 (by simp; omega) (fun g e => by have := (hownA.lt g e).1; omega)
        go_roundw
        case rel =>
          refine ⟨k + 1, O ++ [Sp.mk q x.f], x.t, by omega, by go_num, rfl, by omega, by omega, HO2.out, by rw [HL2.out]; omega, ?_, hb4⟩
          rw [HL2.out, HF2.out]
          exact hown4
        case measure => simp [intOf]; omega
      · have HO2 : Hid (O ++ compl x.t (l.drop (k + 1)) = compl 0 l) := by have := HO.out; rw [if_neg hlt2] at this; exact this
        go_wp2_with fail
        go_roundw
        case rel => exact ⟨k + 1, O, x.t, by omega, by go_num, rfl, by omega, by omega, HO2.out, by omega, hown.alloc _, hb.alloc hwsz _⟩
        case measure => simp [intOf]; omega
    · rw [List.drop_eq_nil_of_le (by have := HN.out; omega)] at hO
      rw [compl] at hO
      have HO := Lib.hid hO
      clear hO
      by_cases hlt2 : q < 73049
      · have HO2 : Hid (O ++ [Sp.mk q 73049] = nf fun x => !cov l x) := by have := HO.out; rw [if_pos hlt2] at this; exact this.trans HR.out
        have hl2 : (O ++ [Sp.mk q 73049]).length = O.length + 1 := by simp
        have hf2 : flat Sp.cells (O ++ [Sp.mk q 73049]) = flat Sp.cells O ++ [.int .i64 q, .int .i64 73049] := by rw [flat_append, flat_one]; rfl
        have HL2 := Lib.hid hl2
        have HF2 := Lib.hid hf2
        clear hl2 hf2
        go_wp2_with (at_builtin; go_loud (refine wpList_append_rd (by rfl) (.tmp 29) (.tmp 32) 22 (by rfl) w.heap.size 36 i0 _ 2 16 Try.underlying22 hi0 hz0 hz1 hz2 rfl (by omega) (.slice A2 O.length c2) O.length (flat Sp.cells O) (by rfl) (hown.alloc _) (wr.heap.size + 1) (some ⟨wr.heap.size, 0, none⟩) 1 1 [.int .i64 q, .int .i64 73049] (by rfl) (Rd.built (heap_alloc_new wr _) (by omega) rfl) (by intro u hu; simp at hu; rcases hu with rfl | rfl <;> rfl) (by unfold maxLen; omega) (by omega) (by simp; omega) ?_); intro v4 w4 hown4 hg4 hat4
                     obtain ⟨A4, c4, rfl, _, _, _⟩ := own_form hown4)
        have hb4 := (hb.alloc hwsz (.cells #[.int .i64 q, .int .i64 73049] 36)).grown hg4 (by simp; omega) (fun g e => by have := (hown.lt g e).1; omega)
        go_ret
        show RetNf _ _ _ _
        unfold RetNf
        rw [← HO2.out, HL2.out, HF2.out]
        exact ⟨A4, c4, rfl, hown4, hb4⟩
      · have HO2 : Hid (O = nf fun x => !cov l x) := by have := HO.out; rw [if_neg hlt2, List.append_nil] at this; exact this.trans HR.out
        go_wp2_with fail
        go_ret
        show RetNf _ _ _ _
        unfold RetNf
        rw [← HO2.out]
        exact ⟨A2, c2, rfl, hown, hb⟩
end Go.Proofs.Ytjhbicopmgdlcaa
