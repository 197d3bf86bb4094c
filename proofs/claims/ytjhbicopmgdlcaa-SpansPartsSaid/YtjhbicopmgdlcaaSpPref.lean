/- Prefix of the program. -/
import Derived.Test.YtjhbicopmgdlcaaSpNth
import Derived.Test.YtjhbicopmgdlcaaSpansB
namespace Go.Proofs.Ytjhbicopmgdlcaa
open Go.RowKit

theorem prefL_yes {s : Sp} {r : List Sp} {n : Int} (h : ¬ n < 1) : prefL (s :: r) n = ⟨s.f, s.f + min n (s.t - s.f)⟩ :: prefL r (n - min n (s.t - s.f)) := by
  show (if n < 1 then [] else _) = _
  rw [if_neg h]

set_option maxRecDepth 100000 in
set_option maxHeartbeats 4000000 in
theorem prefix_any {A : Option Addr} {n c : Nat} {l : List Sp} {w : World} (q : Int) (h : Ds w A n l) (hn : n ≤ 1000) (hq : I64 q) :
    Calls Try.prog 31 #[.slice A n c, .int .i64 q] w (RetNf w fun x => dset l x && decide (befL (nf (dset l)) x < q)) := by
  obtain ⟨i0, hi0, hz0, hz1, hz2⟩ := info_parts info_span
  obtain ⟨hq1, hq2⟩ := hq
  have hnl := nf_length_le h.2
  have hres : ∀ N, nf (dset l) = N → prefL N q = nf fun x => dset l x && decide (befL (nf (dset l)) x < q) := by rintro _ rfl; exact prefL_nf (dset l) q
  have HRES := Lib.hid hres
  clear hres
  have hfit := nf_fit (dset l)
  go_enter Try.func31, Try.ntmps31
  go_wp2_with fail
  refine (make_nf h (by omega)).mono ?_
  rintro e w1 ⟨A1, c1, rfl, hown, hb1⟩
  generalize hN : nf (dset l) = N at hown hnl hfit ⊢
  have hres2 : Hid (prefL N q = nf fun x => dset l x && decide (befL (nf (dset l)) x < q)) := HRES.out N hN
  clear HRES hN
  have hd1 := Ds.ofOwn hown rfl
  generalize hm : N.length = m at *
  have HM := Lib.hid hm
  have HF := Lib.hid hfit
  have hzw := hb1.size
  clear hm hfit hown
  go_wp2_with fail
  go_loopw [1, 5, 11] (fun v o i wr => ∃ (k : Nat) (O : List Sp) (r : Int), k ≤ m ∧ i = .int .i64 (k : Int) ∧ v = .int .i64 r ∧ -9223372036854775808 ≤ r ∧ r ≤ 9223372036854775807 ∧ O ++ prefL (N.drop k) r = prefL N q ∧ O.length ≤ k ∧ wr.ownsRow w1.heap.size 36 2 o O.length (flat Sp.cells O) ∧ Below w1.heap.size w1 wr) (fun _ _ i _ => m - (intOf i).toNat)
  case atStart => exact ⟨0, [], q, by omega, rfl, rfl, hq1, hq2, rfl, by simp, World.ownsRow_nil _ _ _ _, Below.refl _ _⟩
  case round =>
    obtain ⟨k, O, r, hk, rfl, rfl, hr0, hr1, hO, hOk, hown, hb⟩ := hrel
    have hwsz := hb.size
    obtain ⟨A2, c2, rfl, _, _, _⟩ := own_form hown
    by_cases hlt : k < m
    · have hkl : k < N.length := by rw [HM.out]; exact hlt
      obtain ⟨x, hx⟩ : ∃ x, N[k]? = some x := ⟨_, List.getElem?_eq_getElem hkl⟩
      obtain ⟨_, g, o, rfl, hgb, e0, e1⟩ := sp_cells (hd1.1.below hb) hx
      obtain ⟨f1, f2, f3⟩ := HF.out x (List.mem_of_getElem? hx)
      have hlo : (0 : Int) ≤ (k : Int) := by omega
      have hhi : (k : Int) < (m : Int) := by omega
      rw [drop_getS hx] at hO
      clear hx
      have hownA := hown.alloc (.cells #[.int .i64 x.f, .int .i64 x.t] 36)
      have hbA := hb.alloc hwsz (.cells #[.int .i64 x.f, .int .i64 x.t] 36)
      have hrow : (wr.alloc (.cells #[.int .i64 x.f, .int .i64 x.t] 36)).heap[wr.heap.size]? = some (.cells #[.int .i64 x.f, .int .i64 x.t] 36 (0, 0)) := heap_alloc_new wr _
      have hzA : wr.heap.size < (wr.alloc (.cells #[.int .i64 x.f, .int .i64 x.t] 36)).heap.size := by simp
      by_cases hlt1 : r < 1
      · rw [prefL_stop _ hlt1, List.append_nil] at hO
        have HO : Hid (O = nf fun x => dset l x && decide (befL (nf (dset l)) x < q)) := hO.trans hres2.out
        clear hO
        go_wp2_with fail
        go_ret
        show RetNf _ _ _ _
        unfold RetNf
        rw [← HO.out]
        exact ⟨A2, c2, rfl, ownsRow_base hownA hzw, hb1.trans (hbA.mono hzw)⟩
      · rw [prefL_yes hlt1] at hO
        have hO2 : (O ++ [Sp.mk x.f (x.f + min r (x.t - x.f))]) ++ prefL (N.drop (k + 1)) (r - min r (x.t - x.f)) = prefL N q := by rw [List.append_assoc]; exact hO
        have HO := Lib.hid hO2
        have hfin : ∀ y : Int, (O ++ [Sp.mk x.f y]).length = O.length + 1 := fun y => by simp
        have HL2 := Lib.hid hfin
        have hf2 : ∀ y : Int, flat Sp.cells (O ++ [Sp.mk x.f y]) = flat Sp.cells O ++ [.int .i64 x.f, .int .i64 y] := fun y => by rw [flat_append, flat_one]; rfl
        have HF2 := Lib.hid hf2
        clear hO hO2 hfin hf2
        by_cases hgt : r < x.t - x.f
        · have hmin : min r (x.t - x.f) = r := by omega
          rw [hmin] at HO
          clear hmin
          go_upto_region 8 with (fail)
          have hownB := hown.alloc (.cells #[.int .i64 x.f, .int .i64 (x.f + r)] 36)
          have hbB := hb.alloc hwsz (.cells #[.int .i64 x.f, .int .i64 (x.f + r)] 36)
          have hrowW : (wr.alloc (.cells #[.int .i64 x.f, .int .i64 (x.f + r)] 36)).heap[wr.heap.size]? = some (.cells #[.int .i64 x.f, .int .i64 (x.f + r)] 36 (0, 0)) := heap_alloc_new wr _
          have hzW : wr.heap.size < (wr.alloc (.cells #[.int .i64 x.f, .int .i64 (x.f + r)] 36)).heap.size := by simp
          obtain ⟨W, hW⟩ : ∃ W, W = wr.alloc (.cells #[.int .i64 x.f, .int .i64 (x.f + r)] 36) := ⟨_, rfl⟩
          clear hownA hbA hrow hzA hown hb
          rw [← hW] at hrowW hownB hbB hzW ⊢
          clear hW
          have s0 : W.cell? ⟨wr.heap.size, 0, none⟩ = some (.int .i64 x.f) := by rw [cell_of_row W _ 0 _ _ _ hrowW]; rfl
          have s1 : W.cell? ⟨wr.heap.size, 1, none⟩ = some (.int .i64 (x.f + r)) := by rw [cell_of_row W _ 1 _ _ _ hrowW]; rfl
          have hWz := hbB.size
          go_wp2_with (at_builtin; go_loud (refine wpList_append_rd (by rfl) (.tmp 36) (.tmp 38) 22 (by rfl) w1.heap.size 36 i0 _ 2 16 Try.underlying22 hi0 hz0 hz1 hz2 rfl (by omega) (.slice A2 O.length c2) O.length (flat Sp.cells O) (by rfl) (hownB.alloc _) (W.heap.size + 1) (some ⟨W.heap.size, 0, none⟩) 1 1 [.int .i64 x.f, .int .i64 (x.f + r)] (by rfl) (Rd.built (heap_alloc_new W _) (by omega) rfl) (by intro u hu; simp at hu; rcases hu with rfl | rfl <;> rfl) (by unfold maxLen; omega) (by omega) (by simp; omega) ?_); intro v4 w4 hown4 hg4 hat4
                       obtain ⟨A4, c4, rfl, _, _, _⟩ := own_form hown4)
          have hb4 := (hbB.alloc hWz (.cells #[.int .i64 x.f, .int .i64 (x.f + r)] 36)).grown hg4 (by simp; omega) (fun g e => by have := (hownB.lt g e).1; omega)
          go_roundw
          case rel =>
            refine ⟨k + 1, O ++ [Sp.mk x.f (x.f + r)], r - r, by omega, by go_num, ?_, by omega, by omega, HO.out, by rw [HL2.out]; omega, ?_, hb4⟩
            · first | rfl | (congr 1; omega)
            · rw [HL2.out, HF2.out]
              exact hown4
          case measure => simp [intOf]; omega
        · have hmin : min r (x.t - x.f) = x.t - x.f := by omega
          rw [hmin, show x.f + (x.t - x.f) = x.t by omega] at HO
          clear hmin
          go_upto_region 8 with (fail)
          obtain ⟨W, hW⟩ : ∃ W, W = wr.alloc (.cells #[.int .i64 x.f, .int .i64 x.t] 36) := ⟨_, rfl⟩
          rw [← hW] at hrow hownA hbA hzA ⊢
          clear hW hown hb
          have s0 : W.cell? ⟨wr.heap.size, 0, none⟩ = some (.int .i64 x.f) := by rw [cell_of_row W _ 0 _ _ _ hrow]; rfl
          have s1 : W.cell? ⟨wr.heap.size, 1, none⟩ = some (.int .i64 x.t) := by rw [cell_of_row W _ 1 _ _ _ hrow]; rfl
          have hWz := hbA.size
          go_wp2_with (at_builtin; go_loud (refine wpList_append_rd (by rfl) (.tmp 36) (.tmp 38) 22 (by rfl) w1.heap.size 36 i0 _ 2 16 Try.underlying22 hi0 hz0 hz1 hz2 rfl (by omega) (.slice A2 O.length c2) O.length (flat Sp.cells O) (by rfl) (hownA.alloc _) (W.heap.size + 1) (some ⟨W.heap.size, 0, none⟩) 1 1 [.int .i64 x.f, .int .i64 x.t] (by rfl) (Rd.built (heap_alloc_new W _) (by omega) rfl) (by intro u hu; simp at hu; rcases hu with rfl | rfl <;> rfl) (by unfold maxLen; omega) (by omega) (by simp; omega) ?_); intro v4 w4 hown4 hg4 hat4
                       obtain ⟨A4, c4, rfl, _, _, _⟩ := own_form hown4)
          have hb4 := (hbA.alloc hWz (.cells #[.int .i64 x.f, .int .i64 x.t] 36)).grown hg4 (by simp; omega) (fun g e => by have := (hownA.lt g e).1; omega)
          go_roundw
          case rel =>
            refine ⟨k + 1, O ++ [Sp.mk x.f x.t], r - (x.t - x.f), by omega, by go_num, rfl, by omega, by omega, HO.out, by rw [HL2.out]; omega, ?_, hb4⟩
            rw [HL2.out, HF2.out]
            exact hown4
          case measure => simp [intOf]; omega
    · rw [List.drop_eq_nil_of_le (by have := HM.out; omega)] at hO
      have HO : Hid (O = nf fun x => dset l x && decide (befL (nf (dset l)) x < q)) := by
        have h2 : O ++ prefL [] r = O := List.append_nil O
        rw [h2] at hO
        exact hO.trans hres2.out
      clear hO
      go_wp2_with fail
      go_ret
      show RetNf _ _ _ _
      unfold RetNf
      rw [← HO.out]
      exact ⟨A2, c2, rfl, ownsRow_base hown hzw, hb1.trans (hb.mono hzw)⟩
end Go.Proofs.Ytjhbicopmgdlcaa
