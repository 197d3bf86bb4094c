/- Prefix of the reference. -/
import Derived.Test.YtjhbicopmgdlcaaSpPref
import Derived.StillTailTactics
namespace Go.Proofs.Ytjhbicopmgdlcaa
open Go.RowKit

set_option maxRecDepth 100000 in
set_option maxHeartbeats 4000000 in
theorem rprefix_any {A : Option Addr} {n c : Nat} {l : List Sp} {w : World} (q : Int) (h : Ds w A n l) (hn : n ≤ 1000) (hq : I64 q) :
    Calls Try.prog 32 #[.slice A n c, .int .i64 q] w (RetNf w fun x => dset l x && decide (befL (nf (dset l)) x < q)) := by
  obtain ⟨i0, hi0, hz0, hz1, hz2⟩ := info_parts info_span
  obtain ⟨hq1, hq2⟩ := hq
  have hnl := nf_length_le h.2
  have hres : ∀ N, nf (dset l) = N → prefL N q = nf fun x => dset l x && decide (befL (nf (dset l)) x < q) := by rintro _ rfl; exact prefL_nf (dset l) q
  have HRES := Lib.hid hres
  clear hres
  have hfit := nf_fit (dset l)
  go_enter Try.func32, Try.ntmps32
  go_wp2_with fail
  refine (rmake_nf h (by omega)).mono ?_
  rintro e w1 ⟨A1, c1, rfl, hown, hb1⟩
  generalize hN : nf (dset l) = N at hown hnl hfit ⊢
  have hres2 : Hid (prefL N q = nf fun x => dset l x && decide (befL (nf (dset l)) x < q)) := HRES.out N hN
  clear HRES hN
  have hd1 := Ds.ofOwn hown rfl
  generalize hm : N.length = m at *
  have HM := Lib.hid hm
  have HF := Lib.hid hfit
  have hzw := hb1.size
  clear hm hfit hown
  go_wp2_with fail
  go_loopw [1, 5, 7] (fun v o i wr => ∃ (k : Nat) (O : List Sp) (r : Int), k ≤ m ∧ i = .int .i64 (k : Int) ∧ v = .int .i64 r ∧ -9223372036854775808 ≤ r ∧ r ≤ 9223372036854775807 ∧ O ++ prefL (N.drop k) r = prefL N q ∧ O.length ≤ k ∧ wr.ownsRow w1.heap.size 36 2 o O.length (flat Sp.cells O) ∧ Below w1.heap.size w1 wr) (fun _ _ i _ => m - (intOf i).toNat)
  case atStart => exact ⟨0, [], q, by omega, rfl, rfl, hq1, hq2, rfl, by simp, World.ownsRow_nil _ _ _ _, Below.refl _ _⟩
  case round =>
    obtain ⟨k, O, r, hk, rfl, rfl, hr0, hr1, hO, hOk, hown, hb⟩ := hrel
    have hwsz := hb.size
    obtain ⟨A2, c2, rfl, _, _, _⟩ := own_form hown
    by_cases hlt : k < m
    · have hkl : k < N.length := by rw [HM.out]; exact hlt
      obtain ⟨x, hx⟩ : ∃ x, N[k]? = some x := ⟨_, List.getElem?_eq_getElem hkl⟩
      obtain ⟨_, g, o, rfl, hgb, e0w, e1w⟩ := sp_cells hd1.1 hx
      have e0 := (hb.cell (p := ⟨g, o + k * 2, none⟩) hgb).trans e0w
      have e1 := (hb.cell (p := ⟨g, o + k * 2 + 1, none⟩) hgb).trans e1w
      obtain ⟨f1, f2, f3⟩ := HF.out x (List.mem_of_getElem? hx)
      have hlo : (0 : Int) ≤ (k : Int) := by omega
      have hhi : (k : Int) < (m : Int) := by omega
      rw [drop_getS hx] at hO
      clear hx e0w e1w
      by_cases hlt1 : r < 1
      · have hdr : decide (0 < r) = false := by simp; omega
        rw [prefL_stop _ hlt1, List.append_nil] at hO
        have HO : Hid (O = nf fun x => dset l x && decide (befL (nf (dset l)) x < q)) := hO.trans hres2.out
        clear hO
        go_wp2_with fail
        go_ret
        show RetNf _ _ _ _
        unfold RetNf
        rw [← HO.out]
        exact ⟨A2, c2, rfl, ownsRow_base hown hzw, hb1.trans (hb.mono hzw)⟩
      · have hdr : decide (0 < r) = true := by simp; omega
        rw [prefL_yes hlt1] at hO
        have hO2 : (O ++ [Sp.mk x.f (x.f + min r (x.t - x.f))]) ++ prefL (N.drop (k + 1)) (r - min r (x.t - x.f)) = prefL N q := by rw [List.append_assoc]; exact hO
        have HO := Lib.hid hO2
        have hmn : (if x.t - x.f < r then x.t - x.f else r) = min r (x.t - x.f) := by split <;> omega
        have hw1 : IntKind.i64.wrap (x.t - x.f) = x.t - x.f := IntWalk.i64_in _ (by omega)
        have hm1 : 1 ≤ min r (x.t - x.f) ∧ min r (x.t - x.f) ≤ r ∧ min r (x.t - x.f) ≤ x.t - x.f := by omega
        obtain ⟨m1, m2, m3⟩ := hm1
        have hl2 : (O ++ [Sp.mk x.f (x.f + min r (x.t - x.f))]).length = O.length + 1 := by simp
        have hf2 : flat Sp.cells (O ++ [Sp.mk x.f (x.f + min r (x.t - x.f))]) = flat Sp.cells O ++ [.int .i64 x.f, .int .i64 (x.f + min r (x.t - x.f))] := by rw [flat_append, flat_one]; rfl
        have HL2 := Lib.hid hl2
        have HF2 := Lib.hid hf2
        clear hO hO2 hl2 hf2
        go_wp2_with fail
        go_region
        clear hmn hw1
        generalize min r (x.t - x.f) = mn at *
        have hw2 : IntKind.i64.wrap (x.f + mn) = x.f + mn := IntWalk.i64_in _ (by omega)
        obtain ⟨W, hW, hownW, hbW⟩ : ∃ W, W = wr.drew ∧ W.ownsRow w1.heap.size 36 2 (.slice A2 O.length c2) O.length (flat Sp.cells O) ∧ Below w1.heap.size w1 W := ⟨_, rfl, hown, hb.drew⟩
        have d0 : W.cell? ⟨g, o + k * 2, none⟩ = some (.int .i64 x.f) := by rw [hW]; exact e0
        rw [← hW]
        clear hW hown hb e0 e1
        have hWz := hbW.size
        go_wp2_with fail
        go_region_law (first
          | (refine step_append_rd (by rfl) (.tmp 34) (.tmp 48) 22 (by rfl) w1.heap.size 36 i0 _ 2 16 Try.underlying22 hi0 hz0 hz1 hz2 rfl (by omega) (.slice A2 O.length c2) O.length (flat Sp.cells O) (by rfl) (by first | exact hownW.alloc _ | exact (hownW.alloc _).drew)
              (W.heap.size + 1) (some ⟨W.heap.size, 0, none⟩) 1 1 [.int .i64 x.f, .int .i64 (x.f + mn)] (by rfl) (Rd.built (cs := #[.int .i64 x.f, .int .i64 (x.f + mn)]) (heap_alloc_new W _) (by omega) rfl) (by intro u hu; simp at hu; rcases hu with rfl | rfl <;> rfl) (by unfold maxLen; omega) (by omega) (by simp; omega) ?_
             intro v4 w4 hown4 hg4 hat4
             obtain ⟨A4, c4, rfl, _, _, _⟩ := own_form hown4
             have hb4 : Below w1.heap.size w1 w4 := by first | exact (hbW.alloc hWz _).grown hg4 (by simp; omega) (fun g e => by have := (hownW.lt g e).1; omega) | exact (hbW.alloc hWz _).drew.grown hg4 (by simp; omega) (fun g e => by have := (hownW.lt g e).1; omega)))
        all_goals go_wp2_with fail
        all_goals go_roundw
        all_goals first
          | (case rel =>
               refine ⟨k + 1, O ++ [Sp.mk x.f (x.f + mn)], r - mn, by omega, by go_num, rfl, by omega, by omega, HO.out, by rw [HL2.out]; omega, ?_, hb4⟩
               rw [HL2.out, HF2.out]
               exact hown4)
          | (simp [intOf]; omega)
    · rw [List.drop_eq_nil_of_le (by have := HM.out; omega)] at hO
      have HO : Hid (O = nf fun x => dset l x && decide (befL (nf (dset l)) x < q)) := by
        have h2 : O ++ prefL [] r = O := List.append_nil O
        rw [h2] at hO
        exact hO.trans hres2.out
      clear hO
      go_wp2_with fail
      go_ret
      show RetNf _ _ _ _
      unfold RetNf
      rw [← HO.out]
      exact ⟨A2, c2, rfl, ownsRow_base hown hzw, hb1.trans (hb.mono hzw)⟩
end Go.Proofs.Ytjhbicopmgdlcaa
