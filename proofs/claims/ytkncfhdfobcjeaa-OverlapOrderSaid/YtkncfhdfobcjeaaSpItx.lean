/- The program's Intersect. -/
import Derived.Test.YtkncfhdfobcjeaaSpNth
import Derived.StillTailTactics
namespace Go.Proofs.Ytkncfhdfobcjeaa
open Go.RowKit

set_option maxHeartbeats 8000000 in
set_option maxRecDepth 100000 in
theorem intersect_any {A B : Option Addr} {n m c d : Nat} {la lb : List Sp} {w : World} (ha : Ds w A n la) (hb : Ds w B m lb) (hn : n ≤ 5000) (hm : m ≤ 5000) :
    Calls Try.prog 135 #[.slice A n c, .slice B m d] w (RetNf w fun x => dset la x && dset lb x) := by
  obtain ⟨i0, hi0, hz0, hz1, hz2⟩ := info_parts info_span
  have hna := nf_length_le ha.2
  have hnb := nf_length_le hb.2
  have hres : itxN ((nf (dset la)).length + (nf (dset lb)).length) (nf (dset la)) (nf (dset lb)) = nf fun x => dset la x && dset lb x := by
    rw [itx_eq (nf_norm _) (nf_norm _) (Nat.le_refl _)]
    refine nf_congr fun x hx => ?_
    rw [nf_cov, nf_cov, hx, Bool.true_and, Bool.true_and]
  have hfa := nf_fit (dset la)
  have hfb := nf_fit (dset lb)
  have HR := Lib.hid hres
  have HFA := Lib.hid hfa
  have HFB := Lib.hid hfb
  clear hres hfa hfb
  go_enter Try.func135, Try.ntmps135
  go_wp2_with fail
  refine (make_nf ha (by omega)).mono ?_
  rintro e w1 ⟨A1, c1, rfl, hown1, hb1⟩
  have hd1 := Ds.ofOwn hown1 rfl
  have hbB := hb.below hb1
  have hz1w := hb1.size
  clear ha hb hown1
  go_wp2_with fail
  refine (make_nf hbB (by omega)).mono ?_
  rintro e w2 ⟨B1, d1, rfl, hown2, hb2⟩
  have hd2 := Ds.ofOwn hown2 rfl
  have hd1' := hd1.below hb2
  have hbb2 := hb1.trans (hb2.mono hz1w)
  clear hd1 hbB hown2 hb1 hb2
  generalize nf (dset la) = P at *
  generalize nf (dset lb) = Q at *
  generalize hp : P.length = p at *
  generalize hq : Q.length = q at *
  have HP := Lib.hid hp
  have HQ := Lib.hid hq
  have hz2w := hbb2.size
  clear hp hq
  go_wp2_with fail
  go_loopw [5, 6, 7] (fun v i j wr => ∃ (a b : Nat) (O : List Sp), a ≤ p ∧ b ≤ q ∧ i = .int .i64 (a : Int) ∧ j = .int .i64 (b : Int) ∧ O ++ itxN ((p - a) + (q - b)) (P.drop a) (Q.drop b) = itxN (p + q) P Q ∧ O.length ≤ a + b ∧ wr.ownsRow w2.heap.size 48 2 v O.length (flat Sp.cells O) ∧ Below w2.heap.size w2 wr) (fun _ i j _ => (p - (intOf i).toNat) + (q - (intOf j).toNat))
  case atStart => exact ⟨0, 0, [], by omega, by omega, rfl, rfl, rfl, by simp, World.ownsRow_nil _ _ _ _, Below.refl _ _⟩
  case round =>
    obtain ⟨a, b, O, hap, hbq, rfl, rfl, hO, hOl, hown, hbr⟩ := hrel
    have hwsz := hbr.size
    obtain ⟨A2, c2, rfl, _, _, _⟩ := own_form hown
    by_cases hal : a < p
    · by_cases hbl : b < q
      · obtain ⟨x, hx⟩ : ∃ x, P[a]? = some x := ⟨_, List.getElem?_eq_getElem (by rw [HP.out]; exact hal)⟩
        obtain ⟨y, hy⟩ : ∃ y, Q[b]? = some y := ⟨_, List.getElem?_eq_getElem (by rw [HQ.out]; exact hbl)⟩
        obtain ⟨_, g, o, rfl, hgb, e0w, e1w⟩ := sp_cells hd1'.1 hx
        obtain ⟨_, g2, o2, rfl, hgb2, e2w, e3w⟩ := sp_cells hd2.1 hy
        have e0 := (hbr.cell (p := ⟨g, o + a * 2, none⟩) hgb).trans e0w
        have e1 := (hbr.cell (p := ⟨g, o + a * 2 + 1, none⟩) hgb).trans e1w
        have e2 := (hbr.cell (p := ⟨g2, o2 + b * 2, none⟩) hgb2).trans e2w
        have e3 := (hbr.cell (p := ⟨g2, o2 + b * 2 + 1, none⟩) hgb2).trans e3w
        clear e0w e1w e2w e3w
        obtain ⟨f1, f2, f3⟩ := HFA.out x (List.mem_of_getElem? hx)
        obtain ⟨f4, f5, f6⟩ := HFB.out y (List.mem_of_getElem? hy)
        have hfu : (p - a) + (q - b) = ((p - (a + 1)) + (q - b)) + 1 := by omega
        have hfu2 : (p - a) + (q - (b + 1)) = (p - (a + 1)) + (q - b) := by omega
        rw [hfu, drop_getS hx, drop_getS hy, itxN] at hO
        have hs1 : P.drop a = x :: P.drop (a + 1) := drop_getS hx
        have hs2 : Q.drop b = y :: Q.drop (b + 1) := drop_getS hy
        rw [← hs1, ← hs2] at hO
        have HO := Lib.hid hO
        have HFU := Lib.hid hfu2
        have hlo1 : (0 : Int) ≤ (a : Int) := by omega
        have hhi1 : (a : Int) < (p : Int) := by omega
        have hlo2 : (0 : Int) ≤ (b : Int) := by omega
        have hhi2 : (b : Int) < (q : Int) := by omega
        have hmx : (if x.f < y.f then y.f else x.f) = max x.f y.f := by split <;> omega
        have hmn : (if y.t < x.t then y.t else x.t) = min x.t y.t := by split <;> omega
        clear hx hy hO hs1 hs2 hfu hfu2
        have hgl : g < wr.heap.size := by omega
        have hgl2 : g2 < wr.heap.size := by omega
        have a0 := (World.cell?_alloc_lt wr (.cells #[.int .i64 0, .int .i64 0] 48) ⟨g, o + a * 2, none⟩ hgl).trans e0
        have a1 := (World.cell?_alloc_lt wr (.cells #[.int .i64 0, .int .i64 0] 48) ⟨g, o + a * 2 + 1, none⟩ hgl).trans e1
        have a2 := (World.cell?_alloc_lt wr (.cells #[.int .i64 0, .int .i64 0] 48) ⟨g2, o2 + b * 2, none⟩ hgl2).trans e2
        have a3 := (World.cell?_alloc_lt wr (.cells #[.int .i64 0, .int .i64 0] 48) ⟨g2, o2 + b * 2 + 1, none⟩ hgl2).trans e3
        go_wp2_with fail
        go_region
        have hrow : (wr.alloc (.cells #[.int .i64 (max x.f y.f), .int .i64 (min x.t y.t)] 48)).drew.heap[wr.heap.size]? = some (.cells #[.int .i64 (max x.f y.f), .int .i64 (min x.t y.t)] 48 (0, 0)) := heap_alloc_new wr _
        have hownA := (hown.alloc (.cells #[.int .i64 (max x.f y.f), .int .i64 (min x.t y.t)] 48)).drew
        have hbA := (hbr.alloc hwsz (.cells #[.int .i64 (max x.f y.f), .int .i64 (min x.t y.t)] 48)).drew
        have hzA : wr.heap.size < (wr.alloc (.cells #[.int .i64 (max x.f y.f), .int .i64 (min x.t y.t)] 48)).drew.heap.size := by simp
        have b1 := (World.cell?_alloc_lt wr (.cells #[.int .i64 (max x.f y.f), .int .i64 (min x.t y.t)] 48) ⟨g, o + a * 2 + 1, none⟩ hgl).trans e1
        have b3 := (World.cell?_alloc_lt wr (.cells #[.int .i64 (max x.f y.f), .int .i64 (min x.t y.t)] 48) ⟨g2, o2 + b * 2 + 1, none⟩ hgl2).trans e3
        have hm1 : 0 ≤ max x.f y.f ∧ max x.f y.f ≤ 73049 := by omega
        clear hmx hmn a0 a1 a2 a3 e0 e1 e2 e3 hown hbr
        obtain ⟨W, hW⟩ : ∃ W, W = (wr.alloc (.cells #[.int .i64 (max x.f y.f), .int .i64 (min x.t y.t)] 48)).drew := ⟨_, rfl⟩
        have b1' : W.cell? ⟨g, o + a * 2 + 1, none⟩ = some (.int .i64 x.t) := by rw [hW]; exact b1
        have b3' : W.cell? ⟨g2, o2 + b * 2 + 1, none⟩ = some (.int .i64 y.t) := by rw [hW]; exact b3
        rw [← hW] at hrow hownA hbA hzA ⊢
        clear hW b1 b3
        have s0 : W.cell? ⟨wr.heap.size, 0, none⟩ = some (.int .i64 (max x.f y.f)) := by rw [cell_of_row W _ 0 _ _ _ hrow]; rfl
        have s1 : W.cell? ⟨wr.heap.size, 1, none⟩ = some (.int .i64 (min x.t y.t)) := by rw [cell_of_row W _ 1 _ _ _ hrow]; rfl
        have hWz := hbA.size
        generalize max x.f y.f = mf at *
        generalize min x.t y.t = mt at *
        by_cases hmm : mf < mt
        · as_aux_lemma =>
            have hl2 : (O ++ [Sp.mk mf mt]).length = O.length + 1 := by simp
            have hf2 : flat Sp.cells (O ++ [Sp.mk mf mt]) = flat Sp.cells O ++ [.int .i64 mf, .int .i64 mt] := by rw [flat_append, flat_one]; rfl
            have HL2 := Lib.hid hl2
            have HF2 := Lib.hid hf2
            clear hl2 hf2
            go_wp2_with (at_builtin; go_loud (refine wpList_append_rd (by rfl) (.tmp 51) (.tmp 53) 34 (by rfl) w2.heap.size 48 i0 _ 2 16 Try.underlying34 hi0 hz0 hz1 hz2 rfl (by omega) (.slice A2 O.length c2) O.length (flat Sp.cells O) (by rfl) (hownA.alloc _) (W.heap.size + 1) (some ⟨W.heap.size, 0, none⟩) 1 1 [.int .i64 mf, .int .i64 mt] (by rfl) (Rd.built (heap_alloc_new W _) (by omega) rfl) (by intro u hu; simp at hu; rcases hu with rfl | rfl <;> rfl) (by unfold maxLen; omega) (by omega) (by simp; omega) ?_); intro v4 w4 hown4 hg4 hat4
                         obtain ⟨A4, c4, rfl, _, _, _⟩ := own_form hown4
                         have hb4 := (hbA.alloc hbA.size (.cells #[.int .i64 mf, .int .i64 mt] 48)).grown hg4 (by simp; omega) (fun g e => by have := (hownA.lt g e).1; omega)
                         have k1 : w4.cell? ⟨g, o + a * 2 + 1, none⟩ = some (.int .i64 x.t) := (hg4.cell (a := ⟨g, o + a * 2 + 1, none⟩) (v := .int .i64 x.t) ((World.cell?_alloc_lt W _ _ (show g < W.heap.size by omega)).trans b1') (by intro e; first | (have := (hownA.lt g e).1; omega) | (have := (hownA.lt g e.symm).1; omega)))
                         have k3 : w4.cell? ⟨g2, o2 + b * 2 + 1, none⟩ = some (.int .i64 y.t) := (hg4.cell (a := ⟨g2, o2 + b * 2 + 1, none⟩) (v := .int .i64 y.t) ((World.cell?_alloc_lt W _ _ (show g2 < W.heap.size by omega)).trans b3') (by intro e; first | (have := (hownA.lt g2 e).1; omega) | (have := (hownA.lt g2 e.symm).1; omega))))
            go_quiet (fail)
            by_cases ht : x.t < y.t
            · as_aux_lemma =>
                have HO2 : Hid ((O ++ [Sp.mk mf mt]) ++ itxN ((p - (a + 1)) + (q - b)) (P.drop (a + 1)) (Q.drop b) = itxN (p + q) P Q) := by have := HO.out; rw [if_pos (show mf < mt by omega), if_pos (show x.t < y.t by omega)] at this; rw [List.append_assoc]; exact this
                go_wp2_with fail
                go_roundw
                case rel =>
                  refine ⟨a + 1, b, O ++ [Sp.mk mf mt], by omega, by omega, by go_num, rfl, HO2.out, by rw [HL2.out]; omega, ?_, below_drewN hb4 nq⟩
                  rw [HL2.out, HF2.out]
                  exact hown4
                case measure => simp [intOf]; omega
            · as_aux_lemma =>
                have HO2 : Hid ((O ++ [Sp.mk mf mt]) ++ itxN ((p - a) + (q - (b + 1))) (P.drop a) (Q.drop (b + 1)) = itxN (p + q) P Q) := by have := HO.out; rw [if_pos (show mf < mt by omega), if_neg (show ¬ x.t < y.t by omega)] at this; rw [List.append_assoc, HFU.out]; exact this
                go_wp2_with fail
                go_roundw
                case rel =>
                  refine ⟨a, b + 1, O ++ [Sp.mk mf mt], by omega, by omega, rfl, by go_num, HO2.out, by rw [HL2.out]; omega, ?_, below_drewN hb4 nq⟩
                  rw [HL2.out, HF2.out]
                  exact hown4
                case measure => simp [intOf]; omega
        · as_aux_lemma =>
            go_wp2_with fail
            go_quiet (fail)
            by_cases ht : x.t < y.t
            · as_aux_lemma =>
                have HO2 : Hid (O ++ itxN ((p - (a + 1)) + (q - b)) (P.drop (a + 1)) (Q.drop b) = itxN (p + q) P Q) := by have := HO.out; rw [if_neg (show ¬ mf < mt by omega), if_pos (show x.t < y.t by omega)] at this; exact this
                go_wp2_with fail
                go_roundw
                case rel => exact ⟨a + 1, b, O, by omega, by omega, by go_num, rfl, HO2.out, by omega, hownA, below_drewN hbA nq⟩
                case measure => simp [intOf]; omega
            · as_aux_lemma =>
                have HO2 : Hid (O ++ itxN ((p - a) + (q - (b + 1))) (P.drop a) (Q.drop (b + 1)) = itxN (p + q) P Q) := by have := HO.out; rw [if_neg (show ¬ mf < mt by omega), if_neg (show ¬ x.t < y.t by omega)] at this; rw [HFU.out]; exact this
                go_wp2_with fail
                go_roundw
                case rel => exact ⟨a, b + 1, O, by omega, by omega, rfl, by go_num, HO2.out, by omega, hownA, below_drewN hbA nq⟩
                case measure => simp [intOf]; omega
      · as_aux_lemma =>
          have HO2 : Hid (O = nf fun x => dset la x && dset lb x) := by
            rw [List.drop_eq_nil_of_le (show Q.length ≤ b by have := HQ.out; omega), itxN_nil _ _ _ (.inr rfl), List.append_nil] at hO
            exact hO.trans HR.out
          clear hO
          go_wp2_with fail
          go_ret
          show RetNf _ _ _ _
          unfold RetNf
          rw [← HO2.out]
          exact ⟨A2, c2, rfl, ownsRow_base hown hz2w, hbb2.trans (hbr.mono hz2w)⟩
    · as_aux_lemma =>
        have HO2 : Hid (O = nf fun x => dset la x && dset lb x) := by
          rw [List.drop_eq_nil_of_le (show P.length ≤ a by have := HP.out; omega), itxN_nil _ _ _ (.inl rfl), List.append_nil] at hO
          exact hO.trans HR.out
        clear hO
        go_wp2_with fail
        go_ret
        show RetNf _ _ _ _
        unfold RetNf
        rw [← HO2.out]
        exact ⟨A2, c2, rfl, ownsRow_base hown hz2w, hbb2.trans (hbr.mono hz2w)⟩
end Go.Proofs.Ytkncfhdfobcjeaa
