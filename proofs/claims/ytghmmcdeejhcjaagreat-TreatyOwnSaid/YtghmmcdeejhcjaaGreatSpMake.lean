/- Make. -/
import Derived.Test.YtghmmcdeejhcjaaGreatSpSort
import Derived.Deep.DeepCutAuto
namespace Go.Proofs.YtghmmcdeejhcjaaGreat
open Go.RowKit

theorem cutL_take {l : List Sp} {k : Nat} {x : Sp} (hx : l[k]? = some x) : cutL (l.take (k + 1)) = if (cutS x).f < (cutS x).t then cutL (l.take k) ++ [cutS x] else cutL (l.take k) := by
  have h : l.take (k + 1) = l.take k ++ [x] := by
    rw [List.take_add_one, hx]
    rfl
  rw [h, cutL_snoc]

theorem flat_set_t (O : List Sp) (q : Sp) (v : Int) : (flat Sp.cells (O ++ [q])).set (O.length * 2 + 1) (.int .i64 v) = flat Sp.cells (O ++ [⟨q.f, v⟩]) := by
  rw [flat_append, flat_append, flat_one, flat_one, List.set_append_right _ _ (by rw [sp_flen]; omega), sp_flen, show O.length * 2 + 1 - O.length * 2 = 1 by omega]
  rfl
/-- Three new blocks. -/
theorem three (wr : World) (o1 o2 o3 : Obj) : ∃ W, W = ((wr.alloc o1).alloc o2).alloc o3 ∧ Below wr.heap.size wr W ∧ W.heap[wr.heap.size]? = some o1 ∧ W.heap.size = wr.heap.size + 3 := by
  refine ⟨_, rfl, (((Below.refl _ _).alloc (Nat.le_refl _) _).alloc (by simp) _).alloc (by simp; omega) _, ?_, by simp⟩
  rw [Below.heap_alloc _ _ _ (by simp; omega), Below.heap_alloc _ _ _ (by simp)]
  exact heap_alloc_new wr o1

set_option maxRecDepth 100000 in
set_option maxHeartbeats 4000000 in
theorem make_any (A : Option Addr) (n c : Nat) (l : List Sp) (w : World) (h : Rd w w.heap.size 2 A n (flat Sp.cells l)) (hn : l.length = n) (hn2 : n ≤ 1000000) :
    Calls Tryz.prog 33 #[.slice A n c] w fun e w' => ∃ v, e = .returned v ∧ w'.ownsRow w.heap.size 59 2 v (nf (dset l)).length (flat Sp.cells (nf (dset l))) ∧ Below w.heap.size w w' := by
  obtain ⟨i0, hi0, hz0, hz1, hz2⟩ := info_parts info_span
  have HN := Lib.hid hn
  clear hn
  go_enter Tryz.func33, Tryz.ntmps33
  go_wp2_with fail
  go_loopw [12] (fun i wr => ∃ (k : Nat) (v : Value), k ≤ n ∧ i = .int .i64 (k : Int) ∧ wr.heap[w.heap.size]? = some (.cells #[v] 56 (0, 0)) ∧ wr.ownsRow w.heap.size 59 2 v (cutL (l.take k)).length (flat Sp.cells (cutL (l.take k))) ∧ Below w.heap.size w wr) (fun i _ => n - (intOf i).toNat)
  case atStart => exact ⟨0, _, by omega, rfl, heap_alloc_new w _, World.ownsRow_nil _ _ _ _, (Below.refl _ _).alloc (Nat.le_refl _) _⟩
  case round =>
    obtain ⟨k, v, hk, rfl, hbox, hown, hb⟩ := hrel
    have hwsz := hb.size
    have hbl : w.heap.size < wr.heap.size := (Array.getElem?_eq_some_iff.1 hbox).1
    by_cases hlt : k < n
    · have hkl : k < l.length := by rw [HN.out]; exact hlt
      obtain ⟨x, hx⟩ : ∃ x, l[k]? = some x := ⟨_, List.getElem?_eq_getElem hkl⟩
      obtain ⟨_, g, o, rfl, hgb, e0, e1⟩ := sp_cells (h.below hb) hx
      have hcut := cutL_take hx
      have hcl := cutL_length (l.take k)
      have hcl2 : (l.take k).length ≤ n := by rw [List.length_take]; omega
      have HC := Lib.hid hcut
      obtain ⟨A1, c1, rfl, hnc1, hcm1, hA1⟩ := own_form hown
      have hlo : (0 : Int) ≤ (k : Int) := by omega
      have hhi : (k : Int) < (n : Int) := by omega
      clear hx hcut
      generalize cutL (l.take k) = P at *
      generalize hp : P.length = p at *
      have HP := Lib.hid hp
      clear hp
      have hc0 : wr.cell? ⟨w.heap.size, 0, none⟩ = some (.slice A1 p c1) := by rw [cell_of_row wr _ 0 _ _ _ hbox]; rfl
      have hf0 := frozen_of_row wr w.heap.size 0 _ _ hbox
      go_wp2_with fail
      refine (clamp_any x.f x.t _).mono ?_
      rintro e w2 ⟨rfl, rfl⟩
      go_upto_region 6 with (fail)
      obtain ⟨W3, hW3, hB3, hs3, hz3⟩ := three wr (.cells #[.int .i64 (max x.f 0), .int .i64 (min x.t 73049)] 59) (.cells #[.int .i64 x.f, .int .i64 x.t] 59) (.cells #[.int .i64 (max x.f 0), .int .i64 (min x.t 73049)] 59)
      rw [← hW3]
      clear hW3
      have hbox3 := (hB3.block w.heap.size hbl).trans hbox
      have hown3 := hown.kept (grownBy_of_below hB3 none) (Classical.em _)
      have hb3 := hb.trans (hB3.mono hwsz)
      have s0 : W3.cell? ⟨wr.heap.size, 0, none⟩ = some (.int .i64 (max x.f 0)) := by rw [cell_of_row W3 _ 0 _ _ _ hs3]; rfl
      have s1 : W3.cell? ⟨wr.heap.size, 1, none⟩ = some (.int .i64 (min x.t 73049)) := by rw [cell_of_row W3 _ 1 _ _ _ hs3]; rfl
      have b0 : W3.cell? ⟨w.heap.size, 0, none⟩ = some (.slice A1 p c1) := by rw [cell_of_row W3 _ 0 _ _ _ hbox3]; rfl
      have bf := frozen_of_row W3 w.heap.size 0 _ _ hbox3
      clear hbox hown hB3 hb hc0 hf0 e0 e1
      have hno := own_ne hown3 hbox3 (by decide)
      have HZ := Lib.hid hz3
      have hz4 : wr.heap.size < W3.heap.size := by omega
      have hz5 : w.heap.size < W3.heap.size := by omega
      clear hz3
      by_cases hct : (cutS x).f < (cutS x).t
      · have hct2 : max x.f 0 < min x.t 73049 := hct
        have HC2 : Hid (cutL (l.take (k + 1)) = P ++ [cutS x]) := by have := HC.out; rw [if_pos hct] at this; exact this
        clear hct
        go_wp2_with (at_builtin; go_loud (refine wpList_append_rd (by rfl) (.tmp 23) (.tmp 25) 56 (by rfl) w.heap.size 59 i0 _ 2 16 Tryz.underlying56 hi0 hz0 hz1 hz2 rfl (by omega) (.slice A1 p c1) p (flat Sp.cells P) (by rfl) (hown3.alloc _) (W3.heap.size + 1) (some ⟨W3.heap.size, 0, none⟩) 1 1 [.int .i64 (max x.f 0), .int .i64 (min x.t 73049)] (by rfl) (Rd.built (heap_alloc_new W3 _) (by omega) rfl) (by intro u hu; simp at hu; rcases hu with rfl | rfl <;> rfl) (by unfold maxLen; omega) (by omega) (by simp; omega) ?_); intro v4 w4 hown4 hg4 hat4
                     obtain ⟨A4, c4, rfl, hnc4, hcm4, hA4⟩ := own_form hown4
                     have hbox4 : w4.heap[w.heap.size]? = some (.cells #[.slice A1 p c1] 56 (0, 0)) := (hg4.block w.heap.size (by simp; omega) (fun e => hno e.symm)).trans ((Below.heap_alloc _ _ _ hz5).trans hbox3)
                     have b4 : w4.cell? ⟨w.heap.size, 0, none⟩ = some (.slice A1 p c1) := by rw [cell_of_row w4 _ 0 _ _ _ hbox4]; rfl
                     have f4 := frozen_of_row w4 w.heap.size 0 _ _ hbox4)
        have hno4 := own_ne hown4 hbox4 (by decide)
        have hb4 := (hb3.alloc hb3.size (.cells #[.int .i64 (max x.f 0), .int .i64 (min x.t 73049)] 59)).grown hg4 (by simp; omega) (fun g e => by have := (hown3.lt g e).1; omega)
        have e1 : (P ++ [cutS x]).length = p + 1 := by rw [List.length_append, HP.out]; rfl
        have e2 : flat Sp.cells (P ++ [cutS x]) = flat Sp.cells P ++ [.int .i64 (max x.f 0), .int .i64 (min x.t 73049)] := by rw [flat_append, flat_one]; rfl
        refine ⟨⟨k + 1, .slice A4 (p + 1) c4, by omega, by go_num, heap_setCell_same w4 w.heap.size 0 _ _ _ hbox4, ?_, hb4.setCell (Nat.le_refl _) _⟩, by simp [intOf]; omega⟩
        rw [HC2.out, e1, e2]
        exact ownsRow_setCell_ne (p := ⟨w.heap.size, 0, none⟩) hown4 hno4 _
      · have hct2 : ¬ max x.f 0 < min x.t 73049 := hct
        have HC2 : Hid (cutL (l.take (k + 1)) = P) := by have := HC.out; rw [if_neg hct] at this; exact this
        clear hct
        go_wp2_with fail
        refine ⟨⟨k + 1, .slice A1 p c1, by omega, by go_num, hbox3, ?_, hb3⟩, by simp [intOf]; omega⟩
        rw [HC2.out, HP.out]
        exact hown3
    · have hkN : l.take k = l := List.take_of_length_le (by have := HN.out; omega)
      rw [hkN] at hown
      have hcl := cutL_length l
      have hpl := fun k' (hp : List.Perm k' (cutL l)) (ha : Asc k') => make_eq hp ha
      obtain ⟨A1, c1, rfl, hnc1, hcm1, hA1⟩ := own_form hown
      have hc0 : wr.cell? ⟨w.heap.size, 0, none⟩ = some (.slice A1 (cutL l).length c1) := by rw [cell_of_row wr _ 0 _ _ _ hbox]; rfl
      have hf0 := frozen_of_row wr w.heap.size 0 _ _ hbox
      have HPL := Lib.hid hpl
      generalize cutL l = P at *
      generalize hp : P.length = p at *
      have HP := Lib.hid hp
      clear hp hkN hpl
      go_wp2_with fail
      refine (sort_spans w.heap.size p c1 w.heap.size A1 P wr hown (by have := HN.out; omega) hwsz hbox).mono ?_
      rintro e w5 ⟨rfl, k', hperm, hasc, hrd5, hcell5, hb5⟩
      have hfold := HPL.out k' hperm hasc
      have hkl : k'.length = p := by rw [hperm.length_eq]; exact HP.out
      have hb6 := hb.trans hb5
      have hz6 := hb6.size
      have HF := Lib.hid hfold
      have HK := Lib.hid hkl
      have hpn : p ≤ 1000000 := by have := HN.out; omega
      clear hfold hkl hperm hasc HPL hbox hown hc0 hf0 hb hb5 hA1 hcl
      go_wp2_with fail
      go_loopw [6, 34] (fun v i wn => ∃ (k : Nat) (O : List Sp), k ≤ p ∧ i = .int .i64 (k : Int) ∧ O = (k'.take k).foldl mrgS [] ∧ wn.ownsRow w5.heap.size 59 2 v O.length (flat Sp.cells O) ∧ Below w5.heap.size w5 wn) (fun _ i _ => p - (intOf i).toNat)
      case atStart => exact ⟨0, [], by omega, rfl, rfl, World.ownsRow_nil _ _ _ _, Below.refl _ _⟩
      case round =>
        obtain ⟨k, O, hk, rfl, hO, hown, hb⟩ := hrel
        have hwsz2 := hb.size
        by_cases hlt : k < p
        · have hkl : k < k'.length := by rw [HK.out]; exact hlt
          obtain ⟨x, hx⟩ : ∃ x, k'[k]? = some x := ⟨_, List.getElem?_eq_getElem hkl⟩
          obtain ⟨_, g, o, rfl, hgb, e0, e1⟩ := sp_cells (hrd5.below hb) hx
          have hOl : O.length ≤ k := by
            have := foldl_mrg_length (k'.take k) []
            rw [← hO, List.length_take] at this
            simp at this
            omega
          have hstep : (k'.take (k + 1)).foldl mrgS [] = mrgS O x := by
            rw [List.take_add_one, hx, hO]
            simp [List.foldl_append]
          have HS := Lib.hid hstep
          obtain ⟨A2, c2, rfl, hnc2, hcm2, hA2⟩ := own_form hown
          have hlo : (0 : Int) ≤ (k : Int) := by omega
          have hhi : (k : Int) < (p : Int) := by omega
          clear hx hO hstep
          go_upto_region 15 with (fail)
          have hrow : (wr.alloc (.cells #[.int .i64 x.f, .int .i64 x.t] 59)).heap[wr.heap.size]? = some (.cells #[.int .i64 x.f, .int .i64 x.t] 59 (0, 0)) := heap_alloc_new wr _
          have hownW := hown.alloc (.cells #[.int .i64 x.f, .int .i64 x.t] 59)
          have hbW := hb.alloc hwsz2 (.cells #[.int .i64 x.f, .int .i64 x.t] 59)
          have hzW : wr.heap.size < (wr.alloc (.cells #[.int .i64 x.f, .int .i64 x.t] 59)).heap.size := by simp
          clear hown hb e0 e1
          obtain ⟨W, hW⟩ : ∃ W, W = wr.alloc (.cells #[.int .i64 x.f, .int .i64 x.t] 59) := ⟨_, rfl⟩
          rw [← hW] at hrow hownW hbW hzW ⊢
          clear hW
          have s0 : W.cell? ⟨wr.heap.size, 0, none⟩ = some (.int .i64 x.f) := by rw [cell_of_row W _ 0 _ _ _ hrow]; rfl
          have s1 : W.cell? ⟨wr.heap.size, 1, none⟩ = some (.int .i64 x.t) := by rw [cell_of_row W _ 1 _ _ _ hrow]; rfl
          have hbWs := hbW.size
          rcases List.eq_nil_or_concat O with rfl | ⟨O', q, rfl⟩
          · have HS2 : Hid ((k'.take (k + 1)).foldl mrgS [] = [] ++ [x]) := HS.out
            go_quiet (fail)
            go_wp2_with (at_builtin; go_loud (refine wpList_append_rd (by rfl) (.tmp 67) (.tmp 69) 56 (by rfl) w5.heap.size 59 i0 _ 2 16 Tryz.underlying56 hi0 hz0 hz1 hz2 rfl (by omega) (.slice A2 0 c2) 0 (flat Sp.cells []) (by rfl) ((hownW.kept (grownBy_of_below (below_drewN (Below.refl _ _) nq) none) (Classical.em _)).alloc _) (W.heap.size + 1) (some ⟨W.heap.size, 0, none⟩) 1 1 [.int .i64 x.f, .int .i64 x.t] (by rfl) (Rd.built (heap_alloc_new (W.drewN nq) _) (by omega) rfl) (by intro u hu; simp at hu; rcases hu with rfl | rfl <;> rfl) (by unfold maxLen; omega) (by omega) (by simp; omega) ?_); intro v4 w4 hown4 hg4 hat4)
            have hb4 := ((below_drewN hbW nq).alloc hbWs (.cells #[.int .i64 x.f, .int .i64 x.t] 59)).grown hg4 (by simp; omega) (fun g e => by have := (hownW.lt g e).1; omega)
            refine ⟨⟨k + 1, [x], by omega, by go_num, HS2.out.symm, ?_, hb4⟩, by simp [intOf]; omega⟩
            simpa [flat, Sp.cells] using hown4
          · rw [List.concat_eq_append] at HS hownW hOl ⊢
            have hm1 : mrgS (O' ++ [q]) x = if x.f ≤ q.t then O' ++ [⟨q.f, max q.t x.t⟩] else O' ++ [q, x] := mrgS_snoc O' q x
            have HM := Lib.hid hm1
            have hq2 : (O' ++ [q]).length = O'.length + 1 := by simp
            have hcells := flat_get sp_len (O' ++ [q]) O'.length 1 q (by simp) (by omega)
            have hst := fun (g' : Nat) (h' : W.ownsRow w5.heap.size 59 2 (.slice (some ⟨g', 0, none⟩) (O' ++ [q]).length c2) (O' ++ [q]).length (flat Sp.cells (O' ++ [q]))) (v : Int) => (h'.stored (O'.length * 2 + 1) (.int .i64 v)).1
            obtain ⟨_, _, hv, _, _, hA2'⟩ := own_form hownW
            injection hv with hv1 _ hv2
            subst hv1 hv2
            obtain ⟨g2, rfl, hg2⟩ := hA2' (by rw [hq2]; omega)
            have hc := hownW.cells (g := g2) rfl _ _ hcells
            rw [addAt, Nat.zero_add] at hc
            have hfz := hownW.frozenAt (O'.length * 2 + 1)
            have hg2b := (hownW.lt g2 rfl).1
            have HST := Lib.hid (hst g2 hownW)
            clear hm1 hcells hst
            have hne : g2 ≠ wr.heap.size := by
              obtain ⟨g', e, hg'⟩ := hA2 (by simp)
              injection e with e
              injection e with e
              omega
            have hfl := flat_set_t O' q (max q.t x.t)
            have hlN : (O' ++ [Sp.mk q.f (max q.t x.t)]).length = (O' ++ [q]).length := by simp
            have hlN2 : (O' ++ [q, x]).length = (O' ++ [q]).length + 1 := by simp
            have hfl2 : flat Sp.cells (O' ++ [q, x]) = flat Sp.cells (O' ++ [q]) ++ [.int .i64 x.f, .int .i64 x.t] := by rw [show O' ++ [q, x] = (O' ++ [q]) ++ [x] by simp, flat_append _ [x], flat_one]; rfl
            have HFL := Lib.hid hfl
            have HFL2 := Lib.hid hfl2
            clear hfl hfl2 hA2 hA2' hnc2
            generalize hN : (O' ++ [q]).length = N at *
            have hO'N : O'.length = N - 1 := by omega
            have hN0 : 0 < N := by omega
            rw [hO'N] at hc hfz HST HFL
            have HLN := Lib.hid hlN
            have HLN2 := Lib.hid hlN2
            have h3 : (if q.t < x.t then x.t else q.t) = max q.t x.t := by split <;> omega
            clear hO'N hN hq2 hlN hlN2
            generalize flat Sp.cells (O' ++ [q]) = F at *
            have hN0' : (0 : Int) < (N : Int) := by omega
            by_cases hle : x.f ≤ q.t
            · have HM2 : Hid (mrgS (O' ++ [q]) x = O' ++ [⟨q.f, max q.t x.t⟩]) := by have := HM.out; rw [if_pos hle] at this; exact this
              go_quiet (fail)
              go_wp2_with fail
              go_region
              go_wp2_with fail
              refine ⟨⟨k + 1, O' ++ [Sp.mk q.f (max q.t x.t)], by omega, by go_num, by rw [HS.out, HM2.out], ?_, (below_drewN hbW (nq + 1)).setCell hg2b _⟩, by simp [intOf]; omega⟩
              rw [HLN.out, ← HFL.out]
              exact HST.out _
            · have HM2 : Hid (mrgS (O' ++ [q]) x = O' ++ [q, x]) := by have := HM.out; rw [if_neg hle] at this; exact this
              go_quiet (fail)
              go_wp2_with (at_builtin; go_loud (refine wpList_append_rd (by rfl) (.tmp 67) (.tmp 69) 56 (by rfl) w5.heap.size 59 i0 _ 2 16 Tryz.underlying56 hi0 hz0 hz1 hz2 rfl (by omega) (.slice (some ⟨g2, 0, none⟩) N c2) N F (by rfl) ((hownW.kept (grownBy_of_below (below_drewN (Below.refl _ _) nq) none) (Classical.em _)).alloc _) (W.heap.size + 1) (some ⟨W.heap.size, 0, none⟩) 1 1 [.int .i64 x.f, .int .i64 x.t] (by rfl) (Rd.built (heap_alloc_new (W.drewN nq) _) (by omega) rfl) (by intro u hu; simp at hu; rcases hu with rfl | rfl <;> rfl) (by unfold maxLen; omega) (by omega) (by simp; omega) ?_); intro v4 w4 hown4 hg4 hat4)
              have hb4 := ((below_drewN hbW nq).alloc hbWs (.cells #[.int .i64 x.f, .int .i64 x.t] 59)).grown hg4 (by simp; omega) (fun g e => by have := (hownW.lt g e).1; omega)
              refine ⟨⟨k + 1, O' ++ [q, x], by omega, by go_num, by rw [HS.out, HM2.out], ?_, hb4⟩, by simp [intOf]; omega⟩
              rw [HLN2.out, HFL2.out]
              exact hown4
        · have hkp : k'.take k = k' := List.take_of_length_le (by have := HK.out; omega)
          rw [hkp, HF.out] at hO
          subst hO
          obtain ⟨A2, c2, rfl, hnc2, hcm2, hA2⟩ := own_form hown
          go_wp2_with fail
          go_ret
          exact ⟨_, rfl, ownsRow_base hown hz6, hb6.trans (hb.mono hz6)⟩
end Go.Proofs.YtghmmcdeejhcjaaGreat
