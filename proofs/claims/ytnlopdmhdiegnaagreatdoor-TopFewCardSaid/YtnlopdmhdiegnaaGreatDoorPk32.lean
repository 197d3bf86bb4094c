/- Lemmas (no conditions): Tob -/
import Derived.Test.YtnlopdmhdiegnaaGreatDoorPk30
set_option linter.unusedSimpArgs false
set_option linter.unusedVariables false
set_option maxRecDepth 100000
set_option maxHeartbeats 64000000
namespace Go.Proofs.YtnlopdmhdiegnaaGreatDoor
open Go.RowKit
section
theorem compute_any {A : Option Addr} {n c : Nat} {K : List Pr} {ws : List Sp} {md lo : Int} {w : World} (h : Rd w w.heap.size 4 A n (flat Pr.ccells K)) (hn : K.length = n) (hn2 : n <= 400) (h0 : 0 <= lo) (hw : WOk lo ws) (h6 : ws.length <= 6)
  (hK : ∀ i : Nat, nf (Dd K (i : Int) 0) = (ws[i]?).toList) (hmd : 0 <= md /\ md <= 73049) :
  Calls Tryz.prog 38 #[.slice A n c, .int .i64 md] w fun e w' => e = .returned (.agg (totA ws md 6).toArray) /\ Below w.heap.size w w' := by
 have hda := fun (u : World) (hu : Below w.heap.size w u) (i : Nat) => odays_any (c := c) (i : Int) 0 ((h.below hu).mono hu.size) hn (by omega)
 have hof := fun (u : World) (hu : Below w.heap.size w u) (i : Nat) => ofc_any (c := c) (i : Int) 0 ((h.below hu).mono hu.size) hn (by omega)
 have hdd : ∀ i : Nat, lenL (nf (Dd K (i : Int) 0)) = dW ws i := fun i => days_i h0 hw i (hK i)
 have HDA := Lib.hid hda
 have HOF := Lib.hid hof
 have HDD := Lib.hid hdd
 have HK := Lib.hid hK
 have HW := Lib.hid (show 0 <= lo /\ WOk lo ws from ⟨h0, hw⟩)
 clear hda hof hdd hK h0 hw h
 obtain ⟨hm0, hm1⟩ := hmd
 go_enter Tryz.func38, Tryz.ntmps38
 go_upto_region 2 with (fail)
 obtain ⟨Z, hZ, bZ, rZ⟩ := box_new w (.cells #[.int .i64 0, .int .i64 0, .int .i64 0, .int .i64 0, .int .i64 0, .int .i64 0, .bool false, .bool false, .bool false, .bool false, .bool false, .bool false, .int .i64 0, .int .i64 0, .int .i64 0] 109)
 have hzZ : Z.heap.size = w.heap.size + 1 := by rw [<- hZ]; simp
 rw [hZ]
 obtain ⟨V, hV, bV, rV⟩ : ∃ V, Z.alloc (.cells #[.int .i64 0, .int .i64 0, .int .i64 0, .int .i64 0, .int .i64 0, .int .i64 0, .bool false, .bool false, .bool false, .bool false, .bool false, .bool false, .int .i64 0, .int .i64 0, .int .i64 (-1)] 109) = V /\ Below Z.heap.size Z V /\ V.heap[Z.heap.size]? = some (.cells (totA ws md 0).toArray 109 (0, 0)) :=
  ⟨_, rfl, (Below.refl _ _).alloc (Nat.le_refl _) _, heap_alloc_new Z _⟩
 rw [hV]
 have rZV := (bV.block _ (gis rZ).1).trans rZ
 rw [hzZ] at rV
 have hbV := bZ.trans (bV.mono bZ.size)
 clear hZ hV rZ bZ bV hzZ
 go_wp2_with fail
 go_loopw [6, 11] (fun v6 i wr => ∃ (j : Nat) (la : Int), j <= 6 /\ i = .int .i64 (j : Int) /\ v6 = .int .i64 la /\ (∀ p, ws[j]? = some p -> la < p.t - 1) /\ wr.heap[w.heap.size + 1]? = some (.cells (totA ws md j).toArray 109 (0, 0)) /\ wr.heap[w.heap.size]? = some (.cells #[.int .i64 0, .int .i64 0, .int .i64 0, .int .i64 0, .int .i64 0, .int .i64 0, .bool false, .bool false, .bool false, .bool false, .bool false, .bool false, .int .i64 0, .int .i64 0, .int .i64 0] 109 (0, 0)) /\ Below w.heap.size w wr) (fun _ i _ => 6 - (intOf i).toNat)
 case atStart => exact ⟨0, -1, by omega, rfl, rfl, fun p hp => by have := wok_at HW.out.2 hp; have := HW.out.1; omega, rV, rZV, hbV⟩
 case round =>
  obtain ⟨i, la, hi, rfl, rfl, hla, rT, rZ, hb⟩ := hrel
  have hwsz := hb.size
  by_cases hlt : i < 6
  ·have hlo : (0 : Int) <= (i : Int) := by omega
   have hhi : (i : Int) < 6 := by omega
   have lT1 := (gis rT).1
   have HLA := Lib.hid hla
   clear hla
   go_wp2_with fail
   refine (HDA.out _ hb i).mono ?_
   rintro e w1 ⟨rfl, b1⟩
   rw [HDD.out i]
   have rT1 := (b1.block _ lT1).trans rT
   have c0 := row_cell rT1 (tot_a ws md i hlt)
   have y0 := frozen_of_row w1 (w.heap.size + 1) i _ _ rT1
   go_upto_region 7 with (fail)
   have rZ1 := (b1.block _ (gis rZ).1).trans rZ
   have hb1 := hb.trans (b1.mono hwsz)
   obtain ⟨V1, hV1, rT2, rZ2, hb2⟩ : ∃ V1, w1.setCell ⟨w.heap.size + 1, i, none⟩ (.int .i64 (dW ws i)) = V1 /\ V1.heap[w.heap.size + 1]? = some (.cells (tot1 ws md i).toArray 109 (0, 0)) /\ V1.heap[w.heap.size]? = some (.cells #[.int .i64 0, .int .i64 0, .int .i64 0, .int .i64 0, .int .i64 0, .int .i64 0, .bool false, .bool false, .bool false, .bool false, .bool false, .bool false, .int .i64 0, .int .i64 0, .int .i64 0] 109 (0, 0)) /\ Below w.heap.size w V1 :=
    ⟨_, rfl, row_set _ rT1, (heap_setCell_other w1 ⟨w.heap.size + 1, i, none⟩ w.heap.size _ (by show w.heap.size ≠ w.heap.size + 1; omega)).trans rZ1, hb1.setCell (by show w.heap.size <= w.heap.size + 1; omega) _⟩
   rw [hV1]
   have hsb := sT_bd HW.out.1 HW.out.2 i
   have hbb := bT_bd (md := md) HW.out.1 HW.out.2 i
   have hdb := dW_bd HW.out.1 HW.out.2 i
   have hws : IntKind.i64.wrap (sT ws i + dW ws i) = sT ws (i + 1) := IntWalk.i64_in _ (by omega)
   have hwb : IntKind.i64.wrap (bT ws md i + dW ws i) = bT ws md i + dW ws i := IntWalk.i64_in _ (by omega)
   obtain ⟨q1, hq1⟩ : ∃ b, decide (0 < dW ws i) = b := ⟨_, rfl⟩
   obtain ⟨q2, hq2⟩ : ∃ b, decide (dW ws i < md) = b := ⟨_, rfl⟩
   have hf : fW ws md i = (q1 && q2) := by unfold fW; rw [hq1, hq2]
   have k1 := row_cell rT2 (tot_1 ws md i hlt).1
   have k2 := row_cell rT2 (tot_1 ws md i hlt).2
   have y2 := frozen_of_row V1 (w.heap.size + 1) (6 + i) _ _ rT2
   have HWS := Lib.hid hws
   have HWB := Lib.hid hwb
   clear hV1 rT1 rZ1 hb1 c0 y0 rT rZ hb b1 lT1 hws hwb hsb hbb hdb
   cases q1 with
   | false =>
    have hf2 : fW ws md i = false := by rw [hf]; rfl
    have HF := Lib.hid hf2
    clear hf hf2
    go_upto_region 8 with (fail)
    obtain ⟨V2, hV2, rT3, rZ3, hb3⟩ : ∃ V, V1.setCell ⟨w.heap.size + 1, 6 + i, none⟩ (.bool (fW ws md i)) = V /\ V.heap[w.heap.size + 1]? = some (.cells (tot2 ws md i).toArray 109 (0, 0)) /\ V.heap[w.heap.size]? = some (.cells #[.int .i64 0, .int .i64 0, .int .i64 0, .int .i64 0, .int .i64 0, .int .i64 0, .bool false, .bool false, .bool false, .bool false, .bool false, .bool false, .int .i64 0, .int .i64 0, .int .i64 0] 109 (0, 0)) /\ Below w.heap.size w V :=
     ⟨_, rfl, row_set _ rT2, (heap_setCell_other V1 ⟨w.heap.size + 1, 6 + i, none⟩ w.heap.size _ (by show w.heap.size ≠ w.heap.size + 1; omega)).trans rZ2, (hb2.setCell (by show w.heap.size <= w.heap.size + 1; omega) _)⟩
    rw [HF.out] at hV2
    rw [hV2]
    have k3 := row_cell rT3 (tot_2 ws md i hlt).1
    have k4 := row_cell rT3 (tot_2 ws md i hlt).2
    have y4 := frozen_of_row V2 (w.heap.size + 1) 12 _ _ rT3
    have hws := HWS.out
    clear hV2 k1 k2 y2 rT2 rZ2 hb2
    go_region
    go_upto_region 9 with (fail)
    obtain ⟨V3, hV3, rT4, rZ4, hb4⟩ : ∃ V, (V2.setCell ⟨w.heap.size + 1, 12, none⟩ (.int .i64 (sT ws (i + 1)))).drew = V /\ V.heap[w.heap.size + 1]? = some (.cells (tot3 ws md i).toArray 109 (0, 0)) /\ V.heap[w.heap.size]? = some (.cells #[.int .i64 0, .int .i64 0, .int .i64 0, .int .i64 0, .int .i64 0, .int .i64 0, .bool false, .bool false, .bool false, .bool false, .bool false, .bool false, .int .i64 0, .int .i64 0, .int .i64 0] 109 (0, 0)) /\ Below w.heap.size w V :=
     ⟨_, rfl, row_set _ rT3, (heap_setCell_other V2 ⟨w.heap.size + 1, 12, none⟩ w.heap.size _ (by show w.heap.size ≠ w.heap.size + 1; omega)).trans rZ3, (hb3.setCell (by show w.heap.size <= w.heap.size + 1; omega) _).drew⟩
    rw [hV3]
    have k5 := row_cell rT4 (tot_3 ws md i hlt).1
    have k6 := row_cell rT4 (tot_3 ws md i hlt).2.1
    rw [HF.out] at k6
    have k7 := row_cell rT4 (tot_3 ws md i hlt).2.2
    have y7 := frozen_of_row V3 (w.heap.size + 1) 13 _ _ rT4
    clear hV3 k3 k4 y4 rT3 rZ3 hb3 hws
    have hbt : bT ws md (i + 1) = bT ws md i + dW ws i := by show (if fW ws md i then _ else _) = _; rw [HF.out]; rfl
    have hwb : IntKind.i64.wrap (bT ws md i + dW ws i) = bT ws md (i + 1) := by rw [hbt]; exact HWB.out
    have HBT := Lib.hid hbt
    clear hbt
    go_upto_region 10 with (fail)
    go_region
    go_upto_region 11 with (fail)
    obtain ⟨V4, hV4, rT5, rZ5, hb5⟩ : ∃ V, (V3.setCell ⟨w.heap.size + 1, 13, none⟩ (.int .i64 (bT ws md (i + 1)))).drew = V /\ V.heap[w.heap.size + 1]? = some (.cells (tot4 ws md i).toArray 109 (0, 0)) /\ V.heap[w.heap.size]? = some (.cells #[.int .i64 0, .int .i64 0, .int .i64 0, .int .i64 0, .int .i64 0, .int .i64 0, .bool false, .bool false, .bool false, .bool false, .bool false, .bool false, .int .i64 0, .int .i64 0, .int .i64 0] 109 (0, 0)) /\ Below w.heap.size w V :=
     ⟨_, rfl, row_set _ rT4, (heap_setCell_other V3 ⟨w.heap.size + 1, 13, none⟩ w.heap.size _ (by show w.heap.size ≠ w.heap.size + 1; omega)).trans rZ4, (hb4.setCell (by show w.heap.size <= w.heap.size + 1; omega) _).drew⟩
    rw [hV4]
    clear hV4 hwb
    clear k5 k6 k7 y7 rT4 rZ4 hb4
    have hz5 := hb5.size
    have lT5 := (gis rT5).1
    have hki := HK.out i
    cases hp : ws[i]? with
    | none =>
     rw [hp] at hki
     go_wp2_with fail
     refine (HOF.out _ hb5 i).mono ?_
     intro e w2 hr
     obtain ⟨A1, c1, rfl, b5⟩ := hr.nil0 hki
     have rT6 := (b5.block _ lT5).trans rT5
     have rZ6 := (b5.block _ (gis rZ5).1).trans rZ5
     have hb6 := hb5.trans (b5.mono hz5)
     have hlt2 : lT ws (i + 1) = lT ws i := by
      have := List.getElem?_eq_none_iff.1 hp
      show (if i < ws.length then (i : Int) else lT ws i) = lT ws i
      rw [if_neg (by omega)]
     have HLT := Lib.hid hlt2
     have hnx : ∀ p, ws[i + 1]? = some p -> la < p.t - 1 := fun p hp2 => by
      have h1 := List.getElem?_eq_none_iff.1 hp
      have h2 := (List.getElem?_eq_some_iff.1 hp2).1
      omega
     have HNX := Lib.hid hnx
     clear hlt2 hnx hp hki
     go_wp2_with fail
     refine (last_nil _ _ _).mono ?_
     rintro e w3 ⟨rfl, b6⟩
     have rT7 := (b6.block _ (gis rT6).1).trans rT6
     have rZ7 := (b6.block _ (gis rZ6).1).trans rZ6
     have hb7 := hb6.trans (b6.mono hb6.size)
     go_wp2_with fail
     go_roundw
     case rel => exact ⟨i + 1, la, by omega, by go_num, rfl, HNX.out, by rw [<- tot_4f hlt HLT.out]; exact rT7, rZ7, hb7⟩
     case measure => simp [intOf]; omega
    | some p =>
     rw [hp] at hki
     go_wp2_with fail
     refine (HOF.out _ hb5 i).mono ?_
     intro e w2 hr
     obtain ⟨A1, c1, rfl, ho1, b5⟩ := hr.one0 hki
     have rT6 := (b5.block _ lT5).trans rT5
     have rZ6 := (b5.block _ (gis rZ5).1).trans rZ5
     have hb6 := hb5.trans (b5.mono hz5)
     have hpb := wok_at HW.out.2 hp
     have hla1 := last_p (c := c1) (Rd.ofOwn ho1) (by have := HW.out.1; omega) hpb.2.1 (by omega)
     have hlp : decide (la < p.t - 1) = true := decide_eq_true (HLA.out p hp)
     have hlt2 : lT ws (i + 1) = (i : Int) := by
      have := (List.getElem?_eq_some_iff.1 hp).1
      show (if i < ws.length then (i : Int) else lT ws i) = _
      rw [if_pos this]
     have HLT := Lib.hid hlt2
     have hnx : ∀ q, ws[i + 1]? = some q -> p.t - 1 < q.t - 1 := fun q hq => by
      have h1 := wok_lt HW.out.2 (Nat.lt_succ_self i) hp hq
      have h2 := wok_at HW.out.2 hq
      omega
     have HNX := Lib.hid hnx
     clear hlt2 hnx hp hki hpb
     go_wp2_with fail
     refine hla1.mono ?_
     rintro e w3 ⟨rfl, b6⟩
     have rT7 := (b6.block _ (gis rT6).1).trans rT6
     have rZ7 := (b6.block _ (gis rZ6).1).trans rZ6
     have hb7 := hb6.trans (b6.mono hb6.size)
     have k9 := row_cell rT7 (tot_4 ws md i hlt)
     have y9 := frozen_of_row w3 (w.heap.size + 1) 14 _ _ rT7
     have HRT : Hid ((w3.setCell ⟨w.heap.size + 1, 14, none⟩ (.int .i64 (i : Int))).heap[w.heap.size + 1]? = some (.cells (totA ws md (i + 1)).toArray 109 (0, 0))) := Lib.hid (by
      have h1 := row_set (i := 14) (.int .i64 (lT ws (i + 1))) rT7
      rw [tot_step ws md i hlt, HLT.out] at h1
      exact h1)
     have HRZ : Hid ((w3.setCell ⟨w.heap.size + 1, 14, none⟩ (.int .i64 (i : Int))).heap[w.heap.size]? = some (.cells #[.int .i64 0, .int .i64 0, .int .i64 0, .int .i64 0, .int .i64 0, .int .i64 0, .bool false, .bool false, .bool false, .bool false, .bool false, .bool false, .int .i64 0, .int .i64 0, .int .i64 0] 109 (0, 0))) := Lib.hid ((heap_setCell_other w3 ⟨w.heap.size + 1, 14, none⟩ w.heap.size _ (by show w.heap.size ≠ w.heap.size + 1; omega)).trans rZ7)
     have HBF := Lib.hid (hb7.setCell (p := ⟨w.heap.size + 1, 14, none⟩) (by show w.heap.size <= w.heap.size + 1; omega) (.int .i64 (i : Int)))
     clear rT5 rT6 rT7 rZ5 rZ6 rZ7 lT5
     go_wp2_with fail
     go_roundw
     case rel => exact ⟨i + 1, p.t - 1, by omega, by go_num, rfl, HNX.out, HRT.out, HRZ.out, HBF.out⟩
     case measure => simp [intOf]; omega
   | true =>
    cases q2 with
    | false =>
     have hf2 : fW ws md i = false := by rw [hf]; rfl
     have HF := Lib.hid hf2
     clear hf hf2
     go_upto_region 8 with (fail)
     obtain ⟨V2, hV2, rT3, rZ3, hb3⟩ : ∃ V, V1.setCell ⟨w.heap.size + 1, 6 + i, none⟩ (.bool (fW ws md i)) = V /\ V.heap[w.heap.size + 1]? = some (.cells (tot2 ws md i).toArray 109 (0, 0)) /\ V.heap[w.heap.size]? = some (.cells #[.int .i64 0, .int .i64 0, .int .i64 0, .int .i64 0, .int .i64 0, .int .i64 0, .bool false, .bool false, .bool false, .bool false, .bool false, .bool false, .int .i64 0, .int .i64 0, .int .i64 0] 109 (0, 0)) /\ Below w.heap.size w V :=
      ⟨_, rfl, row_set _ rT2, (heap_setCell_other V1 ⟨w.heap.size + 1, 6 + i, none⟩ w.heap.size _ (by show w.heap.size ≠ w.heap.size + 1; omega)).trans rZ2, (hb2.setCell (by show w.heap.size <= w.heap.size + 1; omega) _)⟩
     rw [HF.out] at hV2
     rw [hV2]
     have k3 := row_cell rT3 (tot_2 ws md i hlt).1
     have k4 := row_cell rT3 (tot_2 ws md i hlt).2
     have y4 := frozen_of_row V2 (w.heap.size + 1) 12 _ _ rT3
     have hws := HWS.out
     clear hV2 k1 k2 y2 rT2 rZ2 hb2
     go_region
     go_upto_region 9 with (fail)
     obtain ⟨V3, hV3, rT4, rZ4, hb4⟩ : ∃ V, (V2.setCell ⟨w.heap.size + 1, 12, none⟩ (.int .i64 (sT ws (i + 1)))).drew = V /\ V.heap[w.heap.size + 1]? = some (.cells (tot3 ws md i).toArray 109 (0, 0)) /\ V.heap[w.heap.size]? = some (.cells #[.int .i64 0, .int .i64 0, .int .i64 0, .int .i64 0, .int .i64 0, .int .i64 0, .bool false, .bool false, .bool false, .bool false, .bool false, .bool false, .int .i64 0, .int .i64 0, .int .i64 0] 109 (0, 0)) /\ Below w.heap.size w V :=
      ⟨_, rfl, row_set _ rT3, (heap_setCell_other V2 ⟨w.heap.size + 1, 12, none⟩ w.heap.size _ (by show w.heap.size ≠ w.heap.size + 1; omega)).trans rZ3, (hb3.setCell (by show w.heap.size <= w.heap.size + 1; omega) _).drew⟩
     rw [hV3]
     have k5 := row_cell rT4 (tot_3 ws md i hlt).1
     have k6 := row_cell rT4 (tot_3 ws md i hlt).2.1
     rw [HF.out] at k6
     have k7 := row_cell rT4 (tot_3 ws md i hlt).2.2
     have y7 := frozen_of_row V3 (w.heap.size + 1) 13 _ _ rT4
     clear hV3 k3 k4 y4 rT3 rZ3 hb3 hws
     have hbt : bT ws md (i + 1) = bT ws md i + dW ws i := by show (if fW ws md i then _ else _) = _; rw [HF.out]; rfl
     have hwb : IntKind.i64.wrap (bT ws md i + dW ws i) = bT ws md (i + 1) := by rw [hbt]; exact HWB.out
     have HBT := Lib.hid hbt
     clear hbt
     go_upto_region 10 with (fail)
     go_region
     go_upto_region 11 with (fail)
     obtain ⟨V4, hV4, rT5, rZ5, hb5⟩ : ∃ V, (V3.setCell ⟨w.heap.size + 1, 13, none⟩ (.int .i64 (bT ws md (i + 1)))).drew = V /\ V.heap[w.heap.size + 1]? = some (.cells (tot4 ws md i).toArray 109 (0, 0)) /\ V.heap[w.heap.size]? = some (.cells #[.int .i64 0, .int .i64 0, .int .i64 0, .int .i64 0, .int .i64 0, .int .i64 0, .bool false, .bool false, .bool false, .bool false, .bool false, .bool false, .int .i64 0, .int .i64 0, .int .i64 0] 109 (0, 0)) /\ Below w.heap.size w V :=
      ⟨_, rfl, row_set _ rT4, (heap_setCell_other V3 ⟨w.heap.size + 1, 13, none⟩ w.heap.size _ (by show w.heap.size ≠ w.heap.size + 1; omega)).trans rZ4, (hb4.setCell (by show w.heap.size <= w.heap.size + 1; omega) _).drew⟩
     rw [hV4]
     clear hV4 hwb
     clear k5 k6 k7 y7 rT4 rZ4 hb4
     have hz5 := hb5.size
     have lT5 := (gis rT5).1
     have hki := HK.out i
     cases hp : ws[i]? with
     | none =>
      rw [hp] at hki
      go_wp2_with fail
      refine (HOF.out _ hb5 i).mono ?_
      intro e w2 hr
      obtain ⟨A1, c1, rfl, b5⟩ := hr.nil0 hki
      have rT6 := (b5.block _ lT5).trans rT5
      have rZ6 := (b5.block _ (gis rZ5).1).trans rZ5
      have hb6 := hb5.trans (b5.mono hz5)
      have hlt2 : lT ws (i + 1) = lT ws i := by
       have := List.getElem?_eq_none_iff.1 hp
       show (if i < ws.length then (i : Int) else lT ws i) = lT ws i
       rw [if_neg (by omega)]
      have HLT := Lib.hid hlt2
      have hnx : ∀ p, ws[i + 1]? = some p -> la < p.t - 1 := fun p hp2 => by
       have h1 := List.getElem?_eq_none_iff.1 hp
       have h2 := (List.getElem?_eq_some_iff.1 hp2).1
       omega
      have HNX := Lib.hid hnx
      clear hlt2 hnx hp hki
      go_wp2_with fail
      refine (last_nil _ _ _).mono ?_
      rintro e w3 ⟨rfl, b6⟩
      have rT7 := (b6.block _ (gis rT6).1).trans rT6
      have rZ7 := (b6.block _ (gis rZ6).1).trans rZ6
      have hb7 := hb6.trans (b6.mono hb6.size)
      go_wp2_with fail
      go_roundw
      case rel => exact ⟨i + 1, la, by omega, by go_num, rfl, HNX.out, by rw [<- tot_4f hlt HLT.out]; exact rT7, rZ7, hb7⟩
      case measure => simp [intOf]; omega
     | some p =>
      rw [hp] at hki
      go_wp2_with fail
      refine (HOF.out _ hb5 i).mono ?_
      intro e w2 hr
      obtain ⟨A1, c1, rfl, ho1, b5⟩ := hr.one0 hki
      have rT6 := (b5.block _ lT5).trans rT5
      have rZ6 := (b5.block _ (gis rZ5).1).trans rZ5
      have hb6 := hb5.trans (b5.mono hz5)
      have hpb := wok_at HW.out.2 hp
      have hla1 := last_p (c := c1) (Rd.ofOwn ho1) (by have := HW.out.1; omega) hpb.2.1 (by omega)
      have hlp : decide (la < p.t - 1) = true := decide_eq_true (HLA.out p hp)
      have hlt2 : lT ws (i + 1) = (i : Int) := by
       have := (List.getElem?_eq_some_iff.1 hp).1
       show (if i < ws.length then (i : Int) else lT ws i) = _
       rw [if_pos this]
      have HLT := Lib.hid hlt2
      have hnx : ∀ q, ws[i + 1]? = some q -> p.t - 1 < q.t - 1 := fun q hq => by
       have h1 := wok_lt HW.out.2 (Nat.lt_succ_self i) hp hq
       have h2 := wok_at HW.out.2 hq
       omega
      have HNX := Lib.hid hnx
      clear hlt2 hnx hp hki hpb
      go_wp2_with fail
      refine hla1.mono ?_
      rintro e w3 ⟨rfl, b6⟩
      have rT7 := (b6.block _ (gis rT6).1).trans rT6
      have rZ7 := (b6.block _ (gis rZ6).1).trans rZ6
      have hb7 := hb6.trans (b6.mono hb6.size)
      have k9 := row_cell rT7 (tot_4 ws md i hlt)
      have y9 := frozen_of_row w3 (w.heap.size + 1) 14 _ _ rT7
      have HRT : Hid ((w3.setCell ⟨w.heap.size + 1, 14, none⟩ (.int .i64 (i : Int))).heap[w.heap.size + 1]? = some (.cells (totA ws md (i + 1)).toArray 109 (0, 0))) := Lib.hid (by
       have h1 := row_set (i := 14) (.int .i64 (lT ws (i + 1))) rT7
       rw [tot_step ws md i hlt, HLT.out] at h1
       exact h1)
      have HRZ : Hid ((w3.setCell ⟨w.heap.size + 1, 14, none⟩ (.int .i64 (i : Int))).heap[w.heap.size]? = some (.cells #[.int .i64 0, .int .i64 0, .int .i64 0, .int .i64 0, .int .i64 0, .int .i64 0, .bool false, .bool false, .bool false, .bool false, .bool false, .bool false, .int .i64 0, .int .i64 0, .int .i64 0] 109 (0, 0))) := Lib.hid ((heap_setCell_other w3 ⟨w.heap.size + 1, 14, none⟩ w.heap.size _ (by show w.heap.size ≠ w.heap.size + 1; omega)).trans rZ7)
      have HBF := Lib.hid (hb7.setCell (p := ⟨w.heap.size + 1, 14, none⟩) (by show w.heap.size <= w.heap.size + 1; omega) (.int .i64 (i : Int)))
      clear rT5 rT6 rT7 rZ5 rZ6 rZ7 lT5
      go_wp2_with fail
      go_roundw
      case rel => exact ⟨i + 1, p.t - 1, by omega, by go_num, rfl, HNX.out, HRT.out, HRZ.out, HBF.out⟩
      case measure => simp [intOf]; omega
    | true =>
     have hf2 : fW ws md i = true := by rw [hf]; rfl
     have HF := Lib.hid hf2
     clear hf hf2
     go_upto_region 8 with (fail)
     obtain ⟨V2, hV2, rT3, rZ3, hb3⟩ : ∃ V, V1.setCell ⟨w.heap.size + 1, 6 + i, none⟩ (.bool (fW ws md i)) = V /\ V.heap[w.heap.size + 1]? = some (.cells (tot2 ws md i).toArray 109 (0, 0)) /\ V.heap[w.heap.size]? = some (.cells #[.int .i64 0, .int .i64 0, .int .i64 0, .int .i64 0, .int .i64 0, .int .i64 0, .bool false, .bool false, .bool false, .bool false, .bool false, .bool false, .int .i64 0, .int .i64 0, .int .i64 0] 109 (0, 0)) /\ Below w.heap.size w V :=
      ⟨_, rfl, row_set _ rT2, (heap_setCell_other V1 ⟨w.heap.size + 1, 6 + i, none⟩ w.heap.size _ (by show w.heap.size ≠ w.heap.size + 1; omega)).trans rZ2, (hb2.setCell (by show w.heap.size <= w.heap.size + 1; omega) _)⟩
     rw [HF.out] at hV2
     rw [hV2]
     have k3 := row_cell rT3 (tot_2 ws md i hlt).1
     have k4 := row_cell rT3 (tot_2 ws md i hlt).2
     have y4 := frozen_of_row V2 (w.heap.size + 1) 12 _ _ rT3
     have hws := HWS.out
     clear hV2 k1 k2 y2 rT2 rZ2 hb2
     go_region
     go_upto_region 9 with (fail)
     obtain ⟨V3, hV3, rT4, rZ4, hb4⟩ : ∃ V, (V2.setCell ⟨w.heap.size + 1, 12, none⟩ (.int .i64 (sT ws (i + 1)))).drew = V /\ V.heap[w.heap.size + 1]? = some (.cells (tot3 ws md i).toArray 109 (0, 0)) /\ V.heap[w.heap.size]? = some (.cells #[.int .i64 0, .int .i64 0, .int .i64 0, .int .i64 0, .int .i64 0, .int .i64 0, .bool false, .bool false, .bool false, .bool false, .bool false, .bool false, .int .i64 0, .int .i64 0, .int .i64 0] 109 (0, 0)) /\ Below w.heap.size w V :=
      ⟨_, rfl, row_set _ rT3, (heap_setCell_other V2 ⟨w.heap.size + 1, 12, none⟩ w.heap.size _ (by show w.heap.size ≠ w.heap.size + 1; omega)).trans rZ3, (hb3.setCell (by show w.heap.size <= w.heap.size + 1; omega) _).drew⟩
     rw [hV3]
     have k5 := row_cell rT4 (tot_3 ws md i hlt).1
     have k6 := row_cell rT4 (tot_3 ws md i hlt).2.1
     rw [HF.out] at k6
     have k7 := row_cell rT4 (tot_3 ws md i hlt).2.2
     have y7 := frozen_of_row V3 (w.heap.size + 1) 13 _ _ rT4
     clear hV3 k3 k4 y4 rT3 rZ3 hb3 hws
     go_upto_region 11 with (fail)
     rw [tot_3f hlt HF.out] at rT4
     have rT5 := rT4
     have rZ5 := rZ4
     have hb5 := hb4
     obtain ⟨V4, hV4⟩ : ∃ V, V = V3 := ⟨_, rfl⟩
     rw [<- hV4] at rT5 rZ5 hb5 ⊢
     clear hV4
     clear k5 k6 k7 y7 rT4 rZ4 hb4
     have hz5 := hb5.size
     have lT5 := (gis rT5).1
     have hki := HK.out i
     cases hp : ws[i]? with
     | none =>
      rw [hp] at hki
      go_wp2_with fail
      refine (HOF.out _ hb5 i).mono ?_
      intro e w2 hr
      obtain ⟨A1, c1, rfl, b5⟩ := hr.nil0 hki
      have rT6 := (b5.block _ lT5).trans rT5
      have rZ6 := (b5.block _ (gis rZ5).1).trans rZ5
      have hb6 := hb5.trans (b5.mono hz5)
      have hlt2 : lT ws (i + 1) = lT ws i := by
       have := List.getElem?_eq_none_iff.1 hp
       show (if i < ws.length then (i : Int) else lT ws i) = lT ws i
       rw [if_neg (by omega)]
      have HLT := Lib.hid hlt2
      have hnx : ∀ p, ws[i + 1]? = some p -> la < p.t - 1 := fun p hp2 => by
       have h1 := List.getElem?_eq_none_iff.1 hp
       have h2 := (List.getElem?_eq_some_iff.1 hp2).1
       omega
      have HNX := Lib.hid hnx
      clear hlt2 hnx hp hki
      go_wp2_with fail
      refine (last_nil _ _ _).mono ?_
      rintro e w3 ⟨rfl, b6⟩
      have rT7 := (b6.block _ (gis rT6).1).trans rT6
      have rZ7 := (b6.block _ (gis rZ6).1).trans rZ6
      have hb7 := hb6.trans (b6.mono hb6.size)
      go_wp2_with fail
      go_roundw
      case rel => exact ⟨i + 1, la, by omega, by go_num, rfl, HNX.out, by rw [<- tot_4f hlt HLT.out]; exact rT7, rZ7, hb7⟩
      case measure => simp [intOf]; omega
     | some p =>
      rw [hp] at hki
      go_wp2_with fail
      refine (HOF.out _ hb5 i).mono ?_
      intro e w2 hr
      obtain ⟨A1, c1, rfl, ho1, b5⟩ := hr.one0 hki
      have rT6 := (b5.block _ lT5).trans rT5
      have rZ6 := (b5.block _ (gis rZ5).1).trans rZ5
      have hb6 := hb5.trans (b5.mono hz5)
      have hpb := wok_at HW.out.2 hp
      have hla1 := last_p (c := c1) (Rd.ofOwn ho1) (by have := HW.out.1; omega) hpb.2.1 (by omega)
      have hlp : decide (la < p.t - 1) = true := decide_eq_true (HLA.out p hp)
      have hlt2 : lT ws (i + 1) = (i : Int) := by
       have := (List.getElem?_eq_some_iff.1 hp).1
       show (if i < ws.length then (i : Int) else lT ws i) = _
       rw [if_pos this]
      have HLT := Lib.hid hlt2
      have hnx : ∀ q, ws[i + 1]? = some q -> p.t - 1 < q.t - 1 := fun q hq => by
       have h1 := wok_lt HW.out.2 (Nat.lt_succ_self i) hp hq
       have h2 := wok_at HW.out.2 hq
       omega
      have HNX := Lib.hid hnx
      clear hlt2 hnx hp hki hpb
      go_wp2_with fail
      refine hla1.mono ?_
      rintro e w3 ⟨rfl, b6⟩
      have rT7 := (b6.block _ (gis rT6).1).trans rT6
      have rZ7 := (b6.block _ (gis rZ6).1).trans rZ6
      have hb7 := hb6.trans (b6.mono hb6.size)
      have k9 := row_cell rT7 (tot_4 ws md i hlt)
      have y9 := frozen_of_row w3 (w.heap.size + 1) 14 _ _ rT7
      have HRT : Hid ((w3.setCell ⟨w.heap.size + 1, 14, none⟩ (.int .i64 (i : Int))).heap[w.heap.size + 1]? = some (.cells (totA ws md (i + 1)).toArray 109 (0, 0))) := Lib.hid (by
       have h1 := row_set (i := 14) (.int .i64 (lT ws (i + 1))) rT7
       rw [tot_step ws md i hlt, HLT.out] at h1
       exact h1)
      have HRZ : Hid ((w3.setCell ⟨w.heap.size + 1, 14, none⟩ (.int .i64 (i : Int))).heap[w.heap.size]? = some (.cells #[.int .i64 0, .int .i64 0, .int .i64 0, .int .i64 0, .int .i64 0, .int .i64 0, .bool false, .bool false, .bool false, .bool false, .bool false, .bool false, .int .i64 0, .int .i64 0, .int .i64 0] 109 (0, 0))) := Lib.hid ((heap_setCell_other w3 ⟨w.heap.size + 1, 14, none⟩ w.heap.size _ (by show w.heap.size ≠ w.heap.size + 1; omega)).trans rZ7)
      have HBF := Lib.hid (hb7.setCell (p := ⟨w.heap.size + 1, 14, none⟩) (by show w.heap.size <= w.heap.size + 1; omega) (.int .i64 (i : Int)))
      clear rT5 rT6 rT7 rZ5 rZ6 rZ7 lT5
      go_wp2_with fail
      go_roundw
      case rel => exact ⟨i + 1, p.t - 1, by omega, by go_num, rfl, HNX.out, HRT.out, HRZ.out, HBF.out⟩
      case measure => simp [intOf]; omega
  ·obtain rfl : i = 6 := by omega
   have hrange : wr.rangeAt (w.heap.size + 1) 0 (totA ws md 6) := fun j v hv => by rw [Nat.zero_add]; exact row_cell rT hv
   have hfin := setRowQ (totA ws md 6).toArray hb rZ
   have HFIN := Lib.hid hfin
   clear hfin hla
   go_upto_region 15 with (fail)
   go_wp2_with (first
    | (refine wpList_load_mid (by rfl) 109 (.tmp 5) (by rfl) (w.heap.size + 1) 0 (by rfl) (totA ws md 6) _ hrange Tryz.underlying109 (by rfl) (by kernel_rfl) ?_)
    | (refine wpList_store_row (by rfl) 109 (.tmp 4) (.tmp 74) (by rfl) w.heap.size (totA ws md 6).toArray (by rfl) (by rfl) 109 _ rZ (by kernel_rfl) (by rfl) (all_oneCell_toArray (tot_one ws md 6)) ?_
       obtain ⟨W', hW'⟩ : ∃ W', wr.setRow w.heap.size (totA ws md 6).toArray = W' := ⟨_, rfl⟩
       obtain ⟨rF, hbF⟩ := HFIN.out
       rw [hW'] at rF hbF ⊢
       clear hW'))
   have s0 := row_cell rF (i := 0) (v := .int .i64 (dW ws 0)) rfl
   have s1 := row_cell rF (i := 1) (v := .int .i64 (dW ws 1)) rfl
   have s2 := row_cell rF (i := 2) (v := .int .i64 (dW ws 2)) rfl
   have s3 := row_cell rF (i := 3) (v := .int .i64 (dW ws 3)) rfl
   have s4 := row_cell rF (i := 4) (v := .int .i64 (dW ws 4)) rfl
   have s5 := row_cell rF (i := 5) (v := .int .i64 (dW ws 5)) rfl
   have s6 := row_cell rF (i := 6) (v := .bool (fW ws md 0)) rfl
   have s7 := row_cell rF (i := 7) (v := .bool (fW ws md 1)) rfl
   have s8 := row_cell rF (i := 8) (v := .bool (fW ws md 2)) rfl
   have s9 := row_cell rF (i := 9) (v := .bool (fW ws md 3)) rfl
   have s10 := row_cell rF (i := 10) (v := .bool (fW ws md 4)) rfl
   have s11 := row_cell rF (i := 11) (v := .bool (fW ws md 5)) rfl
   have s12 := row_cell rF (i := 12) (v := .int .i64 (sT ws 6)) rfl
   have s13 := row_cell rF (i := 13) (v := .int .i64 (bT ws md 6)) rfl
   have s14 := row_cell rF (i := 14) (v := .int .i64 (lT ws 6)) rfl
   exact bodyPost_ret (v := .agg #[.int .i64 (dW ws 0), .int .i64 (dW ws 1), .int .i64 (dW ws 2), .int .i64 (dW ws 3), .int .i64 (dW ws 4), .int .i64 (dW ws 5), .bool (fW ws md 0), .bool (fW ws md 1), .bool (fW ws md 2), .bool (fW ws md 3), .bool (fW ws md 4), .bool (fW ws md 5), .int .i64 (sT ws 6), .int .i64 (bT ws md 6), .int .i64 (lT ws 6)]) (by simp [results, Tryz.f38, go_sem, s0, s1, s2, s3, s4, s5, s6, s7, s8, s9, s10, s11, s12, s13, s14]) rfl ⟨rfl, hbF⟩
end
end Go.Proofs.YtnlopdmhdiegnaaGreatDoor
