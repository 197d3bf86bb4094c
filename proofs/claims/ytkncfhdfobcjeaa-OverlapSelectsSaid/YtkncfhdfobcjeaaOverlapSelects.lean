/- The walk of OverlapSelects. -/
import Derived.Test.YtkncfhdfobcjeaaOvY
import Derived.Test.YtkncfhdfobcjeaaSpChain
import Derived.Deep.RegionLaw
import Derived.Deep.CutRange
namespace Go.Proofs.Ytkncfhdfobcjeaa
open Go.RowKit

set_option maxRecDepth 100000 in
set_option maxHeartbeats 8000000 in
theorem walkOverlapSelects (A : Option Addr) (n c : Nat) (l : List Pr) (sc : Int) (st : Int) (rk : Int) (w : World) (h : Rd w w.heap.size 4 A n (flat Pr.ccells l)) (hn : l.length = n) (hok : ∀ p ∈ l, p.ok) (_ : n ≤ maxLen) (isc : I64 sc) (ist : I64 st) (irk : I64 rk) :
    Calls Try.prog 13 #[.slice A n c, .int .i64 sc, .int .i64 st, .int .i64 rk] w fun e w' => e = .returned (.bool true) ∧ Below w.heap.size w w' := by
  by_cases hbig : 60 < n
  · have hbig2 : (60 : Int) < (n : Int) := by omega
    go_enter Try.func13, Try.ntmps13
    go_wp2_with fail
    go_ret
    exact ⟨rfl, Below.refl _ _⟩
  have hbig2 : ¬ (60 : Int) < (n : Int) := by omega
  have HN := Lib.hid hn
  clear hn
  go_enter Try.func13, Try.ntmps13
  go_wp2_with fail
  obtain ⟨i0, hi0, hz0, hz1, hz2⟩ := info_parts info_counted
  obtain ⟨b, hb⟩ : ∃ b, (sc.tmod 3 == 0) = b := ⟨_, rfl⟩
  go_loopw [9, 10] (fun v i wr => ∃ (j : Nat) (O : List Pr), j ≤ n ∧ i = .int .i64 (j : Int) ∧ O.length = j ∧ wr.ownsRow w.heap.size 52 4 v j (flat Pr.ccells O) ∧ Below w.heap.size w wr) (fun _ i _ => n - (intOf i).toNat)
  case atStart => exact ⟨0, [], by omega, rfl, rfl, World.ownsRow_nil _ _ _ _, Below.refl _ _⟩
  case round =>
    obtain ⟨j, O, hj, rfl, hOl, hown, hbr⟩ := hrel
    have hwsz := hbr.size
    have HOL := Lib.hid hOl
    clear hOl
    by_cases hlt : j < n
    · have hjl : j < l.length := by rw [HN.out]; exact hlt
      obtain ⟨x, hx⟩ : ∃ x, l[j]? = some x := ⟨_, List.getElem?_eq_getElem hjl⟩
      obtain ⟨_, g, o, rfl, hgb, hc⟩ := (h.below hbr).elem pc_len hx (by omega)
      have e0 : wr.cell? ⟨g, o + j * 4, none⟩ = some (.int .i64 x.f) := hc 0 _ rfl
      have e1 : wr.cell? ⟨g, o + j * 4 + 1, none⟩ = some (.int .i64 x.t) := hc 1 _ rfl
      have e2 : wr.cell? ⟨g, o + j * 4 + 2, none⟩ = some (.int .i64 x.s) := hc 2 _ rfl
      have e3 : wr.cell? ⟨g, o + j * 4 + 3, none⟩ = some (.int .i64 x.r) := hc 3 _ rfl
      obtain ⟨A2, c2, rfl, _, _, _⟩ := own_form hown
      have hlo : (0 : Int) ≤ (j : Int) := by omega
      have hhi : (j : Int) < (n : Int) := by omega
      clear hx hc
      go_upto_region 8 with (fail)
      have hrow := heap_alloc_new wr (.cells #[.int .i64 x.f, .int .i64 x.t, .int .i64 x.s, .int .i64 x.r] 52)
      have hbA := (Below.refl wr.heap.size wr).alloc (Nat.le_refl _) (.cells #[.int .i64 x.f, .int .i64 x.t, .int .i64 x.s, .int .i64 x.r] 52)
      obtain ⟨W, hW⟩ : ∃ W, W = wr.alloc (.cells #[.int .i64 x.f, .int .i64 x.t, .int .i64 x.s, .int .i64 x.r] 52) := ⟨_, rfl⟩
      rw [← hW] at hrow hbA ⊢
      clear hW e0 e1 e2 e3
      have hownW := own_under hown hbA
      have hbW := hbr.trans (hbA.mono hwsz)
      have hne : (Value.slice A2 j c2).ownBlock ≠ some wr.heap.size := fun e => by have := (hown.lt wr.heap.size e).2; omega
      have hzW : wr.heap.size < W.heap.size := (Array.getElem?_eq_some_iff.1 hrow).1
      have x0 : W.cell? ⟨wr.heap.size, 0, none⟩ = some (.int .i64 x.f) := by rw [cell_of_row W _ 0 _ _ _ hrow]; rfl
      have x1 : W.cell? ⟨wr.heap.size, 1, none⟩ = some (.int .i64 x.t) := by rw [cell_of_row W _ 1 _ _ _ hrow]; rfl
      have x2 : W.cell? ⟨wr.heap.size, 2, none⟩ = some (.int .i64 x.s) := by rw [cell_of_row W _ 2 _ _ _ hrow]; rfl
      have x3 : W.cell? ⟨wr.heap.size, 3, none⟩ = some (.int .i64 x.r) := by rw [cell_of_row W _ 3 _ _ _ hrow]; rfl
      cases b
      · have xf0 := frozen_of_row W wr.heap.size 0 _ _ hrow
        have xf1 := frozen_of_row W wr.heap.size 1 _ _ hrow
        have xf2 := frozen_of_row W wr.heap.size 2 _ _ hrow
        have xf3 := frozen_of_row W wr.heap.size 3 _ _ hrow
        go_wp2_with fail
        refine (pick_any x.f 80 _ (by omega)).mono ?_
        rintro e w' ⟨rfl, rfl⟩
        have hpq := pick_bd3 x.f 80 (by omega) (by omega)
        generalize pick x.f 80 = q at *
        obtain ⟨a, ha⟩ : ∃ a, pick x.s 4 = a := ⟨_, rfl⟩
        obtain ⟨b, hb4⟩ : ∃ a, pick x.r 8 = a := ⟨_, rfl⟩
        obtain ⟨r, hr⟩ : ∃ a, pick x.t 20 = a := ⟨_, rfl⟩
        have hpb2 := pick_bd3 x.t 20 (by omega) (by omega)
        rw [hr] at hpb2
        have HA := Lib.hid ha
        have HB := Lib.hid hb4
        have HR := Lib.hid hr
        clear ha hb4 hr
        go_upto_region 10 with (fail)
        go_cut [48] from 34 to 48 (fun _ wx => wx = ((((W.setCell ⟨wr.heap.size, 0, none⟩ (.int .i64 (q - 2))).setCell ⟨wr.heap.size, 1, none⟩ (.int .i64 (IntKind.i64.wrap (q - 2 + r)))).setCell ⟨wr.heap.size, 2, none⟩ (.int .i64 a)).setCell ⟨wr.heap.size, 3, none⟩ (.int .i64 b)).drew)
        case first =>
          go_region_law (first
            | (go_simp; go_at_call 15; ((with_reducible refine (pick_to x.s 4 a _ (by omega) HA.out).mono ?_)); rintro e w' ⟨rfl, rfl⟩)
            | (go_simp; go_at_call 15; ((with_reducible refine (pick_to x.r 8 b _ (by omega) HB.out).mono ?_)); rintro e w' ⟨rfl, rfl⟩)
            | (go_simp; go_at_call 15; ((with_reducible refine (pick_to x.t 20 r _ (by omega) HR.out).mono ?_)); rintro e w' ⟨rfl, rfl⟩))
          all_goals (go_wp2_with fail; go_meet; rfl)
        case rest =>
          have hw2 : IntKind.i64.wrap (q - 2 + r) = q - 2 + r := IntWalk.i64_in _ (by omega)
          rw [hw2] at hcut
          have hrow1 := heap_setCell_same W wr.heap.size 0 _ _ (.int .i64 (q - 2)) hrow
          have hrow2 := heap_setCell_same _ wr.heap.size 1 _ _ (.int .i64 (q - 2 + r)) hrow1
          have hrow3 := heap_setCell_same _ wr.heap.size 2 _ _ (.int .i64 a) hrow2
          have hrow4 := heap_setCell_same _ wr.heap.size 3 _ _ (.int .i64 b) hrow3
          have hrow5 : wc.heap[wr.heap.size]? = some (.cells #[.int .i64 (q - 2), .int .i64 (q - 2 + r), .int .i64 a, .int .i64 b] 52 (0, 0)) := by rw [hcut]; exact hrow4
          have hownV : wc.ownsRow w.heap.size 52 4 (.slice A2 j c2) j (flat Pr.ccells O) := by
            rw [hcut]
            exact ownsRow_setCell_ne (p := ⟨wr.heap.size, 3, none⟩) (ownsRow_setCell_ne (p := ⟨wr.heap.size, 2, none⟩) (ownsRow_setCell_ne (p := ⟨wr.heap.size, 1, none⟩) (ownsRow_setCell_ne (p := ⟨wr.heap.size, 0, none⟩) hownW hne _) hne _) hne _) hne _
          have hbV : Below w.heap.size w wc := by
            rw [hcut]
            exact ((((hbW.setCell (p := ⟨wr.heap.size, 0, none⟩) hwsz _).setCell (p := ⟨wr.heap.size, 1, none⟩) hwsz _).setCell (p := ⟨wr.heap.size, 2, none⟩) hwsz _).setCell (p := ⟨wr.heap.size, 3, none⟩) hwsz _).drew
          clear hcut hrow hrow1 hrow2 hrow3 hrow4 x0 x1 x2 x3 xf0 xf1 xf2 xf3 hownW hbW hb
          have hzV : wr.heap.size < wc.heap.size := (Array.getElem?_eq_some_iff.1 hrow5).1
          have x0 : wc.cell? ⟨wr.heap.size, 0, none⟩ = some (.int .i64 (q - 2)) := by rw [cell_of_row wc _ 0 _ _ _ hrow5]; rfl
          have x1 : wc.cell? ⟨wr.heap.size, 1, none⟩ = some (.int .i64 (q - 2 + r)) := by rw [cell_of_row wc _ 1 _ _ _ hrow5]; rfl
          have x2 : wc.cell? ⟨wr.heap.size, 2, none⟩ = some (.int .i64 a) := by rw [cell_of_row wc _ 2 _ _ _ hrow5]; rfl
          have x3 : wc.cell? ⟨wr.heap.size, 3, none⟩ = some (.int .i64 b) := by rw [cell_of_row wc _ 3 _ _ _ hrow5]; rfl
          go_wp2_with (at_builtin; go_loud (refine wpList_append_rd (by rfl) (.tmp 49) (.tmp 51) 44 (by rfl) w.heap.size 52 i0 _ 4 32 Try.underlying44 hi0 hz0 hz1 hz2 rfl (by omega) (.slice A2 j c2) j (flat Pr.ccells O) (by rfl) (hownV.alloc _) (wc.heap.size + 1) (some ⟨wc.heap.size, 0, none⟩) 1 1 [.int .i64 (q - 2), .int .i64 (q - 2 + r), .int .i64 a, .int .i64 b] (by rfl) (Rd.built (heap_alloc_new wc _) (by omega) rfl) (by intro u hu; simp at hu; rcases hu with rfl | rfl | rfl | rfl <;> rfl) (by unfold maxLen; omega) (by omega) (by simp; omega) ?_); intro v4 w4 hown4 hg4 hat4)
          have hb4 := (hbV.alloc hbV.size (.cells #[.int .i64 (q - 2), .int .i64 (q - 2 + r), .int .i64 a, .int .i64 b] 52)).grown hg4 (by have := hbV.size; simp; omega) (fun g e => by have := (hownV.lt g e).1; omega)
          have ef : flat Pr.ccells (O ++ [(⟨a, b, q - 2, q - 2 + r⟩ : Pr)]) = flat Pr.ccells O ++ [.int .i64 (q - 2), .int .i64 (q - 2 + r), .int .i64 a, .int .i64 b] := by rw [flat_append, flat_one]; rfl
          refine ⟨⟨j + 1, O ++ [(⟨a, b, q - 2, q - 2 + r⟩ : Pr)], by omega, by go_num, by rw [List.length_append, HOL.out]; rfl, ?_, hb4⟩, by simp [intOf]; omega⟩
          rw [ef]
          exact hown4
      · skip
        go_wp2_with (at_builtin; go_loud (refine wpList_append_rd (by rfl) (.tmp 49) (.tmp 51) 44 (by rfl) w.heap.size 52 i0 _ 4 32 Try.underlying44 hi0 hz0 hz1 hz2 rfl (by omega) (.slice A2 j c2) j (flat Pr.ccells O) (by rfl) (hownW.alloc _) (W.heap.size + 1) (some ⟨W.heap.size, 0, none⟩) 1 1 [.int .i64 x.f, .int .i64 x.t, .int .i64 x.s, .int .i64 x.r] (by rfl) (Rd.built (heap_alloc_new W _) (by omega) rfl) (by intro u hu; simp at hu; rcases hu with rfl | rfl | rfl | rfl <;> rfl) (by unfold maxLen; omega) (by omega) (by simp; omega) ?_); intro v4 w4 hown4 hg4 hat4)
        have hb4 := (hbW.alloc hbW.size (.cells #[.int .i64 x.f, .int .i64 x.t, .int .i64 x.s, .int .i64 x.r] 52)).grown hg4 (by have := hbW.size; simp; omega) (fun g e => by have := (hownW.lt g e).1; omega)
        have ef : flat Pr.ccells (O ++ [x]) = flat Pr.ccells O ++ [.int .i64 x.f, .int .i64 x.t, .int .i64 x.s, .int .i64 x.r] := by rw [flat_append, flat_one]; rfl
        refine ⟨⟨j + 1, O ++ [x], by omega, by go_num, by rw [List.length_append, HOL.out]; rfl, ?_, hb4⟩, by simp [intOf]; omega⟩
        rw [ef]
        exact hown4
    · obtain rfl : j = n := by omega
      obtain ⟨A2, c2, rfl, _, _, _⟩ := own_form hown
      have h1 := Rd.ofOwn hown
      have hb1 := hbr
      clear hown hbr hb h
      go_wp2_with fail
      refine (pick_any st 5 _ (by omega)).mono ?_
      rintro e w' ⟨rfl, rfl⟩
      have hps := pick_bd3 st 5 (by omega) (by omega)
      generalize pick st 5 = s at *
      go_wp2_with fail
      refine (pick_any rk 9 _ (by omega)).mono ?_
      rintro e w' ⟨rfl, rfl⟩
      have hpr := pick_bd3 rk 9 (by omega) (by omega)
      generalize pick rk 9 = r at *
      go_wp2_with fail
      refine (awk_any wr).mono ?_
      rintro e wa ⟨rfl, hba⟩
      have h1a := (h1.below hba).mono hba.size
      have hbba := hb1.trans (hba.mono hb1.size)
      clear h1 hb1 hba
      go_wp2_with fail
      refine (ofc_any (s - 1) r h1a HOL.out (by omega)).mono ?_
      intro e w2 hr
      obtain ⟨m2, k2, A3, c3, HM2, rfl, hl2, h2, hb2⟩ := hr.open (b := 1000) (by have := nf_ddl O (s - 1) r; have := HOL.out; omega)
      have h12 := (h1a.below hb2).mono hb2.size
      have hbb2 := hbba.trans (hb2.mono hbba.size)
      clear h1a hbba hb2 hr
      go_wp2_with fail
      refine (countedof_any (s - 1) r h12 HOL.out (by omega)).mono ?_
      intro e w3 hr
      obtain ⟨m3, k3, A4, c4, HM3, rfl, hl3, h3, hb3⟩ := hr.open (b := 1000) (by have := nf_ddl O (s - 1) r; have := HOL.out; omega)
      have h13 := (h12.below hb3).mono hb3.size
      have h23 := h2.below hb3
      have hbb3 := hbb2.trans (hb3.mono hbb2.size)
      clear h12 hbb2 hb3 hr h2
      go_wp2_with fail
      refine (sames_true h23 h3 (by rw [HM2.out, HM3.out]) (by omega) (by omega)).mono ?_
      rintro e w4 ⟨rfl, hb4⟩
      have h14 := (h13.below hb4).mono hb4.size
      have hbb4 := hbb3.trans (hb4.mono hbb3.size)
      clear h13 hbb3 hb4 h23 h3
      go_wp2_with fail
      refine (odays_any (s - 1) r h14 HOL.out (by omega)).mono ?_
      rintro e w5 ⟨rfl, hb5⟩
      have h15 := (h14.below hb5).mono hb5.size
      have hbb5 := hbb4.trans (hb5.mono hbb4.size)
      clear h14 hbb4 hb5
      generalize hdl : lenL (nf (Dd O (s - 1) r)) = dl at *
      have HDL := Lib.hid hdl
      clear hdl
      go_wp2_with fail
      refine (cdays_any (s - 1) r h15 HOL.out (by omega)).mono ?_
      rintro e w6 ⟨rfl, hb6⟩
      rw [HDL.out]
      go_wp2_with fail
      go_ret
      exact ⟨rfl, hbb5.trans (hb6.mono hbb5.size)⟩
end Go.Proofs.Ytkncfhdfobcjeaa
