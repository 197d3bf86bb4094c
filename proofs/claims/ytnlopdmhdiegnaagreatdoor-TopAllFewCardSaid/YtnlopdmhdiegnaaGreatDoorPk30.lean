/- Lemmas (no conditions): Cph, Cva, Toa -/
import Derived.Test.YtnlopdmhdiegnaaGreatDoorPk26
import Derived.Test.YtnlopdmhdiegnaaGreatDoorPk27
set_option linter.unusedSimpArgs false
set_option linter.unusedVariables false
set_option maxRecDepth 100000
set_option maxHeartbeats 64000000
namespace Go.Proofs.YtnlopdmhdiegnaaGreatDoor
open Go.RowKit
section
theorem info_segm : (Tryz.prog.info? 306).map (fun i => (i.zero, i.size, i.bytes)) = some (some (.agg #[.int .i64 0, .int .i64 0, .int .i64 0, .int .i64 0]), 4, 32) := by kernel_rfl
def RetSg (w : World) (C : List Pr) (e : Ending) (w' : World) : Prop := ∃ A m c, e = .returned (.slice A m c) /\ C.length = m /\ w'.ownsRow w.heap.size 306 4 (.slice A m c) m (flat Pr.ccells C) /\ Below w.heap.size w w'
theorem flat_snocC (O : List Pr) (q : Pr) : flat Pr.ccells (O ++ [q]) = flat Pr.ccells O ++ [.int .i64 q.f, .int .i64 q.t, .int .i64 q.s, .int .i64 q.r] := by rw [flat_append, flat_one]; rfl
theorem last_cells {w : World} {base m c : Nat} {A : Option Addr} {ws : List Sp} (h : w.ownsRow base 306 4 (.slice A m c) m (flat Pr.ccells (sgm 0 (ws.take m)))) (hm : 0 < m) (hml : m <= ws.length) :
  ∃ (g : Nat) (t st : Int), A = some ⟨g, 0, none⟩ /\ w.cell? ⟨g, (m - 1) * 4 + 1, none⟩ = some (.int .i64 t) /\ w.cell? ⟨g, (m - 1) * 4 + 2, none⟩ = some (.int .i64 st) /\ w.cell? ⟨g, (m - 1) * 4 + 3, none⟩ = some (.int .i64 3) /\ (st == (m : Int)) = false := by
 obtain ⟨p, hp⟩ : ∃ p, (ws.take m)[m - 1]? = some p := ⟨_, List.getElem?_eq_getElem (by rw [List.length_take]; omega)⟩
 have hq : (sgm 0 (ws.take m))[m - 1]? = some ⟨((m - 1 : Nat) : Int), 3, p.f, p.t⟩ := by
  rw [sgm_get, hp, Nat.zero_add]
  rfl
 obtain ⟨_, _, e0, _, _, hA⟩ := own_form h
 injection e0 with ea _ ec
 subst ea ec
 obtain ⟨g, rfl, _⟩ := hA (by omega)
 have f1 : (flat Pr.ccells (sgm 0 (ws.take m)))[(m - 1) * 4 + 1]? = some (.int .i64 p.t) := flat_get pc_len _ (m - 1) 1 _ hq (by omega)
 have f2 : (flat Pr.ccells (sgm 0 (ws.take m)))[(m - 1) * 4 + 2]? = some (.int .i64 ((m - 1 : Nat) : Int)) := flat_get pc_len _ (m - 1) 2 _ hq (by omega)
 have f3 : (flat Pr.ccells (sgm 0 (ws.take m)))[(m - 1) * 4 + 3]? = some (.int .i64 3) := flat_get pc_len _ (m - 1) 3 _ hq (by omega)
 have c1 := h.cells (g := g) rfl _ _ f1
 have c2 := h.cells (g := g) rfl _ _ f2
 have c3 := h.cells (g := g) rfl _ _ f3
 rw [addAt, Nat.zero_add] at c1 c2 c3
 exact ⟨g, p.t, _, rfl, c1, c2, c3, beq_eq_false_iff_ne.2 (by omega)⟩
theorem law_all {A RA : Option Addr} {n c rc : Nat} {L : List Fc} {ws : List Sp} {x : Rv} {lo : Int} {w : World} (hL : Rd w w.heap.size 14 A n (flat Fc.cells L)) (hl : L.length = n) (hW : Wks ws L) (h0 : 0 <= lo) (hw : WOk lo ws) (h6 : ws.length <= 6)
  (hX : Rus w w.heap.size RA 1 [x]) (hx : RuOk x.r) :
  Calls Tryz.prog 121 #[.slice A n c, .slice RA 1 rc] w (RetSg w (sgm 0 ws)) := by
 obtain ⟨i1, hi1, hy0, hy1, hy2⟩ := info_parts info_segm
 have hn : n <= 900 := by rw [<- hl, hW.1]; omega
 have hpr := prepare_any (c := c) (rc := rc) hL hl (hW.wkl h0 hw h6) hn hX hx
 have HLC := Lib.hid (show L.length = n /\ Wks ws L /\ 0 <= lo /\ WOk lo ws /\ RuOk x.r from ⟨hl, hW, h0, hw, hx⟩)
 have hXu := fun (u : World) (hu : Below w.heap.size w u) => (show Rus u u.heap.size RA 1 [x] from (hX.below hu).mono hu.size)
 have HX := Lib.hid hXu
 clear hL hl hW h0 hw hX hx hXu
 go_enter Tryz.func121, Tryz.ntmps121
 go_wp2_with fail
 refine hpr.mono ?_
 rintro e w1 ⟨A4, c4, rfl, hL1, hb1⟩
 clear hpr
 go_upto_region 2 with (fail)
 obtain ⟨W, hW, bW, rW⟩ := lif_new w1 A4 n c4 RA 1 rc
 dsimp only [lifBox] at hW
 rw [hW]
 clear hW
 have lW := (gis rW).1
 have hbW := hb1.trans (bW.mono hb1.size)
 have hLW : Rd W W.heap.size 14 A4 n (flat Fc.cells L) := (hL1.below bW).mono bW.size
 obtain ⟨z0, z1, z2, z3, z4⟩ := lifbox rW
 have hcu := cuts_any (c := c4) (rc := rc) hLW HLC.out.1 HLC.out.2.1 h6 (HX.out _ hbW) HLC.out.2.2.2.2
 unfold lifV at hcu
 go_wp2_with fail
 refine hcu.mono ?_
 rintro e w2 ⟨AD, cD, D, rfl, hC, hDl, hrD, hb2⟩
 clear hcu z0 z1 z2 z3 z4
 have hbw2 := hbW.trans (hb2.mono hbW.size)
 have hz2 := hbw2.size
 have hbox : ∀ u, Below w2.heap.size w2 u -> u.cell? ⟨w1.heap.size, 0, none⟩ = some (.slice A4 n c4) /\ u.cell? ⟨w1.heap.size, 1, none⟩ = some (.int .i64 0) /\ u.cell? ⟨w1.heap.size, 2, none⟩ = some (.int .i64 73049) /\ u.cell? ⟨w1.heap.size, 3, none⟩ = some (.slice none 0 0) /\ u.cell? ⟨w1.heap.size, 4, none⟩ = some (.slice RA 1 rc) := fun u hu =>
  lifbox ((hu.block _ (Nat.lt_of_lt_of_le lW hb2.size)).trans ((hb2.block _ lW).trans rW))
 have hlaw : ∀ u, Below w2.heap.size w2 u -> Rd u u.heap.size 14 A4 n (flat Fc.cells L) /\ Rus u u.heap.size RA 1 [x] := fun u hu =>
  ⟨(hLW.below (hb2.trans (hu.mono hb2.size))).mono (Nat.le_trans hb2.size hu.size), HX.out u (hbw2.trans (hu.mono hz2))⟩
 have HB := Lib.hid hbox
 have HW := Lib.hid hlaw
 have HC := Lib.hid hC
 have hD2 := cuts_len hC
 generalize hq : D.length = q at *
 have HQ := Lib.hid hq
 clear hbox hlaw hC rW lW hL1 hLW bW hb2 hbW hb1 hq
 generalize w1.heap.size = Q at *
 go_wp2_with fail
 go_loopw [7, 9] (fun v i wr => ∃ (k m c1 : Nat) (A1 : Option Addr), k < q /\ i = .int .i64 (k : Int) /\ v = .slice A1 m c1 /\ Hid (LwI ws D k m) /\ wr.ownsRow w2.heap.size 306 4 (.slice A1 m c1) m (flat Pr.ccells (sgm 0 (ws.take m))) /\ Below w2.heap.size w2 wr) (fun _ i _ => q - (intOf i).toNat)
 case atStart => exact ⟨0, 0, 0, none, by omega, rfl, rfl, Lib.hid (lwi_zero HLC.out.2.2.1 HLC.out.2.2.2.1 HC.out), World.ownsRow_nil _ _ _ _, Below.refl _ _⟩
 case round =>
  obtain ⟨k, m, c1, A1, hk, rfl, rfl, hI, hown, hb⟩ := hrel
  have hwsz := hb.size
  have hm6 : m <= 6 := Nat.le_trans hI.out.1 h6
  obtain ⟨_, _, e0, hnc1, hcm1, _⟩ := own_form hown
  injection e0 with ea _ e1
  subst ea e1
  by_cases hlt : k + 1 < q
  ·obtain ⟨a, ha⟩ : ∃ a, D[k]? = some a := ⟨_, List.getElem?_eq_getElem (by have := HQ.out; omega)⟩
   obtain ⟨b, hbq⟩ : ∃ b, D[k + 1]? = some b := ⟨_, List.getElem?_eq_getElem (by have := HQ.out; omega)⟩
   have had := cut_day HLC.out.2.2.1 HLC.out.2.2.2.1 HC.out ha (by have := HQ.out; omega)
   obtain ⟨d, rfl⟩ : ∃ d : Nat, a = (d : Int) := ⟨a.toNat, by omega⟩
   have hq01 : ∀ wx : World, Below w2.heap.size w2 wx -> ∃ g o, AD = some ⟨g, o, none⟩ /\ g < w2.heap.size /\ wx.cell? ⟨g, o + k, none⟩ = some (.int .i64 (d : Int)) /\ wx.cell? ⟨g, o + (k + 1), none⟩ = some (.int .i64 b) := by
    intro wx hbx
    obtain ⟨_, b1, o, hA, hbb, q0⟩ := (hrD.below hbx).int ha
    obtain ⟨_, b', o', hA', _, q1⟩ := (hrD.below hbx).int hbq
    rw [hA] at hA'
    injection hA' with hA'
    injection hA' with h1 h2
    subst h1 h2
    exact ⟨b1, o, hA, hbb, q0, q1⟩
   have hcase : (∃ s, ws[m]? = some s /\ s.f = (d : Int) /\ b = s.t /\ LwI ws D (k + 1) (m + 1) /\ (d : Int) < s.t) ∨ ((∀ (j : Nat) (s : Sp), ws[j]? = some s -> ¬ (s.f <= (d : Int) /\ (d : Int) < s.t)) /\ LwI ws D (k + 1) m) := by
    by_cases hcs : ∃ s, ws[m]? = some s /\ s.f <= (d : Int)
    ·obtain ⟨s, hs, hle⟩ := hcs
     obtain ⟨h1, h2, h3⟩ := lwi_in HLC.out.2.2.1 HLC.out.2.2.2.1 HC.out hI.out ha hbq hs hle
     have := wok_at HLC.out.2.2.2.1 hs
     exact .inl ⟨s, hs, h1.symm, h2, h3, by omega⟩
    ·exact .inr (lwi_out HLC.out.2.2.1 HLC.out.2.2.2.1 HC.out hI.out ha hbq fun s hs => by
      rcases Int.lt_or_le (d : Int) s.f with h | h
      ·exact h
      ·exact absurd ⟨s, hs, h⟩ hcs)
   have HCS := Lib.hid hcase
   have HCQ := Lib.hid hq01
   have hd : d <= 73048 := by omega
   have hlo : (0 : Int) <= (k : Int) := by omega
   have hhi : (k : Int) < (q : Int) := by omega
   have hhi2 : (k : Int) + 1 < (q : Int) := by omega
   have hlo2 : (0 : Int) <= (k : Int) + 1 := by omega
   clear ha hbq had hcase hq01 hI
   obtain ⟨gE, oE, rfl, hgE, q0, q1⟩ := HCQ.out wr hb
   obtain ⟨z0, z1, z2, z3, z4⟩ := HB.out wr hb
   rcases HCS.out with ⟨s, hs, h1, rfl, hI2, h2⟩ | ⟨hno, hI2⟩
   ·have hlw := fun u hu => law_in (c := c4) (rc := rc) (w := u) hd (HW.out u hu).1 HLC.out.1 HLC.out.2.1 HLC.out.2.2.1 HLC.out.2.2.2.1 h6 (HW.out u hu).2 HLC.out.2.2.2.2 hs (by omega) h2
    unfold lifV at hlw
    obtain ⟨sm, hsm⟩ : ∃ sm : Int, sm = (m : Int) := ⟨_, rfl⟩
    rw [<- hsm] at hlw
    have HLW := Lib.hid hlw
    have HST : Hid (flat Pr.ccells (sgm 0 (ws.take (m + 1))) = flat Pr.ccells (sgm 0 (ws.take m)) ++ [.int .i64 (d : Int), .int .i64 s.t, .int .i64 sm, .int .i64 3]) := Lib.hid (by rw [sgm_take hs, flat_snocC, h1, hsm])
    have HSM := Lib.hid hsm
    have HI2 := Lib.hid hI2
    clear hlw hI2 h1 h2 hs HCS hsm
    go_upto_region 9 with (fail)
    go_region_held3 (fun w' => (w'.cell? ⟨Q, 0, none⟩ = some (.slice A4 n c4) /\ w'.cell? ⟨Q, 1, none⟩ = some (.int .i64 0) /\ w'.cell? ⟨Q, 2, none⟩ = some (.int .i64 73049) /\ w'.cell? ⟨Q, 3, none⟩ = some (.slice none 0 0) /\ w'.cell? ⟨Q, 4, none⟩ = some (.slice RA 1 rc)) /\ w'.cell? ⟨gE, oE + k, none⟩ = some (.int .i64 (d : Int))) (first | exact ⟨HB.out _ hb, q0⟩ | exact ⟨HB.out _ hb.drew, q0⟩ | exact ⟨HB.out _ hb3, q3⟩) (first
     | (go_at_call 187; (with_reducible refine (HLW.out _ hb.drew).mono ?_); rintro e w3 ⟨rfl, b3⟩
        have hb3 : Below w2.heap.size w2 w3 := hb.drew.trans (b3.mono hwsz)
        obtain ⟨_, _, eA, _, q3, q4⟩ := HCQ.out w3 hb3
        injection eA with eA
        injection eA with eA1 eA2
        subst eA1 eA2))
    have hown3 : w3.ownsRow w2.heap.size 306 4 (.slice A1 m c1) m (flat Pr.ccells (sgm 0 (ws.take m))) := own_underF (w := wr.drew) hown b3
    have hz3 := hb3.size
    clear z0 z1 z2 z3 z4 q0 q1 hown hb b3
    rename_i hHeld
    clear hHeld
    rcases Nat.eq_zero_or_pos m with hm0 | hm0
    ·subst hm0
     go_upto_region 12 with (fail)
     go_quiet (fail)
     go_upto_region 14 with (fail)
     obtain ⟨V, hV⟩ : ∃ V, V = w3.drewN nq := ⟨_, rfl⟩
     have hownV : V.ownsRow w2.heap.size 306 4 (.slice A1 0 c1) 0 (flat Pr.ccells (sgm 0 (ws.take 0))) := by rw [hV]; exact hown3
     have hbV : Below w2.heap.size w2 V := by rw [hV]; exact below_drewN hb3 nq
     have k0 : V.cell? ⟨gE, oE + k, none⟩ = some (.int .i64 (d : Int)) := by rw [hV]; exact q3
     have k1 : V.cell? ⟨gE, oE + (k + 1), none⟩ = some (.int .i64 s.t) := by rw [hV]; exact q4
     have hzV := hbV.size
     have hlE : gE < V.heap.size := by omega
     rw [<- hV]
     clear hV hown3 hb3 q3 q4 hz3
     have hwk : IntKind.i64.wrap ((k : Int) + 1) = (k : Int) + 1 := IntWalk.i64_in _ (by omega)
     have hwn : ((k : Int) + 1).toNat = k + 1 := by omega
     go_region_held3 (fun w' => w'.cell? ⟨gE, oE + k, none⟩ = some (.int .i64 (d : Int)) /\ w'.cell? ⟨gE, oE + (k + 1), none⟩ = some (.int .i64 s.t)) (go_keep) ((refine step_append_rd (by rfl) (.tmp 90) (.tmp 104) 227 (by rfl) w2.heap.size 306 i1 _ 4 32 Tryz.underlying227 hi1 hy0 hy1 hy2 rfl (by omega) (.slice A1 0 c1) 0 (flat Pr.ccells (sgm 0 (ws.take 0))) (by rfl) (hownV.alloc _) (V.heap.size + 1) (some ⟨V.heap.size, 0, none⟩) 1 1 [.int .i64 (d : Int), .int .i64 s.t, .int .i64 sm, .int .i64 3] (by rfl) (Rd.built (heap_alloc_new V _) (by omega) rfl) (by intro u hu; simp at hu; rcases hu with rfl | rfl | rfl | rfl <;> rfl) (by unfold maxLen; omega) (by omega) (by simp; omega) ?_; intro v4 w4 hown4 hg4 hat4; have k0 : w4.cell? ⟨gE, oE + k, none⟩ = some (.int .i64 (d : Int)) := hg4.cell ((World.cell?_alloc_lt V _ ⟨gE, oE + k, none⟩ (by show gE < _; omega)).trans k0) (fun e => by have := (hownV.lt gE e.symm).1; omega); have k1 : w4.cell? ⟨gE, oE + (k + 1), none⟩ = some (.int .i64 s.t) := hg4.cell ((World.cell?_alloc_lt V _ ⟨gE, oE + (k + 1), none⟩ (by show gE < _; omega)).trans k1) (fun e => by have := (hownV.lt gE e.symm).1; omega)))
     go_wp2_with fail
     have hbf := (hbV.alloc hbV.size (.cells #[.int .i64 (d : Int), .int .i64 s.t, .int .i64 sm, .int .i64 3] 306)).drew.grown hg4 (by simp; omega) (fun g e => (hownV.lt g e).1)
     obtain ⟨A5, c5, rfl, _, _, _⟩ := own_form hown4
     go_roundw
     case rel => exact ⟨k + 1, 0 + 1, c5, A5, by omega, by go_num, rfl, HI2, by rw [HST.out]; exact hown4, hbf⟩
     case measure => simp [intOf]; omega
    ·obtain ⟨g7, t7, st, rfl, k1, k2, k3, hne⟩ := last_cells hown3 hm0 (by have := HI2.out.1; omega)
     rw [<- HSM.out] at hne
     have hm1 : (0 : Int) < (m : Int) := by omega
     have hm2 : (0 : Int) <= (m : Int) - 1 := by omega
     have hm3 : (m : Int) - 1 < (m : Int) := by omega
     have hm4 : ((m : Int) - 1).toNat = m - 1 := by omega
     go_upto_region 12 with (fail)
     obtain ⟨qt, hqt⟩ : ∃ b, (t7 == (d : Int)) = b := ⟨_, rfl⟩
     cases qt
     ·go_quiet (fail)
      go_upto_region 14 with (fail)
      obtain ⟨V, hV⟩ : ∃ V, V = w3.drewN nq := ⟨_, rfl⟩
      have hownV : V.ownsRow w2.heap.size 306 4 (.slice (some ⟨g7, 0, none⟩) m c1) m (flat Pr.ccells (sgm 0 (ws.take m))) := by rw [hV]; exact hown3
      have hbV : Below w2.heap.size w2 V := by rw [hV]; exact below_drewN hb3 nq
      have k0 : V.cell? ⟨gE, oE + k, none⟩ = some (.int .i64 (d : Int)) := by rw [hV]; exact q3
      have k1 : V.cell? ⟨gE, oE + (k + 1), none⟩ = some (.int .i64 s.t) := by rw [hV]; exact q4
      have hzV := hbV.size
      have hlE : gE < V.heap.size := by omega
      rw [<- hV]
      clear hV hown3 hb3 q3 q4 hz3
      have hwk : IntKind.i64.wrap ((k : Int) + 1) = (k : Int) + 1 := IntWalk.i64_in _ (by omega)
      have hwn : ((k : Int) + 1).toNat = k + 1 := by omega
      go_region_held3 (fun w' => w'.cell? ⟨gE, oE + k, none⟩ = some (.int .i64 (d : Int)) /\ w'.cell? ⟨gE, oE + (k + 1), none⟩ = some (.int .i64 s.t)) (go_keep) ((refine step_append_rd (by rfl) (.tmp 90) (.tmp 104) 227 (by rfl) w2.heap.size 306 i1 _ 4 32 Tryz.underlying227 hi1 hy0 hy1 hy2 rfl (by omega) (.slice (some ⟨g7, 0, none⟩) m c1) m (flat Pr.ccells (sgm 0 (ws.take m))) (by rfl) (hownV.alloc _) (V.heap.size + 1) (some ⟨V.heap.size, 0, none⟩) 1 1 [.int .i64 (d : Int), .int .i64 s.t, .int .i64 sm, .int .i64 3] (by rfl) (Rd.built (heap_alloc_new V _) (by omega) rfl) (by intro u hu; simp at hu; rcases hu with rfl | rfl | rfl | rfl <;> rfl) (by unfold maxLen; omega) (by omega) (by simp; omega) ?_; intro v4 w4 hown4 hg4 hat4; have k0 : w4.cell? ⟨gE, oE + k, none⟩ = some (.int .i64 (d : Int)) := hg4.cell ((World.cell?_alloc_lt V _ ⟨gE, oE + k, none⟩ (by show gE < _; omega)).trans k0) (fun e => by have := (hownV.lt gE e.symm).1; omega); have k1 : w4.cell? ⟨gE, oE + (k + 1), none⟩ = some (.int .i64 s.t) := hg4.cell ((World.cell?_alloc_lt V _ ⟨gE, oE + (k + 1), none⟩ (by show gE < _; omega)).trans k1) (fun e => by have := (hownV.lt gE e.symm).1; omega)))
      go_wp2_with fail
      have hbf := (hbV.alloc hbV.size (.cells #[.int .i64 (d : Int), .int .i64 s.t, .int .i64 sm, .int .i64 3] 306)).drew.grown hg4 (by simp; omega) (fun g e => (hownV.lt g e).1)
      obtain ⟨A5, c5, rfl, _, _, _⟩ := own_form hown4
      go_roundw
      case rel => exact ⟨k + 1, m + 1, c5, A5, by omega, by go_num, rfl, HI2, by rw [HST.out]; exact hown4, hbf⟩
      case measure => simp [intOf]; omega
     ·go_quiet (fail)
      go_upto_region 14 with (fail)
      obtain ⟨V, hV⟩ : ∃ V, V = w3.drewN nq := ⟨_, rfl⟩
      have hownV : V.ownsRow w2.heap.size 306 4 (.slice (some ⟨g7, 0, none⟩) m c1) m (flat Pr.ccells (sgm 0 (ws.take m))) := by rw [hV]; exact hown3
      have hbV : Below w2.heap.size w2 V := by rw [hV]; exact below_drewN hb3 nq
      have k0 : V.cell? ⟨gE, oE + k, none⟩ = some (.int .i64 (d : Int)) := by rw [hV]; exact q3
      have k1 : V.cell? ⟨gE, oE + (k + 1), none⟩ = some (.int .i64 s.t) := by rw [hV]; exact q4
      have hzV := hbV.size
      have hlE : gE < V.heap.size := by omega
      rw [<- hV]
      clear hV hown3 hb3 q3 q4 hz3
      have hwk : IntKind.i64.wrap ((k : Int) + 1) = (k : Int) + 1 := IntWalk.i64_in _ (by omega)
      have hwn : ((k : Int) + 1).toNat = k + 1 := by omega
      go_region_held3 (fun w' => w'.cell? ⟨gE, oE + k, none⟩ = some (.int .i64 (d : Int)) /\ w'.cell? ⟨gE, oE + (k + 1), none⟩ = some (.int .i64 s.t)) (go_keep) ((refine step_append_rd (by rfl) (.tmp 90) (.tmp 104) 227 (by rfl) w2.heap.size 306 i1 _ 4 32 Tryz.underlying227 hi1 hy0 hy1 hy2 rfl (by omega) (.slice (some ⟨g7, 0, none⟩) m c1) m (flat Pr.ccells (sgm 0 (ws.take m))) (by rfl) (hownV.alloc _) (V.heap.size + 1) (some ⟨V.heap.size, 0, none⟩) 1 1 [.int .i64 (d : Int), .int .i64 s.t, .int .i64 sm, .int .i64 3] (by rfl) (Rd.built (heap_alloc_new V _) (by omega) rfl) (by intro u hu; simp at hu; rcases hu with rfl | rfl | rfl | rfl <;> rfl) (by unfold maxLen; omega) (by omega) (by simp; omega) ?_; intro v4 w4 hown4 hg4 hat4; have k0 : w4.cell? ⟨gE, oE + k, none⟩ = some (.int .i64 (d : Int)) := hg4.cell ((World.cell?_alloc_lt V _ ⟨gE, oE + k, none⟩ (by show gE < _; omega)).trans k0) (fun e => by have := (hownV.lt gE e.symm).1; omega); have k1 : w4.cell? ⟨gE, oE + (k + 1), none⟩ = some (.int .i64 s.t) := hg4.cell ((World.cell?_alloc_lt V _ ⟨gE, oE + (k + 1), none⟩ (by show gE < _; omega)).trans k1) (fun e => by have := (hownV.lt gE e.symm).1; omega)))
      go_wp2_with fail
      have hbf := (hbV.alloc hbV.size (.cells #[.int .i64 (d : Int), .int .i64 s.t, .int .i64 sm, .int .i64 3] 306)).drew.grown hg4 (by simp; omega) (fun g e => (hownV.lt g e).1)
      obtain ⟨A5, c5, rfl, _, _, _⟩ := own_form hown4
      go_roundw
      case rel => exact ⟨k + 1, m + 1, c5, A5, by omega, by go_num, rfl, HI2, by rw [HST.out]; exact hown4, hbf⟩
      case measure => simp [intOf]; omega
   ·have hlw := fun u hu => law_out (c := c4) (rc := rc) (w := u) hd (HW.out u hu).1 HLC.out.1 HLC.out.2.1 HLC.out.2.2.1 HLC.out.2.2.2.1 h6 (HW.out u hu).2 HLC.out.2.2.2.2 hno
    unfold lifV at hlw
    have HLW := Lib.hid hlw
    have HI2 := Lib.hid hI2
    clear hlw hI2 hno HCS
    go_upto_region 9 with (fail)
    go_region_held3 (fun w' => (w'.cell? ⟨Q, 0, none⟩ = some (.slice A4 n c4) /\ w'.cell? ⟨Q, 1, none⟩ = some (.int .i64 0) /\ w'.cell? ⟨Q, 2, none⟩ = some (.int .i64 73049) /\ w'.cell? ⟨Q, 3, none⟩ = some (.slice none 0 0) /\ w'.cell? ⟨Q, 4, none⟩ = some (.slice RA 1 rc)) /\ w'.cell? ⟨gE, oE + k, none⟩ = some (.int .i64 (d : Int))) (first | exact ⟨HB.out _ hb, q0⟩ | exact ⟨HB.out _ hb.drew, q0⟩ | exact ⟨HB.out _ hb3, q3⟩) (first
     | (go_at_call 187; (with_reducible refine (HLW.out _ hb.drew).mono ?_); rintro e w3 ⟨rfl, b3⟩
        have hb3 : Below w2.heap.size w2 w3 := hb.drew.trans (b3.mono hwsz)
        obtain ⟨_, _, eA, _, q3, q4⟩ := HCQ.out w3 hb3
        injection eA with eA
        injection eA with eA1 eA2
        subst eA1 eA2))
    have hown3 : w3.ownsRow w2.heap.size 306 4 (.slice A1 m c1) m (flat Pr.ccells (sgm 0 (ws.take m))) := own_underF (w := wr.drew) hown b3
    go_wp2_with fail
    go_roundw
    case rel => exact ⟨k + 1, m, c1, A1, by omega, by go_num, rfl, HI2, hown3, hb3⟩
    case measure => simp [intOf]; omega
  ·have hend := lwi_end HLC.out.2.2.1 HLC.out.2.2.2.1 HC.out hI.out (by have := HQ.out; omega)
   have hm := hown.1
   rw [hend] at hown
   have hml : (sgm 0 ws).length = m := by
    have h1 := sgm_length 0 (ws.take m)
    rw [hend] at h1
    rw [flat_length pc_len, sgm_length, List.length_take] at hm
    have := hI.out.1
    rw [sgm_length]
    have h2 := congrArg List.length hend
    rw [List.length_take] at h2
    omega
   go_wp2_with fail
   go_ret
   exact ⟨A1, m, c1, rfl, hml, ownsRow_base hown hz2, hbw2.trans (hb.mono hz2)⟩
end
section
theorem nf_one {S : Int -> Bool} {p : Sp} (h0 : 0 <= p.f) (h1 : p.f < p.t) (h2 : p.t <= 73049) (hS : ∀ x, isD x = true -> S x = inS p x) : nf S = [p] :=
 (nf_unique (m := [p]) (show NormFrom (-1) [p] from ⟨by omega, h1, h2, trivial⟩) fun x hx => by rw [hS x hx, cov_cons, cov_nil, Bool.or_false]).symm
theorem nf_none {S : Int -> Bool} (hS : ∀ x, isD x = true -> S x = false) : nf S = [] := by rw [nf_congr (T := fun _ => false) hS, nf_empty]
theorem sgm_rule {ws : List Sp} : ∀ {i : Nat} {x : Pr}, x ∈ sgm i ws -> x.r = 3 := by
 induction ws with
 | nil => intro i x hx; cases hx
 | cons s r ih =>
  intro i x hx
  rw [sgm] at hx
  rcases List.mem_cons.1 hx with rfl | hx
  ·rfl
  ·exact ih hx
theorem under_any {A : Option Addr} {n c : Nat} {C : List Pr} {w : World} (s : Int) (h : Rd w w.heap.size 4 A n (flat Pr.ccells C)) (hn : C.length = n) (hn2 : n <= 5000) (hr3 : ∀ x ∈ C, x.r = 3) :
  Calls Tryz.prog 179 #[.slice A n c, .int .i64 s, .int .i64 3] w (RetNf w (Dd C s 0)) := by
 rw [show Dd C s 0 = dset (ofL C s 0) from rfl]
 obtain ⟨i0, hi0, hz0, hz1, hz2⟩ := info_parts info_span
 have HN := Lib.hid hn
 have HR3 := Lib.hid hr3
 clear hn hr3
 go_enter Tryz.func179, Tryz.ntmps179
 go_wp2_with fail
 go_loopw [7, 12] (fun v i wr => ∃ k : Nat, k <= n /\ i = .int .i64 (k : Int) /\ wr.ownsRow w.heap.size 32 2 v (ofL (C.take k) s 0).length (flat Sp.cells (ofL (C.take k) s 0)) /\ Below w.heap.size w wr) (fun _ i _ => n - (intOf i).toNat)
 case atStart => exact ⟨0, by omega, rfl, World.ownsRow_nil _ _ _ _, Below.refl _ _⟩
 case round =>
  obtain ⟨k, hk, rfl, hown, hb⟩ := hrel
  have hwsz := hb.size
  have hol := ofL_length (C.take k) s 0
  have htl : (C.take k).length <= n := by rw [List.length_take]; omega
  obtain ⟨A1, c1, rfl, hnc1, hcm1, hA1⟩ := own_form hown
  by_cases hlt : k < n
  ·have hkl : k < C.length := by rw [HN.out]; exact hlt
   obtain ⟨x, hx⟩ : ∃ x, C[k]? = some x := ⟨_, List.getElem?_eq_getElem hkl⟩
   obtain ⟨_, g, o, rfl, hgb, hc⟩ := (h.below hb).elem pc_len hx (by omega)
   have e0 : wr.cell? ⟨g, o + k * 4, none⟩ = some (.int .i64 x.f) := hc 0 _ rfl
   have e1 : wr.cell? ⟨g, o + k * 4 + 1, none⟩ = some (.int .i64 x.t) := hc 1 _ rfl
   have e2 : wr.cell? ⟨g, o + k * 4 + 2, none⟩ = some (.int .i64 x.s) := hc 2 _ rfl
   have e3 : wr.cell? ⟨g, o + k * 4 + 3, none⟩ = some (.int .i64 3) := by rw [<- HR3.out x (List.mem_of_getElem? hx)]; exact hc 3 _ rfl
   have hst := ofL_take hx s 0
   have HST := Lib.hid hst
   have hlo : (0 : Int) <= (k : Int) := by omega
   have hhi : (k : Int) < (n : Int) := by omega
   clear hx hc hst
   generalize ofL (C.take k) s 0 = O at *
   go_upto_region 5 with (fail)
   obtain ⟨W, hW, bW, rW⟩ := box_new wr (.cells #[.int .i64 x.f, .int .i64 x.t, .int .i64 x.s, .int .i64 3] 306)
   have hownA := hown.kept (row := none) (grownBy_of_below bW none) (Classical.em _)
   rw [hW]
   clear hW
   have s0 : W.cell? ⟨wr.heap.size, 0, none⟩ = some (.int .i64 x.f) := by rw [cell_of_row _ _ _ _ _ _ rW]; rfl
   have s1 : W.cell? ⟨wr.heap.size, 1, none⟩ = some (.int .i64 x.t) := by rw [cell_of_row _ _ _ _ _ _ rW]; rfl
   have s2 : W.cell? ⟨wr.heap.size, 2, none⟩ = some (.int .i64 x.s) := by rw [cell_of_row _ _ _ _ _ _ rW]; rfl
   have s3 : W.cell? ⟨wr.heap.size, 3, none⟩ = some (.int .i64 3) := by rw [cell_of_row _ _ _ _ _ _ rW]; rfl
   have hbw := hb.trans (bW.mono hwsz)
   have hzw := hbw.size
   clear e0 e1 e2 e3 hown hb rW bW
   by_cases hs : x.s = s
   ·have b1 : (x.s == s) = true := beq_iff_eq.2 hs
    have HS2 : Hid (ofL (C.take (k + 1)) s 0 = O ++ [⟨x.f, x.t⟩]) := by have := HST.out; rw [if_pos ⟨hs, .inl rfl⟩] at this; exact this
    have e4 : flat Sp.cells (O ++ [Sp.mk x.f x.t]) = flat Sp.cells O ++ [.int .i64 x.f, .int .i64 x.t] := by rw [flat_append, flat_one]; rfl
    have e5 : (O ++ [Sp.mk x.f x.t]).length = O.length + 1 := by simp
    have E4 := Lib.hid e4
    have E5 := Lib.hid e5
    clear e4 e5 hs HST
    go_wp2_with (at_builtin; go_loud (refine wpList_append_rd (by rfl) (.tmp 26) (.tmp 29) 180 (by rfl) w.heap.size 32 i0 _ 2 16 Tryz.underlying180 hi0 hz0 hz1 hz2 rfl (by omega) _ O.length (flat Sp.cells O) (by rfl) (hownA.alloc _) (W.heap.size + 1) (some ⟨W.heap.size, 0, none⟩) 1 1 [.int .i64 x.f, .int .i64 x.t] (by rfl) (Rd.built (heap_alloc_new W _) (by omega) rfl) (by intro u hu; simp at hu; rcases hu with rfl | rfl <;> rfl) (by unfold maxLen; omega) (by omega) (by simp; omega) ?_); intro v4 w4 hown4 hg4 hat4)
    have hb4 := (hbw.alloc hzw (.cells #[.int .i64 x.f, .int .i64 x.t] 32)).grown hg4 (by simp; omega) (fun g e => (hownA.lt g e).1)
    go_roundw
    case rel => exact ⟨k + 1, by omega, by go_num, by rw [HS2.out, E4.out, E5.out]; exact hown4, hb4⟩
    case measure => simp [intOf]; omega
   ·have b1 : (x.s == s) = false := beq_eq_false_iff_ne.2 hs
    have HS2 : Hid (ofL (C.take (k + 1)) s 0 = O) := by have := HST.out; rw [if_neg (fun e => hs e.1), List.append_nil] at this; exact this
    clear hs HST
    go_wp2_with fail
    go_roundw
    case rel => exact ⟨k + 1, by omega, by go_num, by rw [HS2.out]; exact hownA, hbw⟩
    case measure => simp [intOf]; omega
  ·have hkN : C.take k = C := List.take_of_length_le (by have := HN.out; omega)
   rw [hkN] at hown hol ⊢
   clear htl hkN
   go_wp2_with fail
   refine (make_nf (l := ofL C s 0) (Ds.ofOwn hown rfl) (by have := HN.out; omega)).mono ?_
   rintro e w5 ⟨A5, c5, rfl, hown5, hb5⟩
   go_wp2_with fail
   go_ret
   exact ⟨A5, c5, rfl, ownsRow_base hown5 hwsz, hb.trans (hb5.mono hwsz)⟩
def crK : List (Int × Int) := [(6, 2), (9, 3), (7, 4), (8, 5), (10, 6), (5, 7)]
def crCells (p : Int × Int) : List Value := [.int .i64 p.1, .int .i64 p.2]
theorem cr_len (p : Int × Int) : (crCells p).length = 2 := rfl
abbrev crBoxes : Obj := .cells (flat crCells crK).toArray 293
theorem credited_any (w : World) : Calls Tryz.prog 180 #[] w fun e w' => e = .returned (.slice (some ⟨w.heap.size, 0, none⟩) 6 6) /\ w'.heap[w.heap.size]? = some crBoxes /\ Below w.heap.size w w' := by
 obtain ⟨W, hW, bW, rW⟩ : ∃ W, w.alloc (.cells #[.int .i64 6, .int .i64 2, .int .i64 9, .int .i64 3, .int .i64 7, .int .i64 4, .int .i64 8, .int .i64 5, .int .i64 10, .int .i64 6, .int .i64 5, .int .i64 7] 293) = W /\ Below w.heap.size w W /\ W.heap[w.heap.size]? = some crBoxes :=
  ⟨_, rfl, (Below.refl _ _).alloc (Nat.le_refl _) _, heap_alloc_new w _⟩
 have HH := Lib.hid (show W.heap[w.heap.size]? = some crBoxes /\ Below w.heap.size w W from ⟨rW, bW⟩)
 clear bW rW
 go_enter Tryz.func180, Tryz.ntmps180
 go_wp2_with fail
 go_ret
 exact ⟨rfl, HH.out⟩
theorem cr_cells {w : World} {g j : Nat} {p : Int × Int} (h : w.heap[g]? = some crBoxes) (hj : crK[j]? = some p) : w.cell? ⟨g, j * 2, none⟩ = some (.int .i64 p.1) /\ w.cell? ⟨g, j * 2 + 1, none⟩ = some (.int .i64 p.2) := by
 refine ⟨?_, ?_⟩
 ·rw [cell_of_row _ _ _ _ _ _ h, List.getElem?_toArray]
  exact flat_get cr_len crK j 0 p hj (by omega)
 ·rw [cell_of_row _ _ _ _ _ _ h, List.getElem?_toArray]
  exact flat_get cr_len crK j 1 p hj (by omega)
end
section
def oV (ws : List Sp) (i j : Nat) : Value := .int .i64 (if j < i then dW ws j else 0)
def gV (ws : List Sp) (md : Int) (i j : Nat) : Value := .bool (if j < i then fW ws md j else false)
def totA (ws : List Sp) (md : Int) (i : Nat) : List Value :=
 [oV ws i 0, oV ws i 1, oV ws i 2, oV ws i 3, oV ws i 4, oV ws i 5, gV ws md i 0, gV ws md i 1, gV ws md i 2, gV ws md i 3, gV ws md i 4, gV ws md i 5, .int .i64 (sT ws i), .int .i64 (bT ws md i), .int .i64 (lT ws i)]
def tot1 (ws : List Sp) (md : Int) (i : Nat) : List Value := (totA ws md i).set i (.int .i64 (dW ws i))
def tot2 (ws : List Sp) (md : Int) (i : Nat) : List Value := (tot1 ws md i).set (6 + i) (.bool (fW ws md i))
def tot3 (ws : List Sp) (md : Int) (i : Nat) : List Value := (tot2 ws md i).set 12 (.int .i64 (sT ws (i + 1)))
def tot4 (ws : List Sp) (md : Int) (i : Nat) : List Value := (tot3 ws md i).set 13 (.int .i64 (bT ws md (i + 1)))
theorem tot_step (ws : List Sp) (md : Int) : ∀ i : Nat, i < 6 -> (tot4 ws md i).set 14 (.int .i64 (lT ws (i + 1))) = totA ws md (i + 1)
 | 0, _ => rfl | 1, _ => rfl | 2, _ => rfl | 3, _ => rfl | 4, _ => rfl | 5, _ => rfl
theorem tot_a (ws : List Sp) (md : Int) : ∀ i : Nat, i < 6 -> (totA ws md i)[i]? = some (.int .i64 0)
 | 0, _ => rfl | 1, _ => rfl | 2, _ => rfl | 3, _ => rfl | 4, _ => rfl | 5, _ => rfl
theorem tot_1 (ws : List Sp) (md : Int) : ∀ i : Nat, i < 6 -> (tot1 ws md i)[i]? = some (.int .i64 (dW ws i)) /\ (tot1 ws md i)[6 + i]? = some (.bool false)
 | 0, _ => ⟨rfl, rfl⟩ | 1, _ => ⟨rfl, rfl⟩ | 2, _ => ⟨rfl, rfl⟩ | 3, _ => ⟨rfl, rfl⟩ | 4, _ => ⟨rfl, rfl⟩ | 5, _ => ⟨rfl, rfl⟩
theorem tot_2 (ws : List Sp) (md : Int) : ∀ i : Nat, i < 6 -> (tot2 ws md i)[i]? = some (.int .i64 (dW ws i)) /\ (tot2 ws md i)[12]? = some (.int .i64 (sT ws i))
 | 0, _ => ⟨rfl, rfl⟩ | 1, _ => ⟨rfl, rfl⟩ | 2, _ => ⟨rfl, rfl⟩ | 3, _ => ⟨rfl, rfl⟩ | 4, _ => ⟨rfl, rfl⟩ | 5, _ => ⟨rfl, rfl⟩
theorem tot_3 (ws : List Sp) (md : Int) : ∀ i : Nat, i < 6 -> (tot3 ws md i)[i]? = some (.int .i64 (dW ws i)) /\ (tot3 ws md i)[6 + i]? = some (.bool (fW ws md i)) /\ (tot3 ws md i)[13]? = some (.int .i64 (bT ws md i))
 | 0, _ => ⟨rfl, rfl, rfl⟩ | 1, _ => ⟨rfl, rfl, rfl⟩ | 2, _ => ⟨rfl, rfl, rfl⟩ | 3, _ => ⟨rfl, rfl, rfl⟩ | 4, _ => ⟨rfl, rfl, rfl⟩ | 5, _ => ⟨rfl, rfl, rfl⟩
theorem tot_4 (ws : List Sp) (md : Int) : ∀ i : Nat, i < 6 -> (tot4 ws md i)[14]? = some (.int .i64 (lT ws i))
 | 0, _ => rfl | 1, _ => rfl | 2, _ => rfl | 3, _ => rfl | 4, _ => rfl | 5, _ => rfl
theorem set_same {α : Type} : ∀ {l : List α} {i : Nat} {v : α}, l[i]? = some v -> l.set i v = l
 | [], _, _, h => by simp at h
 | a :: r, 0, v, h => by
  obtain rfl := Option.some.inj h
  rfl
 | a :: r, i + 1, v, h => by
  rw [List.set_cons_succ, set_same (by simpa using h)]
theorem tot_3f {ws : List Sp} {md : Int} {i : Nat} (hi : i < 6) (h : fW ws md i = true) : tot3 ws md i = tot4 ws md i := by
 have e : bT ws md (i + 1) = bT ws md i := by show (if fW ws md i then _ else _) = _; rw [h]; rfl
 unfold tot4
 rw [e]
 exact (set_same (tot_3 ws md i hi).2.2).symm
theorem tot_4f {ws : List Sp} {md : Int} {i : Nat} (hi : i < 6) (h : lT ws (i + 1) = lT ws i) : tot4 ws md i = totA ws md (i + 1) := by
 rw [<- tot_step ws md i hi, h]
 exact (set_same (tot_4 ws md i hi)).symm
theorem tot_one (ws : List Sp) (md : Int) (i : Nat) : ∀ u ∈ totA ws md i, u.oneCell' = true := by
 intro u hu
 simp only [totA, List.mem_cons, List.not_mem_nil, or_false] at hu
 rcases hu with rfl | rfl | rfl | rfl | rfl | rfl | rfl | rfl | rfl | rfl | rfl | rfl | rfl | rfl | rfl <;> rfl
theorem setRowQ {w u : World} {old : Array Value} {t : TypeId} (cs : Array Value) (hb : Below w.heap.size w u) (h : u.heap[w.heap.size]? = some (.cells old t (0, 0))) : (u.setRow w.heap.size cs).heap[w.heap.size]? = some (.cells cs t (0, 0)) /\ Below w.heap.size w (u.setRow w.heap.size cs) :=
 ⟨setRow_heap u _ old cs t _ h, ⟨hb.os, hb.tape, hb.output, by rw [setRow_size]; exact hb.size, fun i hi => (setRow_other u _ i cs (by omega)).trans (hb.block i hi)⟩⟩
theorem toList_le1 {α : Type} (o : Option α) : o.toList.length <= 1 := by cases o <;> simp
theorem row_set {w : World} {g i : Nat} {l : List Value} {t : TypeId} (v : Value) (h : w.heap[g]? = some (.cells l.toArray t (0, 0))) : (w.setCell ⟨g, i, none⟩ v).heap[g]? = some (.cells (l.set i v).toArray t (0, 0)) := by
 rw [heap_setCell_same w g i _ t v h]
 simp
theorem row_cell {w : World} {g i : Nat} {l : List Value} {t : TypeId} {v : Value} (h : w.heap[g]? = some (.cells l.toArray t (0, 0))) (hv : l[i]? = some v) : w.cell? ⟨g, i, none⟩ = some v := by
 rw [cell_of_row _ _ _ _ _ _ h, List.getElem?_toArray]
 exact hv
theorem RetNf.nil0 {w w' : World} {S : Int -> Bool} {e : Ending} (h : RetNf w S e w') (hS : nf S = []) : ∃ A c, e = .returned (.slice A 0 c) /\ Below w.heap.size w w' := by
 unfold RetNf at h
 rw [hS] at h
 obtain ⟨A, c, he, _, hb⟩ := h
 exact ⟨A, c, he, hb⟩
theorem RetNf.one0 {w w' : World} {S : Int -> Bool} {e : Ending} {p : Sp} (h : RetNf w S e w') (hS : nf S = [p]) : ∃ A c, e = .returned (.slice A 1 c) /\ w'.ownsRow w.heap.size 32 2 (.slice A 1 c) 1 (flat Sp.cells [p]) /\ Below w.heap.size w w' := by
 unfold RetNf at h
 rw [hS] at h
 exact h
theorem last_nil (A : Option Addr) (c : Nat) (w : World) : Calls Tryz.prog 81 #[.slice A 0 c] w fun e w' => e = .returned (.tuple #[.int .i64 0, .bool false]) /\ Below w.heap.size w w' := by
 have h := last_any (A := A) (n := 0) (c := c) (l := []) (w := w) ⟨Rd.zero _ _ _ _, rfl⟩ (by omega)
 rw [nf_none (S := dset []) (fun x _ => by simp [dset, cov])] at h
 exact h
theorem last_p {A : Option Addr} {c : Nat} {p : Sp} {w : World} (h : Rd w w.heap.size 2 A 1 (flat Sp.cells [p])) (h0 : 0 <= p.f) (h1 : p.f < p.t) (h2 : p.t <= 73049) : Calls Tryz.prog 81 #[.slice A 1 c] w fun e w' => e = .returned (.tuple #[.int .i64 (p.t - 1), .bool true]) /\ Below w.heap.size w w' := by
 have h := last_any (A := A) (n := 1) (c := c) (l := [p]) (w := w) ⟨h, rfl⟩ (by omega)
 rw [nf_one (S := dset [p]) h0 h1 h2 (fun x hx => by rw [dset, hx, cov_cons, cov_nil, Bool.or_false, Bool.true_and])] at h
 exact h
end
end Go.Proofs.YtnlopdmhdiegnaaGreatDoor
