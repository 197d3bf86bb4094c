/- Lemmas (no conditions): Cvd, Erg, Erh -/
import Derived.Test.YtnlopdmhdiegnaaGreatDoorPk40
import Derived.Test.YtnlopdmhdiegnaaGreatDoorSx
set_option linter.unusedSimpArgs false
set_option linter.unusedVariables false
set_option maxRecDepth 100000
set_option maxHeartbeats 64000000
namespace Go.Proofs.YtnlopdmhdiegnaaGreatDoor
open Go.RowKit
section
def RetCm (w : World) (C : List Pr) (e : Ending) (w' : World) : Prop := ∃ A c, e = .returned (.tuple #[.slice A C.length c, .int .i64 0]) /\ w'.ownsRow w.heap.size 288 4 (.slice A C.length c) C.length (flat Pr.cells C) /\ Below w.heap.size w w'
theorem RetNf.nil {w w' : World} {S : Int -> Bool} {e : Ending} (h : RetNf w S e w') (hS : nf S = []) : ∃ A c, e = .returned (.slice A 0 c) /\ Below w.heap.size w w' := by
 unfold RetNf at h
 rw [hS] at h
 obtain ⟨A, c, he, _, hb⟩ := h
 exact ⟨A, c, he, hb⟩
theorem claims_any {A SA LA : Option Addr} {n c m lc k sc d : Nat} {L : List Fc} {ws : List Sp} {Y : List Sc} {D : Sd} {lo : Int} {w : World} (hL : Rd w w.heap.size 14 A n (flat Fc.cells L)) (hl : L.length = n) (hW : Wks ws L) (h0 : 0 <= lo) (hw : WOk lo ws) (h6 : ws.length <= 6)
  (hS : Rd w w.heap.size 4 LA m (flat Pr.ccells (sgm 0 ws))) (hm : ws.length = m) (hY : SchR w w.heap.size D SA k Y) (hk : k <= 6) (hwk : ws.length <= k) (hd : d <= 73049) (hwd : ∀ s ∈ ws, s.t <= (d : Int)) :
  Calls Tryz.prog 120 #[.slice A n c, .slice LA m lc, .slice SA k sc, .int .i64 (d : Int)] w (RetCm w (clm 0 ws)) := by
 have hun := fun (u : World) (hu : Below w.heap.size w u) (i : Nat) => under_any (c := lc) (i : Int) ((hS.below hu).mono hu.size) (by rw [sgm_length]; exact hm) (by omega) (fun x hx => sgm_rule hx)
 have hno := fun (u : World) (hu : Below w.heap.size w u) (kd st : Int) (hkd : kd ≠ 1) => spans_no (c := c) kd st hkd ((hL.below hu).mono hu.size) hl (hW.wkl h0 hw h6) (by rw [<- hl, hW.1]; omega)
 have HUN := hID hun
 have HNO := hID hno
 have HSG := hID (sgm_dd h0 hw)
 have HSC := hID (sgm_clip h0 hw hwd)
 have HY := hID hY
 have q1 : decide ((d : Int) < 0) = false := decide_eq_false (by omega)
 have q2 : decide ((73049 : Int) < (d : Int)) = false := decide_eq_false (by omega)
 clear hun hno hl hW h0 hw hS hm hwd hL hY
 go_enter Tryz.func120, Tryz.ntmps120
 go_wp2_with fail
 go_loopw [30] (fun i wr => ∃ (j : Nat), j <= k /\ i = .int .i64 (j : Int) /\ Below w.heap.size w wr) (fun i _ => k - (intOf i).toNat)
 case atStart => exact ⟨0, by omega, rfl, bRf⟩
 case round =>
  obtain ⟨j, hj, rfl, hb⟩ := hrel
  have hwsz := hb.size
  by_cases hlt : j < k
  ·obtain ⟨x, hx⟩ : ∃ x, Y[j]? = some x := ⟨_, List.getElem?_eq_getElem (by rw [HY.out.len]; exact hlt)⟩
   have hYb := HY.out.below hb
   have hst := hYb.st j x hx
   obtain ⟨_, g, o, rfl, hgb, e0, e1, e2, e3, e4, e5, e6, e7, e8⟩ := sc_cells hYb.rd hx
   rw [hst] at e0
   have hprev : 0 < j -> wr.cell? ⟨g, o + (j - 1) * 9, none⟩ = some (.int .i64 ((j : Int) - 1)) := fun hj0 => by
    obtain ⟨z, hz⟩ : ∃ z, Y[j - 1]? = some z := ⟨_, List.getElem?_eq_getElem (by rw [HY.out.len]; omega)⟩
    obtain ⟨_, g', o', eA, _, f0, _⟩ := sc_cells hYb.rd hz
    injection eA with eA
    injection eA with eA1 eA2
    subst eA1 eA2
    have e : z.s = (j : Int) - 1 := by rw [hYb.st _ _ hz]; omega
    rw [<- e]
    exact f0
   have HPV := hID hprev
   have hlo : (0 : Int) <= (j : Int) := by omega
   have hhi : (j : Int) < (k : Int) := by omega
   have hj6 : decide ((6 : Int) <= (j : Int)) = false := decide_eq_false (by omega)
   have hj7 : decide ((j : Int) < 0) = false := decide_eq_false (by omega)
   have hj8 : decide ((j : Int) <= (j : Int) - 1) = false := decide_eq_false (by omega)
   clear hprev hx hst hYb
   go_upto_region 6 with (fail)
   obtain ⟨W, hW, bW, rW⟩ := box_new wr (scBox (j : Int) x.y)
   dsimp only [scBox] at hW
   rw [hW]
   clear hW
   obtain ⟨f0, f1, f2, f3, f4, f5, f6, f7, f8⟩ := scbox rW
   have hbw := hb.trans (bW.mono hwsz)
   clear e0 e1 e2 e3 e4 e5 e6 e7 e8 rW
   by_cases hj0 : 0 < j
   ·have pv := (bW.cell (p := ⟨g, o + (j - 1) * 9, none⟩) (by show g < _; omega)).trans (HPV.out hj0)
    have hm1 : (0 : Int) < (j : Int) := by omega
    have hm2 : (0 : Int) <= (j : Int) - 1 := by omega
    have hm3 : (j : Int) - 1 < (k : Int) := by omega
    have hm4 : ((j : Int) - 1).toNat = j - 1 := by omega
    go_quiet (fail)
    go_wp2_with fail
    go_roundw
    case rel => exact ⟨j + 1, by omega, by go_num, below_drewN hbw nq⟩
    case measure => simp [intOf]; omega
   ·have hm1 : decide ((0 : Int) < (j : Int)) = false := decide_eq_false (by omega)
    have hm5 : ¬ (0 : Int) < (j : Int) := by omega
    go_quiet (fail)
    go_wp2_with fail
    go_roundw
    case rel => exact ⟨j + 1, by omega, by go_num, below_drewN hbw nq⟩
    case measure => simp [intOf]; omega
  ·go_upto_region 11 with (fail)
   obtain ⟨V1, hV1, b1, r1⟩ := box_new wr (.cells #[.slice none 0 0] 224)
   have hz1 : V1.heap.size = wr.heap.size + 1 := by rw [<- hV1]; simp
   rw [hV1]
   obtain ⟨V2, hV2, b2, r2⟩ := box_new V1 (.cells #[.int .i64 0, .int .i64 (d : Int)] 32)
   have hz2 : V2.heap.size = V1.heap.size + 1 := by rw [<- hV2]; simp
   rw [hV2]
   have r12 := (b2.block _ (gis r1).1).trans r1
   rw [hz1] at r2
   have hbV := hb.trans ((b1.trans (b2.mono (by omega))).mono hwsz)
   have hP0 : Po V2 w.heap.size wr.heap.size [] := ⟨none, 0, r12, World.ownsRow_nil _ _ _ _⟩
   have hzV : wr.heap.size + 2 <= V2.heap.size := by omega
   clear hV1 hV2 r1 r12 b1 b2 hz1 hz2 hb
   generalize wr.heap.size = O at *
   go_wp2_with fail
   go_loopw [63] (fun i wx => ∃ (j : Nat), j <= k /\ i = .int .i64 (j : Int) /\ Po wx w.heap.size O (clm 0 (ws.take j)) /\ Kt O V2 wx /\ Below w.heap.size w wx) (fun i _ => k - (intOf i).toNat)
   case atStart => exact ⟨0, by omega, rfl, hP0, Kt.refl _ _, hbV⟩
   case round =>
    obtain ⟨i, hi, rfl, hP, hK, hb⟩ := hrel
    have hxz := hb.size
    have hPO : O < wr.heap.size := by
     obtain ⟨_, _, hPo, _⟩ := hP
     exact (gis hPo).1
    by_cases hlt : i < k
    ·obtain ⟨x, hx⟩ : ∃ x, Y[i]? = some x := ⟨_, List.getElem?_eq_getElem (by rw [HY.out.len]; exact hlt)⟩
     have hst := HY.out.st i x hx
     have HXM := hID (List.mem_of_getElem? hx)
     obtain ⟨_, g, o, rfl, hgb, e0, e1, e2, e3, e4, e5, e6, e7, e8⟩ := sc_cells (HY.out.below hb).rd hx
     rw [hst] at e0
     have hlo : (0 : Int) <= (i : Int) := by omega
     have hhi : (i : Int) < (k : Int) := by omega
     have hPl : (clm 0 (ws.take i)).length <= 1000 := by rw [clm_length, List.length_take]; omega
     have hun := fun u hu => HUN.out u hu i
     have HUI := hID hun
     have HSGI := hID (HSG.out i)
     have HSCI := hID (HSC.out i)
     have HTK := hID (clm_take (ws := ws) i)
     have hll := toList_le (ws[i]?)
     generalize (ws[i]?).toList = l at *
     clear hx hst hun
     go_upto_region 14 with (fail)
     obtain ⟨W, hW, bW, rW⟩ := box_new wr (scBox (i : Int) x.y)
     dsimp only [scBox] at hW
     rw [hW]
     clear hW e0 e1 e2 e3 e4 e5 e6 e7 e8
     have lX := (gis rW).1
     have hbw := hb.trans (bW.mono hxz)
     have hPW := hP.below bW
     have hKW : Kt O V2 W := hK.trans (Kt.below bW)
     have hPd : Po W.drew w.heap.size O (clm 0 (ws.take i)) := hPW
     have hrows : ∀ u, Kt O W u -> (u.cell? ⟨O + 1, 0, none⟩ = some (.int .i64 0) /\ u.cell? ⟨O + 1, 1, none⟩ = some (.int .i64 (d : Int))) /\ u.heap[wr.heap.size]? = some (scBox (i : Int) x.y) := fun u hu => by
      have hp := (hKW.trans hu) (O + 1) _ _ _ r2 (by decide) (by omega)
      refine ⟨⟨?_, ?_⟩, hu _ _ _ _ rW (by decide) (by omega)⟩ <;> rw [cOr hp] <;> rfl
     have HR := hID hrows
     clear hrows hP hK hb rW
     generalize hXg : wr.heap.size = X at *
     clear hXg
     obtain ⟨⟨p0, p1⟩, rX⟩ := HR.out W (Kt.refl _ _)
     obtain ⟨f0, f1, f2, f3, f4, f5, f6, f7, f8⟩ := scbox rX
     go_upto_region 15 with (fail)
     go_region_held3 (fun w' => (w'.cell? ⟨O + 1, 0, none⟩ = some (.int .i64 0) /\ w'.cell? ⟨O + 1, 1, none⟩ = some (.int .i64 (d : Int))) /\ w'.cell? ⟨X, 0, none⟩ = some (.int .i64 (i : Int))) (first | exact ⟨⟨p0, p1⟩, f0⟩ | exact ⟨(HR.out _ hk4).1, (scbox (HR.out _ hk4).2).1⟩ | exact ⟨(HR.out _ hk5).1, (scbox (HR.out _ hk5).2).1⟩ | exact ⟨(HR.out _ hk6).1, (scbox (HR.out _ hk6).2).1⟩) (first
      | (go_at_call 179; (refine (HUI.out _ hbw.drew).mono ?_); intro e w4 hr4
         unfold RetNf at hr4
         rw [HSGI.out] at hr4
         obtain ⟨A1, c1, rfl, ho1, hb4⟩ := hr4
         have hk4' : Kt O W.drew w4 := Kt.below hb4
         have hk4 : Kt O W w4 := hk4')
      | (go_at_call 136; (with_reducible refine (clip_any 0 (d : Int) (Ds.ofOwn ho1 rfl) (by omega)).mono ?_); intro e w5 hr5
         unfold RetNf at hr5
         rw [HSCI.out] at hr5
         obtain ⟨A2, c2, rfl, ho2, hb5⟩ := hr5
         have hk5 : Kt O W w5 := hk4.trans (Kt.below hb5))
      | (go_at_call 178; (with_reducible refine (claim_any 1 (i : Int) hll (Rd.ofOwn ho2) (scbox (HR.out _ hk5).2).1 (lLt lX (lTr hb4.size hb5.size)) ((hPd.below hb4).below hb5) hPl (by omega)).mono ?_); rintro e w6 ⟨rfl, hP6, hk56, hb6⟩
         have hk6 : Kt O W w6 := hk5.trans hk56))
     have hbw4 := hbw.drew.trans (hb4.mono hbw.size)
     have hbw5 := hbw4.trans (hb5.mono hbw4.size)
     have hbw6 := hbw5.trans hb6
     have hz6 : W.heap.size <= w6.heap.size := lTr (lTr hb4.size hb5.size) hb6.size
     rw [<- HTK.out] at hP6
     rename_i hHeld
     clear hHeld hb4 hb5 hb6 hbw4 hbw5 ho1 ho2 hk4' hk4 hk5 hk56 hbw hPW hPd p0 p1 rX f0 f1 f2 f3 f4 f5 f6 f7 f8 bW
     go_wp2_with fail
     refine (credited_any _).mono ?_
     rintro e w7 ⟨rfl, rG, hb7⟩
     have hP7 := hP6.below hb7
     have hk7 : Kt O W w7 := hk6.trans (Kt.below hb7)
     have hbw7 := hbw6.trans (hb7.mono hbw6.size)
     have hrow7 : ∀ u, Kt O w7 u -> (u.cell? ⟨O + 1, 0, none⟩ = some (.int .i64 0) /\ u.cell? ⟨O + 1, 1, none⟩ = some (.int .i64 (d : Int))) /\ u.heap[X]? = some (scBox (i : Int) x.y) /\ u.heap[w6.heap.size]? = some crBoxes := fun u hu =>
      ⟨(HR.out u (hk7.trans hu)).1, (HR.out u (hk7.trans hu)).2, hu _ _ _ _ rG (by decide) (by omega)⟩
     have HR7 := hID hrow7
     have hk72 : Kt O V2 w7 := hKW.trans hk7
     clear hrow7 rG hP6 hk6 hbw6 hb7 hKW hk7 hz6 HTK HUI HSGI HSCI
     generalize w6.heap.size = G at *
     go_wp2_with fail
     go_loopw [78] (fun i3 wy => ∃ (q : Nat), q <= 6 /\ i3 = .int .i64 (q : Int) /\ Po wy w.heap.size O (clm 0 (ws.take (i + 1))) /\ Kt O w7 wy /\ Below w.heap.size w wy) (fun i3 _ => 6 - (intOf i3).toNat)
     case atStart => exact ⟨0, by omega, rfl, hP7, Kt.refl _ _, hbw7⟩
     case round =>
      obtain ⟨q, hq, rfl, hP, hK, hb⟩ := hrel
      have hyz := hb.size
      by_cases hlt3 : q < 6
      ·obtain ⟨⟨kd, rk⟩, hp⟩ : ∃ p, crK[q]? = some p := ⟨_, List.getElem?_eq_getElem (show q < crK.length from hlt3)⟩
       obtain ⟨_, _, rG⟩ := HR7.out _ hK
       obtain ⟨e0, e1⟩ := cr_cells rG hp
       dsimp only at e0 e1
       have hlo3 : (0 : Int) <= (q : Int) := by omega
       have hhi3 : (q : Int) < 6 := by omega
       clear hp rG
       go_upto_region 19 with (fail)
       obtain ⟨W8, hW8, b8, r8⟩ := box_new wr (.cells #[.int .i64 kd, .int .i64 rk] 293)
       rw [hW8]
       clear hW8 e0 e1
       have l8 := (gis r8).1
       have hb8 := hb.trans (b8.mono hyz)
       have hP8 := hP.below b8
       have hK8 : Kt O w7 W8 := hK.trans (Kt.below b8)
       have hbox : ∀ u, Below W8.heap.size W8 u -> (u.cell? ⟨wr.heap.size, 0, none⟩ = some (.int .i64 kd) /\ u.cell? ⟨wr.heap.size, 1, none⟩ = some (.int .i64 rk)) /\ (u.cell? ⟨O + 1, 0, none⟩ = some (.int .i64 0) /\ u.cell? ⟨O + 1, 1, none⟩ = some (.int .i64 (d : Int))) /\ u.heap[X]? = some (scBox (i : Int) x.y) := fun u hu => by
        have h1 := HR7.out u (hK8.trans (Kt.below hu))
        refine ⟨⟨?_, ?_⟩, h1.1, h1.2.1⟩ <;> rw [cOr ((hu.block _ l8).trans r8)] <;> rfl
       have HBX := hID hbox
       have hcr := credit_ok ((HY.out.ver x HXM.out).below hb8) hb8.size kd
       obtain ⟨cq, hcq⟩ : ∃ b, (D.cr && decide (6 = kd)) = b := ⟨_, rfl⟩
       rw [hcq] at hcr
       have hkd : cq = true -> kd ≠ 1 := fun h => by
        subst h
        simp at hcq
        omega
       have HKD := hID hkd
       unfold Vs.agg at hcr
       obtain ⟨⟨s0, s1⟩, ⟨p0, p1⟩, rX⟩ := HBX.out W8 (bRf)
       obtain ⟨f0, f1, f2, f3, f4, f5, f6, f7, f8⟩ := scbox rX
       clear hbox hcq hkd hP hK hb b8 r8
       generalize wr.heap.size = Q8 at *
       go_wp2_with fail
       refine hcr.mono ?_
       rintro e w9 ⟨rfl, b9⟩
       clear s0 s1 p0 p1 rX f0 f1 f2 f3 f4 f5 f6 f7 f8 hcr
       have hb9 := hb8.trans (b9.mono hb8.size)
       have hP9 := hP8.below b9
       have hK9 : Kt O w7 w9 := hK8.trans (Kt.below b9)
       cases cq with
       | false =>
        go_wp2_with fail
        go_roundw
        case rel => exact ⟨q + 1, by omega, by go_num, hP9, hK9, hb9⟩
        case measure => simp [intOf]; omega
       | true =>
        obtain ⟨⟨s0, s1⟩, ⟨p0, p1⟩, rX⟩ := HBX.out w9 b9
        have f0 := (scbox rX).1
        go_upto_region 21 with (fail)
        go_region_held3 (fun w' => (w'.cell? ⟨Q8, 0, none⟩ = some (.int .i64 kd) /\ w'.cell? ⟨Q8, 1, none⟩ = some (.int .i64 rk)) /\ (w'.cell? ⟨O + 1, 0, none⟩ = some (.int .i64 0) /\ w'.cell? ⟨O + 1, 1, none⟩ = some (.int .i64 (d : Int))) /\ w'.cell? ⟨X, 0, none⟩ = some (.int .i64 (i : Int))) (first | exact ⟨⟨s0, s1⟩, ⟨p0, p1⟩, f0⟩ | exact ⟨(HBX.out _ b11).1, (HBX.out _ b11).2.1, (scbox (HBX.out _ b11).2.2).1⟩ | exact ⟨(HBX.out _ b10).1, (HBX.out _ b10).2.1, (scbox (HBX.out _ b10).2.2).1⟩) (first
         | (go_at_call 182; (refine (HNO.out _ hb9.drew kd (i : Int) (HKD.out (by trivial))).mono ?_); intro e w10 hr10
            obtain ⟨A5, c5, rfl, h10⟩ := hr10.nil nf_empty
            have b10 : Below W8.heap.size W8 w10 := b9.drew.trans (h10.mono b9.size))
         | (go_at_call 136; (refine (clip_any (l := []) (A := A5) (n := 0) (c := c5) 0 (d : Int) ⟨Rd.zero _ _ _ _, rfl⟩ (by omega)).mono ?_); intro e w11 hr11
            obtain ⟨A6, c6, rfl, h11⟩ := hr11.nil (nf_none fun x hx => by simp [dset, cov])
            have b11 : Below W8.heap.size W8 w11 := b10.trans (h11.mono (lTr b9.size h10.size))))
        have hb11 := hb8.trans (b11.mono hb8.size)
        have hP11 : Po w11 w.heap.size O (clm 0 (ws.take (i + 1))) := hP8.below b11
        have hK11 : Kt O w7 w11 := hK8.trans (Kt.below b11)
        rename_i hHeld
        clear hHeld s0 s1 p0 p1 rX f0
        obtain ⟨⟨s0, s1⟩, ⟨p0, p1⟩, rX⟩ := HBX.out w11 b11
        go_wp2_with fail
        refine (claim_nil rk _).mono ?_
        rintro e w12 ⟨rfl, rfl⟩
        go_wp2_with fail
        go_roundw
        case rel => exact ⟨q + 1, by omega, by go_num, hP11, hK11, hb11⟩
        case measure => simp [intOf]; omega
      ·go_wp2_with fail
       go_roundw
       case rel => exact ⟨i + 1, by omega, by go_num, hP, hk72.trans hK, hb⟩
       case measure => simp [intOf]; omega
    ·have hik : ws.take i = ws := List.take_of_length_le (by omega)
     rw [hik] at hP
     obtain ⟨A7, c7, hO7, ho7⟩ := hP
     have d7 : wr.cell? ⟨O, 0, none⟩ = some (.slice A7 (clm 0 ws).length c7) := by rw [cOr hO7]; rfl
     go_wp2_with fail
     go_ret2
     exact ⟨A7, c7, rfl, ho7, hb⟩
end
section
theorem below_at {w4 V w5 : World} (h : Below w4.heap.size w4 w5) (hb : Below V.heap.size V w4) : Below V.heap.size V w5 := hb.trans (h.mono hb.size)
theorem bel_alloc {V w : World} (h : Below V.heap.size V w) (o : Obj) : Below V.heap.size V (w.alloc o) := h.alloc h.size o
theorem bel_set {V w : World} (h : Below V.heap.size V w) {A o : Nat} (v : Value) (hp : V.heap.size <= A) : Below V.heap.size V (w.setCell ⟨A, o, none⟩ v) := h.setCell (p := ⟨A, o, none⟩) hp v
abbrev fr0 : Obj := .cells #[.int .i64 0, .int .i64 0] 49
theorem fr0_at {u v : World} {A : Nat} (b : Below u.heap.size u v) (h : u.heap[A]? = some fr0) : (v.cell? ⟨A, 0, none⟩ = some (.int .i64 0) /\ v.cell? ⟨A, 1, none⟩ = some (.int .i64 0)) /\ (v.frozen? ⟨A, 0, none⟩ = false /\ v.frozen? ⟨A, 1, none⟩ = false) /\ v.heap[A]? = some fr0 := by
 have hv := (b.block _ (gis h).1).trans h
 refine ⟨⟨?_, ?_⟩, ⟨fZr 0 hv, fZr 1 hv⟩, hv⟩ <;> rw [cOr hv] <;> rfl
theorem fr0_cont {u v : World} {A : Nat} {P : Prop} (b : Below u.heap.size u v) (h : u.heap[A]? = some fr0) (k : ((v.cell? ⟨A, 0, none⟩ = some (.int .i64 0) /\ v.cell? ⟨A, 1, none⟩ = some (.int .i64 0)) /\ (v.frozen? ⟨A, 0, none⟩ = false /\ v.frozen? ⟨A, 1, none⟩ = false) /\ v.heap[A]? = some fr0) /\ A < v.heap.size /\ A ≠ v.heap.size /\ v.heap.size ≠ A -> P) : P := k ⟨fr0_at b h, by have := (gis (fr0_at b h).2.2).1; omega, by have := (gis (fr0_at b h).2.2).1; omega, by have := (gis (fr0_at b h).2.2).1; omega⟩
theorem row_alloc {w : World} {A : Nat} {x : Obj} (o : Obj) (h : w.heap[A]? = some x) : (w.alloc o).heap[A]? = some x := (Below.heap_alloc _ _ _ (gis h).1).trans h
theorem row_drew {w : World} {A : Nat} {x : Obj} (h : w.heap[A]? = some x) : w.drew.heap[A]? = some x := h
theorem row_new2 (w : World) (o o' : Obj) : ((w.alloc o').alloc o).heap[w.heap.size + 1]? = some o := by
 have := hAn (w.alloc o') o
 rwa [World.size_alloc] at this
theorem sindexed_ok (x : Vs) (a : Nat) (ha : a <= 1000000) (y r : Int) (w : World) : Calls Tryz.prog 140 #[x.agg, .int .i64 (a : Int), .int .i64 y, .int .i64 r] w fun e w' => e = .returned (.tuple #[.int .i64 (a : Int), .int .i64 0]) /\ Below w.heap.size w w' := by
 obtain ⟨V, hV, bV, rV⟩ := ver_new w x
 have lV := (gis rV).1
 have hbx : ∀ u, Below V.heap.size V u -> u.heap[w.heap.size]? = some (verBox x) := fun u hu => (hu.block _ lV).trans rV
 have hf1 := fun u => factor_ok x r u
 have hf2 := fun u => factor_ok x y u
 have HB := hID hbx
 obtain ⟨c0, c1, c2, c3, c4, c5, c6, c7⟩ := verbox rV
 clear hbx rV
 obtain ⟨cA, cn, cc, gA, gc⟩ := x
 unfold Vs.agg at hf1 hf2 ⊢
 dsimp only [verBox] at hV c3 c6
 go_enter Tryz.func140, Tryz.ntmps140
 go_upto_region 1 with (fail)
 clear hV
 go_cut [10, 11] from 17 to 22 (fun p q wx => ∃ A B, p = .pointer (some ⟨A, 0, none⟩) /\ q = .pointer (some ⟨B, 0, none⟩) /\ (wx.cell? ⟨A, 0, none⟩ = some (.int .i64 1) /\ wx.cell? ⟨A, 1, none⟩ = some (.int .i64 1)) /\ (wx.cell? ⟨B, 0, none⟩ = some (.int .i64 1) /\ wx.cell? ⟨B, 1, none⟩ = some (.int .i64 1)) /\ A < wx.heap.size /\ B < wx.heap.size /\ Below V.heap.size V wx)
 case first =>
  go_region_held3 (fun w' => w'.cell? ⟨w.heap.size, 0, none⟩ = some (.int .i64 0) /\ w'.cell? ⟨w.heap.size, 1, none⟩ = some (.int .i64 1) /\ w'.cell? ⟨w.heap.size, 2, none⟩ = some (.int .i64 1) /\ w'.cell? ⟨w.heap.size, 3, none⟩ = some (.slice cA cn cc) /\ w'.cell? ⟨w.heap.size, 4, none⟩ = some (.slice none 0 0) /\ w'.cell? ⟨w.heap.size, 5, none⟩ = some (.slice none 0 0) /\ w'.cell? ⟨w.heap.size, 6, none⟩ = some (.slice gA 1 gc) /\ w'.cell? ⟨w.heap.size, 7, none⟩ = some (.slice none 0 0)) (exact verbox (HB.out _ (by (focus ((repeat (first | assumption | exact bRf | (with_reducible refine Below.drew ?_) | (with_reducible refine bel_alloc ?_ _) | (with_reducible refine bel_set ?_ _ (by first | assumption | exact lRf | omega)))); done))))) (first
   | (go_at_call 205; (with_reducible refine (hf1 _).mono ?_); rintro e w3 ⟨rfl, b3⟩
      have bb3 : Below V.heap.size V w3 := below_at b3 (by (focus ((repeat (first | assumption | exact bRf | (with_reducible refine Below.drew ?_) | (with_reducible refine bel_alloc ?_ _) | (with_reducible refine bel_set ?_ _ (by first | assumption | exact lRf | omega)))); done)))
      have hz3 := bb3.size
      try (refine fr0_cont (A := V.heap.size) b3 ?_ ?_; (focus ((repeat (first | assumption | exact hAn _ _ | exact row_new2 _ _ _ | (with_reducible refine row_drew ?_) | (with_reducible refine row_alloc _ ?_))); done)); rintro ⟨⟨⟨ka0, ka1⟩, ⟨kb0, kb1⟩, kr⟩, hl, hm, hn⟩)
      try (refine fr0_cont (A := V.heap.size + 1) b3 ?_ ?_; (focus ((repeat (first | assumption | exact hAn _ _ | exact row_new2 _ _ _ | (with_reducible refine row_drew ?_) | (with_reducible refine row_alloc _ ?_))); done)); rintro ⟨⟨⟨kc0, kc1⟩, ⟨kd0, kd1⟩, ks⟩, hl, hm, hn⟩))
   | (go_at_call 205; (with_reducible refine (hf2 _).mono ?_); rintro e w4 ⟨rfl, b4⟩
      have bb4 : Below V.heap.size V w4 := below_at b4 (by (focus ((repeat (first | assumption | exact bRf | (with_reducible refine Below.drew ?_) | (with_reducible refine bel_alloc ?_ _) | (with_reducible refine bel_set ?_ _ (by first | assumption | exact lRf | omega)))); done)))
      have hz4 := bb4.size
      try (refine fr0_cont (A := V.heap.size) b4 ?_ ?_; (focus ((repeat (first | assumption | exact hAn _ _ | exact row_new2 _ _ _ | (with_reducible refine row_drew ?_) | (with_reducible refine row_alloc _ ?_))); done)); rintro ⟨⟨⟨ka0, ka1⟩, ⟨kb0, kb1⟩, kr⟩, hl, hm, hn⟩)
      try (refine fr0_cont (A := V.heap.size + 1) b4 ?_ ?_; (focus ((repeat (first | assumption | exact hAn _ _ | exact row_new2 _ _ _ | (with_reducible refine row_drew ?_) | (with_reducible refine row_alloc _ ?_))); done)); rintro ⟨⟨⟨kc0, kc1⟩, ⟨kd0, kd1⟩, ks⟩, hl, hm, hn⟩)
      try (refine fr0_cont (A := w3.heap.size) b4 ?_ ?_; (focus ((repeat (first | assumption | exact hAn _ _ | exact row_new2 _ _ _ | (with_reducible refine row_drew ?_) | (with_reducible refine row_alloc _ ?_))); done)); rintro ⟨⟨⟨ke0, ke1⟩, ⟨kf0, kf1⟩, kt⟩, hl, hm, hn⟩)
      try (refine fr0_cont (A := w3.heap.size + 1) b4 ?_ ?_; (focus ((repeat (first | assumption | exact hAn _ _ | exact row_new2 _ _ _ | (with_reducible refine row_drew ?_) | (with_reducible refine row_alloc _ ?_))); done)); rintro ⟨⟨⟨kg0, kg1⟩, ⟨kh0, kh1⟩, ku⟩, hl, hm, hn⟩)))
  all_goals
   clear HB hf1 hf2
   go_wp2_with fail
   go_meet
  all_goals
   refine ⟨_, _, rfl, rfl, ⟨?_, ?_⟩, ⟨?_, ?_⟩, ?_, ?_, by (focus ((repeat (first | assumption | exact bRf | (with_reducible refine Below.drew ?_) | (with_reducible refine bel_alloc ?_ _) | (with_reducible refine bel_set ?_ _ (by first | assumption | exact lRf | omega)))); done))⟩ <;> first | (simp [go_sem, *]; done) | (simp; omega)
 case rest =>
  obtain ⟨A, B, rfl, rfl, ⟨a0, a1⟩, ⟨d0, d1⟩, lA, lB, hb⟩ := hcut
  have hus := fun u => usable_ok u
  have hm := fun u => Tryz.bits_Mul64 a 1 (by omega) (by omega) u
  rw [Nat.mul_one, Nat.div_eq_of_lt (by omega), Nat.mod_eq_of_lt (by omega)] at hm
  have hdv := fun u => div64_ok a 1 (by omega) (by omega) (by omega) u
  rw [Nat.div_one] at hdv
  have q1 : decide ((a : Int) < 0) = false := decide_eq_false (by omega)
  have q2 : decide ((1000000000000 : Int) < (a : Int)) = false := decide_eq_false (by omega)
  go_wp2_with fail
  refine (hus _).mono ?_
  rintro e w5 ⟨rfl, b5⟩
  have e0 : w5.cell? ⟨A, 0, none⟩ = some (.int .i64 1) := by rw [b5.cell (by exact lA)]; exact a0
  have e1 : w5.cell? ⟨A, 1, none⟩ = some (.int .i64 1) := by rw [b5.cell (by exact lA)]; exact a1
  have f0 : w5.cell? ⟨B, 0, none⟩ = some (.int .i64 1) := by rw [b5.cell (by exact lB)]; exact d0
  have f1 : w5.cell? ⟨B, 1, none⟩ = some (.int .i64 1) := by rw [b5.cell (by exact lB)]; exact d1
  have lA5 := lLt lA b5.size
  have lB5 := lLt lB b5.size
  have hb5 := below_at b5 hb
  clear a0 a1 d0 d1
  go_wp2_with fail
  refine (hus _).mono ?_
  rintro e w6 ⟨rfl, b6⟩
  have g0 : w6.cell? ⟨A, 0, none⟩ = some (.int .i64 1) := by rw [b6.cell (by exact lA5)]; exact e0
  have g1 : w6.cell? ⟨A, 1, none⟩ = some (.int .i64 1) := by rw [b6.cell (by exact lA5)]; exact e1
  have h0 : w6.cell? ⟨B, 0, none⟩ = some (.int .i64 1) := by rw [b6.cell (by exact lB5)]; exact f0
  have h1 : w6.cell? ⟨B, 1, none⟩ = some (.int .i64 1) := by rw [b6.cell (by exact lB5)]; exact f1
  have hb6 := below_at b6 hb5
  clear e0 e1 f0 f1
  go_wp2_with fail
  refine (hm _).mono ?_
  rintro e w7 ⟨rfl, rfl⟩
  go_wp2_with fail
  refine (hdv _).mono ?_
  rintro e w8 ⟨rfl, b8⟩
  have hb8 := below_at b8 hb6
  have hwa : IntKind.i64.wrap (a : Int) = (a : Int) := IntWalk.i64_in _ (by omega)
  go_wp2_with fail
  exact bodyPost_ret (v := .tuple #[.int .i64 (a : Int), .int .i64 0]) (by simp [results, Tryz.f140, go_sem]) rfl ⟨rfl, bV.trans (hb8.mono bV.size)⟩
end
section
theorem ea_cells {w : World} {B k n : Nat} {A : Option Addr} {E : List (Int × Int)} {p : Int × Int} (h : Rd w B 2 A n (flat eaCells E)) (hp : E[k]? = some p) (hk : k < n) :
  ∃ b o, A = some ⟨b, o, none⟩ /\ b < B /\ w.cell? ⟨b, o + k * 2, none⟩ = some (.int .i64 p.1) /\ w.cell? ⟨b, o + k * 2 + 1, none⟩ = some (.int .i64 p.2) := by
 obtain ⟨_, b, o, e, hb, hc⟩ := h.elem (ea_len) (k := k) (x := p) hp (by omega)
 exact ⟨b, o, e, hb, by simpa using hc 0 _ rfl, hc 1 _ rfl⟩
theorem own_baseI {w : World} {base base' e sz n : Nat} {v : Value} {xs : List Value} (h : w.ownsRow base e sz v n xs) (hb : base' <= base) : w.ownsRow base' e sz v n xs := by
 refine ⟨h.1, ?_⟩
 rcases h.2 with h0 | ⟨g, cap, cur, hv, hg, r⟩
 ·exact .inl h0
 ·exact .inr ⟨g, cap, cur, hv, lTr hb hg, r⟩
def RetEx (w : World) (E : List (Int × Int)) (e : Ending) (w' : World) : Prop := ∃ A c, e = .returned (.tuple #[.slice A (List.length E) c, .int .i64 0]) /\ w'.ownsRow w.heap.size 3 1 (.slice A E.length c) E.length (ints (E.map Prod.snd)) /\ Below w.heap.size w w'
theorem eindexed_ok (x : Vs) {E : List (Int × Int)} {A : Option Addr} {c : Nat} (r : Int) {w : World} (hE : Rd w w.heap.size 2 A E.length (flat eaCells E)) (hn : E.length <= 200) (hb : ∀ p ∈ E, 0 <= p.2 /\ p.2 <= 1000000) :
  Calls Tryz.prog 77 #[.slice A E.length c, x.agg, .int .i64 r] w (RetEx w E) := by
 obtain ⟨i1, hi1, hy0, hy1, hy2⟩ := info_parts info_int
 obtain ⟨V, hV, bV, rV⟩ := ver_new w x
 have lV := (gis rV).1
 have HX := hID (show ∀ u, Below V.heap.size V u -> u.heap[w.heap.size]? = some (verBox x) from fun u hu => (hu.block _ lV).trans rV)
 have HE := hID (show ∀ u, Below V.heap.size V u -> Rd u w.heap.size 2 A E.length (flat eaCells E) from fun u hu => hE.below (bV.trans (hu.mono bV.size)))
 have hsi := fun (a : Nat) (ha : a <= 1000000) (y : Int) (u : World) => sindexed_ok x a ha y r u
 have HB := hID hb
 obtain ⟨n, hnE⟩ : ∃ n, E.length = n := ⟨_, rfl⟩
 rw [hnE] at hn ⊢ HE
 obtain ⟨cA, cn, cc, gA, gc⟩ := x
 unfold Vs.agg at hsi ⊢
 dsimp only [verBox] at hV
 have HI := hID hsi
 clear hsi hE hb rV
 have hzV := bV.size
 go_enter Tryz.func77, Tryz.ntmps77
 go_upto_region 1 with (fail)
 clear hV
 go_wp2_with fail
 go_loopw [8, 15] (fun v i wr => ∃ (j : Nat) (A1 : Option Addr) (c1 : Nat), j <= n /\ v = .slice A1 j c1 /\ i = .int .i64 (j : Int) /\ wr.ownsRow V.heap.size 3 1 (.slice A1 j c1) j (ints ((E.take j).map Prod.snd)) /\ Below V.heap.size V wr) (fun _ i _ => n - (intOf i).toNat)
 case atStart => exact ⟨0, none, 0, by omega, rfl, rfl, World.ownsRow_nil _ _ _ _, bRf⟩
 case round =>
  obtain ⟨j, A1, c1, hj, rfl, rfl, hown1, hb⟩ := hrel
  have hwsz := hb.size
  by_cases hlt : j < n
  ·obtain ⟨p, hp⟩ : ∃ p, E[j]? = some p := ⟨_, List.getElem?_eq_getElem (by rw [hnE]; exact hlt)⟩
   have hpb := HB.out p (List.mem_of_getElem? hp)
   obtain ⟨a, ha⟩ : ∃ a : Nat, p.2 = (a : Int) := ⟨p.2.toNat, by omega⟩
   obtain ⟨g, o, rfl, hgb, e0, e1⟩ := ea_cells (HE.out wr hb) hp hlt
   rw [ha] at e1
   have hlo : (0 : Int) <= (j : Int) := by omega
   have hhi : (j : Int) < (n : Int) := by omega
   go_upto_region 5 with (fail)
   obtain ⟨W, hW, b2, r2⟩ : ∃ W, W = wr.alloc (.cells #[.int .i64 p.1, .int .i64 (a : Int)] 252) /\ Below wr.heap.size wr W /\ W.heap[wr.heap.size]? = some (.cells #[.int .i64 p.1, .int .i64 (a : Int)] 252) :=
    ⟨_, rfl, (bRf).alloc (lRf) _, hAn wr _⟩
   rw [<- hW]
   clear hW e0 e1
   have s0 : W.cell? ⟨wr.heap.size, 0, none⟩ = some (.int .i64 p.1) := by rw [cOr r2]; rfl
   have s1 : W.cell? ⟨wr.heap.size, 1, none⟩ = some (.int .i64 (a : Int)) := by rw [cOr r2]; rfl
   have hb2 := hb.trans (b2.mono hwsz)
   obtain ⟨v0, v1, v2, v3, v4, v5, v6, v7⟩ := verbox (HX.out W hb2)
   go_wp2_with fail
   refine (HI.out a (by omega) p.1 _).mono ?_
   rintro e w3 ⟨rfl, b3⟩
   have hb3 := below_at b3 hb2
   have hown3 := own_underF hown1 (b2.trans (b3.mono b2.size))
   have hz3 := hb3.size
   have hln : ((E.take j).map Prod.snd).length = j := by rw [List.length_map, List.length_take]; omega
   have htk : (E.take (j + 1)).map Prod.snd = (E.take j).map Prod.snd ++ [(a : Int)] := by rw [List.take_add_one, hp, List.map_append, <- ha]; rfl
   have HT := hID htk
   clear htk s0 s1 v0 v1 v2 v3 v4 v5 v6 v7
   go_wp2_with (at_builtin; go_loud (refine wpList_append_rd (by rfl) (.tmp 32) (.tmp 34) 45 (by rfl) V.heap.size 3 i1 _ 1 8 Tryz.underlying45 hi1 hy0 hy1 hy2 rfl (by omega) (.slice A1 j c1) j (ints ((E.take j).map Prod.snd)) (by rfl) (hown3.alloc _) (w3.heap.size + 1) (some ⟨w3.heap.size, 0, none⟩) 1 1 [.int .i64 (a : Int)] (by rfl) (Rd.built (cs := #[.int .i64 (a : Int)]) (hAn w3 _) (by omega) rfl) (by intro u hu; simp at hu; subst hu; rfl) (by unfold maxLen; omega) (by omega) (by simp; omega) ?_); intro v4 w4 hown4 hg4 hat4)
   have hb4 := (hb3.alloc hz3 (.cells #[.int .i64 (a : Int)] 3)).grown hg4 (by simp; omega) (fun g e => (hown3.lt g e).1)
   obtain ⟨A4, c4, rfl, _, _, _⟩ := own_form hown4
   go_roundw
   case rel => exact ⟨j + 1, A4, c4, by omega, rfl, by go_num, by rw [HT.out]; simpa [ints] using hown4, hb4⟩
   case measure => simp [intOf]; omega
  ·obtain rfl : j = n := by omega
   have hge : decide ((j : Int) < (j : Int)) = false := by simp
   go_wp2_with fail
   exact bodyPost_ret (v := .tuple #[.slice A1 j c1, .int .i64 0]) (by simp [results, Tryz.f77, go_sem]) rfl ⟨A1, c1, by rw [hnE], by rw [hnE]; have h9 := own_baseI hown1 hzV; rwa [List.take_of_length_le (by omega)] at h9, bV.trans (hb.mono bV.size)⟩
end
end Go.Proofs.YtnlopdmhdiegnaaGreatDoor
