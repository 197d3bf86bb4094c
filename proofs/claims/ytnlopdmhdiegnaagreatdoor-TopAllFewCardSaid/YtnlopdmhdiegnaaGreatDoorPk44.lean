/- Lemmas (no conditions): Bne -/
import Derived.Test.YtnlopdmhdiegnaaGreatDoorPk43
import Derived.Test.YtnlopdmhdiegnaaGreatDoorSx
set_option linter.unusedSimpArgs false
set_option linter.unusedVariables false
set_option maxRecDepth 100000
set_option maxHeartbeats 64000000
namespace Go.Proofs.YtnlopdmhdiegnaaGreatDoor
open Go.RowKit
section
abbrev vRow13 (ag yr ch d0 d1 d2 d3 d4 d5 d6 p q : Int) (A : Option Addr) (n c : Nat) : Obj := .cells #[.int .i64 ag, .int .i64 yr, .int .i64 ch, .int .i64 d0, .int .i64 d1, .int .i64 d2, .int .i64 d3, .int .i64 d4, .int .i64 d5, .int .i64 d6, .int .i64 p, .int .i64 q, .slice A n c] 102
theorem vrow13 {W : World} {g : Nat} {ag yr ch d0 d1 d2 d3 d4 d5 d6 p q : Int} {A : Option Addr} {n c : Nat} (hr : W.heap[g]? = some (vRow13 ag yr ch d0 d1 d2 d3 d4 d5 d6 p q A n c)) :
  (W.cell? ⟨g, 0, none⟩ = some (.int .i64 ag) /\ W.cell? ⟨g, 1, none⟩ = some (.int .i64 yr) /\ W.cell? ⟨g, 2, none⟩ = some (.int .i64 ch)) /\ (W.cell? ⟨g, 3, none⟩ = some (.int .i64 d0) /\ W.cell? ⟨g, 4, none⟩ = some (.int .i64 d1) /\ W.cell? ⟨g, 5, none⟩ = some (.int .i64 d2) /\ W.cell? ⟨g, 6, none⟩ = some (.int .i64 d3) /\ W.cell? ⟨g, 7, none⟩ = some (.int .i64 d4) /\ W.cell? ⟨g, 8, none⟩ = some (.int .i64 d5) /\ W.cell? ⟨g, 9, none⟩ = some (.int .i64 d6)) ∧
  (W.cell? ⟨g, 10, none⟩ = some (.int .i64 p) /\ W.cell? ⟨g, 11, none⟩ = some (.int .i64 q) /\ W.cell? ⟨g, 12, none⟩ = some (.slice A n c)) := by
 refine ⟨⟨?_, ?_, ?_⟩, ⟨?_, ?_, ?_, ?_, ?_, ?_, ?_⟩, ?_, ?_, ?_⟩ <;> rw [cOr hr] <;> rfl
def Up (n : Nat) (w u : World) : Prop := w.heap.size <= u.heap.size /\ ∀ i, n <= i -> i < w.heap.size -> u.heap[i]? = w.heap[i]?
theorem Up.of {n R : Nat} {w u : World} (h : Kp R w u) (hR : R < n) : Up n w u := ⟨h.size, fun i hi hl => h.block i hl (fun e => by have := Option.some.inj e; omega)⟩
theorem Up.bel {n : Nat} {w u : World} (h : Below w.heap.size w u) : Up n w u := ⟨h.size, fun i _ hl => h.block i hl⟩
theorem Up.trans {n : Nat} {a b c : World} (h : Up n a b) (k : Up n b c) : Up n a c := ⟨lTr h.1 k.1, fun i hi hl => (k.2 i hi (lLt hl h.1)).trans (h.2 i hi hl)⟩
theorem Up.weak {n n' : Nat} {w u : World} (h : Up n w u) (hn : n <= n') : Up n' w u := ⟨h.1, fun i hi hl => h.2 i (lTr hn hi) hl⟩
theorem own_up {w u : World} {n base e sz m : Nat} {v : Value} {xs : List Value} (h : w.ownsRow base e sz v m xs) (hu : Up n w u) (hn : n <= base) : u.ownsRow base e sz v m xs := by
 refine ⟨h.1, ?_⟩
 rcases h.2 with h0 | ⟨g, cap, cur, hv, hb, hg, r⟩
 ·exact .inl h0
 ·exact .inr ⟨g, cap, cur, hv, hb, (hu.2 g (lTr hn hb) (gis hg).1).trans hg, r⟩
theorem vw_ok {w : World} {hi nn bp bq n c : Nat} {D : Int} {A : Option Addr} {Y : List Int} (hn : nn <= 199) (hD : 0 <= D /\ D <= 36500) (hB : bp <= 1000000000 /\ 1 <= bq /\ bq <= 1000 /\ Nat.gcd bp bq = 1) (hE : n <= 200) (hY : Rd w hi 1 A n (ints Y)) (hy : ∀ y ∈ Y, 0 <= y /\ y <= 1000000000000) :
  VwOk w hi ⟨0, 1900 + (nn : Int), 0, D, D, 0, 0, 0, 0, 0, bp, bq, A, n, c⟩ := by
 have z0 : DayOk 0 := ⟨by decide, by decide⟩
 have z1 : (0 : Int) <= 0 /\ (0 : Int) <= 199 := by decide
 have z2 : (0 : Int) <= 0 /\ (0 : Int) <= 99 := by decide
 have z3 : DayOk D := ⟨hD.1, by omega⟩
 have z4 : (1900 : Int) <= 1900 + (nn : Int) /\ 1900 + (nn : Int) <= 2099 := by omega
 exact ⟨z1, z4, z2, z3, z3, z0, z0, z0, z0, z0, hB, hE, Y, hY, hy⟩
theorem rk_row (u : World) (r : Int) : Rd (u.alloc (.cells #[.int .i64 r] 3)) (u.alloc (.cells #[.int .i64 r] 3)).heap.size 1 (some ⟨u.heap.size, 0, none⟩) 1 (ints [r]) :=
 Rd.built (hAn u _) (by simp) rfl
theorem rk_row2 (u : World) (r s : Int) : Rd (u.alloc (.cells #[.int .i64 r, .int .i64 s] 3)) (u.alloc (.cells #[.int .i64 r, .int .i64 s] 3)).heap.size 1 (some ⟨u.heap.size, 0, none⟩) 2 (ints [r, s]) :=
 Rd.built (hAn u _) (by simp) rfl
theorem rank_days {KA : Option Addr} {kc : Nat} {K : List Pr} {ws : List Sp} {u : World} {st D r D2 : Int} (hK : Rd u u.heap.size 4 KA K.length (flat Pr.ccells K)) (hC : Ctd ws K) (h : lenL (nf (dset (dsL K st [r]))) = D2) (hD : D2 = D) :
  Calls Tryz.prog 75 #[.slice KA K.length kc, .int .i64 st, .slice (some ⟨u.heap.size, 0, none⟩) 1 1] (u.alloc (.cells #[.int .i64 r] 3)) fun e w' => e = .returned (.int .i64 D) /\ Below u.heap.size u w' := by
 subst hD
 have b1 : Below u.heap.size u (u.alloc (.cells #[.int .i64 r] 3)) := (bRf).alloc (lRf) _
 refine (adays_any st ((hK.below b1).mono b1.size) rfl (by have := hC.1; omega) (rk_row u r) (by omega) (by omega)).mono ?_
 rintro e w' ⟨rfl, b2⟩
 exact ⟨by rw [h], b1.trans (b2.mono b1.size)⟩
theorem rank_days2 {KA : Option Addr} {kc : Nat} {K : List Pr} {ws : List Sp} {u : World} {st r s : Int} (hK : Rd u u.heap.size 4 KA K.length (flat Pr.ccells K)) (hC : Ctd ws K) (h : lenL (nf (dset (dsL K st [r, s]))) = 0) :
  Calls Tryz.prog 75 #[.slice KA K.length kc, .int .i64 st, .slice (some ⟨u.heap.size, 0, none⟩) 2 2] (u.alloc (.cells #[.int .i64 r, .int .i64 s] 3)) fun e w' => e = .returned (.int .i64 0) /\ Below u.heap.size u w' := by
 have b1 : Below u.heap.size u (u.alloc (.cells #[.int .i64 r, .int .i64 s] 3)) := (bRf).alloc (lRf) _
 refine (adays_any st ((hK.below b1).mono b1.size) rfl (by have := hC.1; omega) (rk_row2 u r s) (by omega) (by omega)).mono ?_
 rintro e w' ⟨rfl, b2⟩
 exact ⟨by rw [h], b1.trans (b2.mono b1.size)⟩
theorem view_ok {b : Bn} {x : St} {nm : By} {cr : Bool} {N M n c d s kc : Nat} {rv : Rv} {A KA : Option Addr} {L : List Fc} {ws : List Sp} {K : List Pr} (total : Bool) {w : World} (hP : Pur b nm N M n L ws rv d) (hI : Inp w w.heap.size b x nm cr N M rv A n L)
  (hC : Ctd ws K) (hK : Rd w w.heap.size 4 KA K.length (flat Pr.ccells K)) (hs : s < b.k) :
  Calls Tryz.prog 36 #[b.agg, .slice A n c, .slice KA K.length kc, .int .i64 (s : Int), .bool total] w fun e w' => ∃ v : Vw, e = .returned (.tuple #[v.agg, .int .i64 0]) /\ VwOk w' w'.heap.size v /\ v.d0 = (if total then sumW ws else dW ws s) /\ Below w.heap.size w w' /\ (∀ (u : World), Up w.heap.size w' u -> VwOk u u.heap.size v) := by
 obtain ⟨W, hW, bW, rW⟩ := bn_new w b
 obtain ⟨V, hV, bV, rV⟩ := box_new W (vRow13 0 0 0 0 0 0 0 0 0 0 0 0 none 0 0)
 have lW := (gis rW).1
 have lV := (gis rV).1
 have hzW := bW.size
 have bWV := bW.trans (bV.mono hzW)
 have hzV := bWV.size
 have h6 : ws.length <= 6 := lTr hP.hk hP.k6
 have hs6 : s < 6 := lLt hs hP.k6
 have HBX := hID (fun (u : World) (hu : Below V.heap.size V u) => bnbox ((hu.block _ (lLt lW bV.size)).trans ((bV.block _ lW).trans rW)))
 have HBZ := hID (fun (u : World) (hu : Below V.heap.size V u) => (hu.block _ lV).trans rV)
 have hIV : ∀ u, Below w.heap.size w u -> Inp u u.heap.size b x nm cr N M rv A n L := fun u hu => hI.to hu
 have hKV : ∀ u, Below w.heap.size w u -> Rd u u.heap.size 4 KA K.length (flat Pr.ccells K) := fun u hu => (hK.below hu).mono hu.size
 have hver := bversion_ok (w := V) ((hI.S.below bWV).mono hzV) hs hP.k6 ((hI.T.below bWV).mono hzV) hP.d3 hP.day
 have hwk : WkL L := hP.hW.wkl (Int.le_refl 0) hP.hw h6
 have hn9 : n <= 900 := by rw [<- hP.hl, hP.hW.1]; omega
 have HCH := hID (fun (u : World) (hu : Below w.heap.size w u) => children_no (c := c) (d : Int) (hIV u hu).L hP.hl hwk hn9)
 have HBI := hID (fun (u : World) (hu : Below w.heap.size w u) => (tbirth_any (c := c) (w := u) (hIV u hu).L hP.hl hwk.vld hn9).mono (R' := fun e w' => e = .returned (.tuple #[.int .i64 0, .bool false]) /\ Below u.heap.size u w') (fun e w' h => ⟨by rw [h.1, firD_no hwk (by decide)]; rfl, h.2⟩))
 have HYE := hID (fun (u : World) (hu : Below w.heap.size w u) => years_any (c := c) (cc := kc) (w := u) (hIV u hu).L hP.hl hP.hW (Int.le_refl 0) hP.hw h6 (hKV u hu) rfl hC hs6)
 obtain ⟨st, hst⟩ : ∃ st : Int, st = (if total then -1 else (s : Int)) := ⟨_, rfl⟩
 obtain ⟨D, hD⟩ : ∃ D : Int, D = (if total then sumW ws else dW ws s) := ⟨_, rfl⟩
 have hd1 : lenL (nf (dset (dsL K st [1]))) = D := by
  cases total
  ·rw [hst, hD]; exact days_own hC (Int.le_refl 0) hP.hw s
  ·rw [hst, hD]; exact days_every hC (Int.le_refl 0) hP.hw
 have hDb : 0 <= D /\ D <= 36500 := by
  cases total
  ·rw [hD]; exact dW_bd (Int.le_refl 0) hP.hw s
  ·rw [hD]; have := sumW_bd hP.hw (by omega); exact ⟨this.1, by have := this.2; simpa using this⟩
 have HD1 := hID (fun (u : World) (hu : Below w.heap.size w u) => rank_days (kc := kc) (r := 1) (hKV u hu) hC hd1 rfl)
 have HD0 := hID (fun (u : World) (hu : Below w.heap.size w u) (r : Int) (h0 : (0 : Int) ∉ [r]) (h1 : (1 : Int) ∉ [r]) => rank_days (kc := kc) (r := r) (D := 0) (hKV u hu) hC (days_other hC h0 h1 st) rfl)
 have HD2 := hID (fun (u : World) (hu : Below w.heap.size w u) => rank_days2 (kc := kc) (r := 4) (s := 5) (hKV u hu) hC (days_other hC (by decide) (by decide) st))
 have hda := date_any d hP.d3
 have hbd := hP.day
 have HST := hID hst
 rw [<- hD]
 have HDD := hID hD
 clear hst hD hd1 hIV hKV hI hP hC hK hwk h6 hs6
 obtain ⟨SA, k, sc, RA, rc, d0, md, MA, mc⟩ := b
 unfold Bn.agg at hver ⊢
 unfold St.agg Vs.agg at hver
 dsimp only [bnBox, vRow13] at hW hV hbd hs HBX hver
 subst hbd
 go_enter Tryz.func36, Tryz.ntmps36
 go_upto_region 1 with (fail)
 clear hW hV
 obtain ⟨c0, c1, c2, c3, c4, c5, c6, c7, c8⟩ := HBX.out V (bRf)
 go_wp2_with fail
 refine hver.mono ?_
 rintro e w1 ⟨y, rfl, _, b1⟩
 clear hver c0 c1 c2 c3 c4 c5 c6 c7 c8
 go_upto_region 2 with (fail)
 obtain ⟨X1, hX1, p1, q1⟩ := st_new w1 nm x
 obtain ⟨X2, hX2, p2, q2⟩ := ver_new X1 y
 have hx12 : X1.heap.size = w1.heap.size + 1 := by rw [<- hX1]; simp
 dsimp only [stBox, verBox] at hX1 hX2
 rw [hX1, hX2]
 clear hX1 hX2
 have lq1 := (gis q1).1
 have lq2 := (gis q2).1
 have b2 := b1.trans ((p1.trans (p2.mono p1.size)).mono b1.size)
 have q1' := (p2.block _ lq1).trans q1
 have HSX := hID (fun (u : World) (hu : Below X2.heap.size X2 u) => (And.intro ((hu.block _ (lLt lq1 p2.size)).trans q1') ((hu.block _ lq2).trans q2)))
 have hz1 : V.heap.size <= w1.heap.size := b1.size
 have hx1 := p1.size
 have hx2 := p2.size
 clear q1 q2 q1' p1 p2 lq1 lq2
 rw [hx12] at HSX hx1 hx2
 clear hx12
 generalize hS1 : w1.heap.size = S1 at *
 obtain ⟨c0, c1, c2, c3, c4, c5, c6, c7, c8⟩ := HBX.out X2 b2
 go_wp2_with fail
 refine (HCH.out X2 (bWV.trans (b2.mono hzV))).mono ?_
 rintro e w3 ⟨rfl, b3⟩
 clear c0 c1 c2 c3 c4 c5 c6 c7 c8
 go_upto_region 5 with (fail)
 obtain ⟨Y, hY, pY, rY⟩ := box_new w3 (vRow13 0 0 0 0 0 0 0 0 0 0 0 0 none 0 0)
 dsimp only [vRow13] at hY
 rw [hY]
 clear hY
 have b4 := b3.trans (pY.mono b3.size)
 have hzX := b2.size
 have hz3 := b3.size
 have lY := (gis rY).1
 have HK : Hid (∀ u, Kp w3.heap.size Y u -> Below w.heap.size w u /\ Below V.heap.size V u /\ Below X2.heap.size X2 u) := hID (fun u hu =>
  have k1 : Below X2.heap.size Y u := hu.bel hz3 lY
  have k2 : Below X2.heap.size X2 u := b4.trans k1
  have k3 : Below V.heap.size V u := b2.trans (k2.mono hzX)
  ⟨bWV.trans (k3.mono hzV), k3, k2⟩)
 clear b3 b4 pY
 generalize hO : w3.heap.size = O at *
 clear hO
 have k0 : Kp O Y Y := Kp.refl _ _
 go_wp2_with fail
 refine (HBI.out Y (HK.out Y k0).1).mono ?_
 rintro e w4 ⟨rfl, b4⟩
 have k4 : Kp O Y w4 := k0.trans (Kp.of b4)
 have r4 := (b4.block _ lY).trans rY
 obtain ⟨c0, c1, c2, c3, c4, c5, c6, c7, c8⟩ := HBX.out w4 (HK.out w4 k4).2.1
 go_wp2_with fail
 refine (hda _).mono ?_
 rintro e w5 ⟨⟨nn, kk, rr, rfl, hkk, hnn, _, _⟩, b5⟩
 have k5 : Kp O Y w5 := k4.trans (Kp.of b5)
 have r5 := (b5.block _ (gis r4).1).trans r4
 clear c0 c1 c2 c3 c4 c5 c6 c7 c8 r4 b4 b5
 obtain ⟨⟨_, v1, _⟩, _, _⟩ := vrow13 r5
 have y1 := fZr 1 r5
 go_upto_region 9 with (fail)
 obtain ⟨u1, hu1⟩ : ∃ u, w5.setCell ⟨O, 1, none⟩ (.int .i64 (1900 + (nn : Int))) = u := ⟨_, rfl⟩
 have r6 : u1.heap[O]? = some (vRow13 0 (1900 + (nn : Int)) 0 0 0 0 0 0 0 0 0 0 none 0 0) := by rw [<- hu1]; exact hSs w5 O 1 _ _ _ r5
 have k6 : Kp O Y u1 := by rw [<- hu1]; exact k5.trans (Kp.set _ _ _)
 rw [hu1]
 clear hu1 r5 k5 v1 y1
 go_upto_if 64 with (fail)
 go_cut [18] from 64 to 65 (fun v wx => v = .int .i64 st /\ wx = u1)
 case first =>
  cases total
  ·go_wp2_with fail
   go_meet
   exact ⟨by rw [HST.out]; rfl, rfl⟩
  ·go_wp2_with fail
   go_meet
   exact ⟨by rw [HST.out]; rfl, rfl⟩
 case rest =>
  obtain ⟨rfl, rfl⟩ := hcut
  go_wp2_with fail
  refine (HD1.out _ (HK.out _ k6).1).mono ?_
  rintro e w21 ⟨rfl, bb⟩
  have ka1 : Kp O Y w21 := k6.trans (Kp.of bb)
  have ra1 := (bb.block _ (gis r6).1).trans r6
  obtain ⟨_, ⟨_, v4, _, _, _, _, _⟩, _⟩ := vrow13 ra1
  have y4 := fZr 4 ra1
  clear bb
  go_upto_region 13 with (fail)
  obtain ⟨u2, hu⟩ : ∃ u, w21.setCell ⟨O, 4, none⟩ (.int .i64 D) = u := ⟨_, rfl⟩
  have rb1 : u2.heap[O]? = some (vRow13 0 (1900 + (nn : Int)) 0 0 D 0 0 0 0 0 0 0 none 0 0) := by rw [<- hu]; exact hSs w21 O 4 _ _ _ ra1
  have kb1 : Kp O Y u2 := by rw [<- hu]; exact ka1.trans (Kp.set _ _ _)
  rw [hu]
  clear hu ra1 ka1 v4 y4 r6 k6
  go_wp2_with fail
  refine (HD0.out _ (HK.out _ kb1).1 2 (by decide) (by decide)).mono ?_
  rintro e w22 ⟨rfl, bb⟩
  have ka2 : Kp O Y w22 := kb1.trans (Kp.of bb)
  have ra2 := (bb.block _ (gis rb1).1).trans rb1
  obtain ⟨_, ⟨_, _, v5, _, _, _, _⟩, _⟩ := vrow13 ra2
  have y5 := fZr 5 ra2
  clear bb
  go_upto_region 14 with (fail)
  obtain ⟨u3, hu⟩ : ∃ u, w22.setCell ⟨O, 5, none⟩ (.int .i64 0) = u := ⟨_, rfl⟩
  have rb2 : u3.heap[O]? = some (vRow13 0 (1900 + (nn : Int)) 0 0 D 0 0 0 0 0 0 0 none 0 0) := by rw [<- hu]; exact hSs w22 O 5 _ _ _ ra2
  have kb2 : Kp O Y u3 := by rw [<- hu]; exact ka2.trans (Kp.set _ _ _)
  rw [hu]
  clear hu ra2 ka2 v5 y5 rb1 kb1
  go_wp2_with fail
  refine (HD0.out _ (HK.out _ kb2).1 3 (by decide) (by decide)).mono ?_
  rintro e w23 ⟨rfl, bb⟩
  have ka3 : Kp O Y w23 := kb2.trans (Kp.of bb)
  have ra3 := (bb.block _ (gis rb2).1).trans rb2
  obtain ⟨_, ⟨_, _, _, v6, _, _, _⟩, _⟩ := vrow13 ra3
  have y6 := fZr 6 ra3
  clear bb
  go_upto_region 15 with (fail)
  obtain ⟨u4, hu⟩ : ∃ u, w23.setCell ⟨O, 6, none⟩ (.int .i64 0) = u := ⟨_, rfl⟩
  have rb3 : u4.heap[O]? = some (vRow13 0 (1900 + (nn : Int)) 0 0 D 0 0 0 0 0 0 0 none 0 0) := by rw [<- hu]; exact hSs w23 O 6 _ _ _ ra3
  have kb3 : Kp O Y u4 := by rw [<- hu]; exact ka3.trans (Kp.set _ _ _)
  rw [hu]
  clear hu ra3 ka3 v6 y6 rb2 kb2
  go_wp2_with fail
  refine (HD2.out _ (HK.out _ kb3).1).mono ?_
  rintro e w24 ⟨rfl, bb⟩
  have ka4 : Kp O Y w24 := kb3.trans (Kp.of bb)
  have ra4 := (bb.block _ (gis rb3).1).trans rb3
  obtain ⟨_, ⟨_, _, _, _, v7, _, _⟩, _⟩ := vrow13 ra4
  have y7 := fZr 7 ra4
  clear bb
  go_upto_region 16 with (fail)
  obtain ⟨u5, hu⟩ : ∃ u, w24.setCell ⟨O, 7, none⟩ (.int .i64 0) = u := ⟨_, rfl⟩
  have rb4 : u5.heap[O]? = some (vRow13 0 (1900 + (nn : Int)) 0 0 D 0 0 0 0 0 0 0 none 0 0) := by rw [<- hu]; exact hSs w24 O 7 _ _ _ ra4
  have kb4 : Kp O Y u5 := by rw [<- hu]; exact ka4.trans (Kp.set _ _ _)
  rw [hu]
  clear hu ra4 ka4 v7 y7 rb3 kb3
  go_wp2_with fail
  refine (HD0.out _ (HK.out _ kb4).1 6 (by decide) (by decide)).mono ?_
  rintro e w25 ⟨rfl, bb⟩
  have ka5 : Kp O Y w25 := kb4.trans (Kp.of bb)
  have ra5 := (bb.block _ (gis rb4).1).trans rb4
  obtain ⟨_, ⟨_, _, _, _, _, v8, _⟩, _⟩ := vrow13 ra5
  have y8 := fZr 8 ra5
  clear bb
  go_upto_region 17 with (fail)
  obtain ⟨u6, hu⟩ : ∃ u, w25.setCell ⟨O, 8, none⟩ (.int .i64 0) = u := ⟨_, rfl⟩
  have rb5 : u6.heap[O]? = some (vRow13 0 (1900 + (nn : Int)) 0 0 D 0 0 0 0 0 0 0 none 0 0) := by rw [<- hu]; exact hSs w25 O 8 _ _ _ ra5
  have kb5 : Kp O Y u6 := by rw [<- hu]; exact ka5.trans (Kp.set _ _ _)
  rw [hu]
  clear hu ra5 ka5 v8 y8 rb4 kb4
  go_wp2_with fail
  refine (HD0.out _ (HK.out _ kb5).1 7 (by decide) (by decide)).mono ?_
  rintro e w26 ⟨rfl, bb⟩
  have ka6 : Kp O Y w26 := kb5.trans (Kp.of bb)
  have ra6 := (bb.block _ (gis rb5).1).trans rb5
  obtain ⟨_, ⟨_, _, _, _, _, _, v9⟩, _⟩ := vrow13 ra6
  have y9 := fZr 9 ra6
  clear bb
  go_upto_region 18 with (fail)
  obtain ⟨u7, hu⟩ : ∃ u, w26.setCell ⟨O, 9, none⟩ (.int .i64 0) = u := ⟨_, rfl⟩
  have rb6 : u7.heap[O]? = some (vRow13 0 (1900 + (nn : Int)) 0 0 D 0 0 0 0 0 0 0 none 0 0) := by rw [<- hu]; exact hSs w26 O 9 _ _ _ ra6
  have kb6 : Kp O Y u7 := by rw [<- hu]; exact ka6.trans (Kp.set _ _ _)
  rw [hu]
  clear hu ra6 ka6 v9 y9 rb5 kb5
  obtain ⟨_, ⟨v3, v4, v5, v6, v7, v8, v9⟩, _⟩ := vrow13 rb6
  have y3 := fZr 3 rb6
  go_upto_region 19 with (fail)
  obtain ⟨u8, hu⟩ : ∃ u, u7.setCell ⟨O, 3, none⟩ (.int .i64 D) = u := ⟨_, rfl⟩
  have r8 : u8.heap[O]? = some (vRow13 0 (1900 + (nn : Int)) 0 D D 0 0 0 0 0 0 0 none 0 0) := by rw [<- hu]; exact hSs u7 O 3 _ _ _ rb6
  have k8 : Kp O Y u8 := by rw [<- hu]; exact kb6.trans (Kp.set _ _ _)
  first | rw [hu] | (simp only [Int.add_zero]; rw [hu])
  clear hu v3 v4 v5 v6 v7 v8 v9 y3 rb6 kb6
  obtain ⟨sS, sV⟩ := HSX.out u8 (HK.out _ k8).2.2
  obtain ⟨_, g1, _⟩ := stbox sS
  obtain ⟨_, _, c2, _, _, _, _, _, _⟩ := HBX.out u8 (HK.out _ k8).2.1
  go_wp2_with fail
  refine (HYE.out _ (HK.out _ k8).1).mono ?_
  rintro e w9 ⟨A9, c9, E, rfl, hE1, hE2, ho9, b9⟩
  have k9 : Kp O Y w9 := k8.trans (Kp.of b9)
  have r9 := (b9.block _ (gis r8).1).trans r8
  have hzO : O < u8.heap.size := (gis r8).1
  have hz9 := b9.size
  clear sS sV g1 c2 r8 k8 b9
  obtain ⟨sS, sV⟩ := HSX.out w9 (HK.out _ k9).2.2
  obtain ⟨z0, z1, z2, z3, z4, z5, z6, z7⟩ := verbox sV
  obtain ⟨⟨_, v1, _⟩, _, _⟩ := vrow13 r9
  have hix := eindexed_ok (c := c9) y (1900 + (nn : Int)) (Rd.ofOwn ho9) hE1 hE2
  unfold Vs.agg at hix
  have HE1 := hID hE1
  have HE2 := hID hE2
  clear hE1 hE2 ho9
  go_wp2_with fail
  refine hix.mono ?_
  rintro e w10 ⟨A10, c10, rfl, ho10, b10⟩
  clear hix z0 z1 z2 z3 z4 z5 z6 z7 v1 sS sV
  have k10 : Kp O Y w10 := k9.trans (Kp.of b10)
  have r10 := (b10.block _ (gis r9).1).trans r9
  have hz10 := b10.size
  obtain ⟨_, _, _, _, v12⟩ := vrow13 r10
  have y12 := fZr 12 r10
  go_upto_region 23 with (fail)
  obtain ⟨u11, hu⟩ : ∃ u, w10.setCell ⟨O, 12, none⟩ (.slice A10 E.length c10) = u := ⟨_, rfl⟩
  have r11 : u11.heap[O]? = some (vRow13 0 (1900 + (nn : Int)) 0 D D 0 0 0 0 0 0 0 A10 E.length c10) := by rw [<- hu]; exact hSs w10 O 12 _ _ _ r10
  have k11 : Kp O Y u11 := by rw [<- hu]; exact k10.trans (Kp.set _ _ _)
  have ho11 : u11.ownsRow w9.heap.size 3 1 (.slice A10 E.length c10) E.length (ints (E.map Prod.snd)) := by
   rw [<- hu]
   exact own_kp ho10 (Kp.set w10 12 _) (by omega)
  have hz11 : w10.heap.size <= u11.heap.size := by rw [<- hu]; simp
  rw [hu]
  clear hu v12 y12 r10 k10 ho10 r9 k9 b10
  have hba := base_ok (c := c10) (Rd.ofOwn ho11) (fun y hy => by
   obtain ⟨q, hq, rfl⟩ := List.mem_map.1 hy
   exact HE2.out q hq) HE1.out
  obtain ⟨_, _, _, _, v12⟩ := vrow13 r11
  go_wp2_with fail
  refine hba.mono ?_
  rintro e w12 ⟨bp, bq, rfl, h1, h2, h3, h4, b12⟩
  clear hba v12
  have HBS := hID (And.intro h1 (And.intro h2 (And.intro h3 h4)))
  clear h1 h2 h3 h4
  have k12 : Kp O Y w12 := k11.trans (Kp.of b12)
  have r12 := (b12.block _ (gis r11).1).trans r11
  have ho12 := own_underF ho11 b12
  have hz12 := b12.size
  obtain ⟨_, _, v10, v11, _⟩ := vrow13 r12
  have y10 := fZr 10 r12
  have y11 := fZr 11 r12
  go_upto_region 26 with (fail)
  obtain ⟨u13, hu⟩ : ∃ u, (w12.setCell ⟨O, 10, none⟩ (.int .i64 (bp : Int))).setCell ⟨O, 11, none⟩ (.int .i64 (bq : Int)) = u := ⟨_, rfl⟩
  have r13 : u13.heap[O]? = some (vRow13 0 (1900 + (nn : Int)) 0 D D 0 0 0 0 0 (bp : Int) (bq : Int) A10 E.length c10) := by rw [<- hu]; exact hSs _ O 11 _ _ _ (hSs w12 O 10 _ _ _ r12)
  have k13 : Kp O Y u13 := by rw [<- hu]; exact (k12.trans (Kp.set _ _ _)).trans (Kp.set _ _ _)
  have ho13 : u13.ownsRow w9.heap.size 3 1 (.slice A10 E.length c10) E.length (ints (E.map Prod.snd)) := by
   rw [<- hu]
   exact own_kp ho12 ((Kp.set w12 10 _).trans (Kp.set _ 11 _)) (by omega)
  have hz13 : w12.heap.size <= u13.heap.size := by rw [<- hu]; simp
  rw [hu]
  clear hu v10 v11 y10 y11 r12 k12 ho12 r11 k11 ho11 b12
  obtain ⟨⟨v0, v1, v2⟩, ⟨v3, v4, v5, v6, v7, v8, v9⟩, v10, v11, v12⟩ := vrow13 r13
  have rZ := HBZ.out u13 (HK.out _ k13).2.1
  have hb13 := (HK.out _ k13).1
  obtain ⟨F, hF⟩ : ∃ F, (((((((((((((u13.setCell ⟨W.heap.size, 0, none⟩ (.int .i64 0)).setCell ⟨W.heap.size, 1, none⟩ (.int .i64 (1900 + (nn : Int)))).setCell ⟨W.heap.size, 2, none⟩ (.int .i64 0)).setCell ⟨W.heap.size, 3, none⟩ (.int .i64 D)).setCell ⟨W.heap.size, 4, none⟩ (.int .i64 D)).setCell ⟨W.heap.size, 5, none⟩ (.int .i64 0)).setCell ⟨W.heap.size, 6, none⟩ (.int .i64 0)).setCell ⟨W.heap.size, 7, none⟩ (.int .i64 0)).setCell ⟨W.heap.size, 8, none⟩ (.int .i64 0)).setCell ⟨W.heap.size, 9, none⟩ (.int .i64 0)).setCell ⟨W.heap.size, 10, none⟩ (.int .i64 (bp : Int))).setCell ⟨W.heap.size, 11, none⟩ (.int .i64 (bq : Int))).setCell ⟨W.heap.size, 12, none⟩ (.slice A10 E.length c10)) = F := ⟨_, rfl⟩
  obtain ⟨rF, kF⟩ := setCells_at (vs := [.int .i64 0, .int .i64 (1900 + (nn : Int)), .int .i64 0, .int .i64 D, .int .i64 D, .int .i64 0, .int .i64 0, .int .i64 0, .int .i64 0, .int .i64 0, .int .i64 (bp : Int), .int .i64 (bq : Int), .slice A10 E.length c10]) rZ rfl
  have hFF : u13.setCells W.heap.size 0 [.int .i64 0, .int .i64 (1900 + (nn : Int)), .int .i64 0, .int .i64 D, .int .i64 D, .int .i64 0, .int .i64 0, .int .i64 0, .int .i64 0, .int .i64 0, .int .i64 (bp : Int), .int .i64 (bq : Int), .slice A10 E.length c10] = F := hF
  rw [hFF] at rF kF
  have hoF := own_kp ho13 kF (by omega)
  have hbF : Below W.heap.size W F := (bV.trans ((HK.out _ k13).2.1.mono bV.size)).trans (kF.bel (lRf) (gis rZ).1)
  have HFIN := hID (And.intro rF (And.intro hoF hbF))
  clear rF kF hoF hFF hbF
  obtain ⟨⟨x0, x1, x2⟩, ⟨x3, x4, x5, x6, x7, x8, x9⟩, x10, x11, x12⟩ := vrow13 rZ
  have z0 := fZr 0 rZ
  have z1 := fZr 1 rZ
  have z2 := fZr 2 rZ
  have z3 := fZr 3 rZ
  have z4 := fZr 4 rZ
  have z5 := fZr 5 rZ
  have z6 := fZr 6 rZ
  have z7 := fZr 7 rZ
  have z8 := fZr 8 rZ
  have z9 := fZr 9 rZ
  have z10 := fZr 10 rZ
  have z11 := fZr 11 rZ
  have z12 := fZr 12 rZ
  go_wp2_with fail
  clear hF
  obtain ⟨rF, hoF, hbF⟩ := HFIN.out
  obtain ⟨⟨s0, s1, s2⟩, ⟨s3, s4, s5, s6, s7, s8, s9⟩, s10, s11, s12⟩ := vrow13 rF
  have hyy : ∀ y ∈ E.map Prod.snd, 0 <= y /\ y <= 1000000000000 := fun y hy => by
   obtain ⟨q, hq, rfl⟩ := List.mem_map.1 hy
   have := HE2.out q hq
   omega
  exact bodyPost_ret (v := .tuple #[.agg #[.int .i64 0, .int .i64 (1900 + (nn : Int)), .int .i64 0, .int .i64 D, .int .i64 D, .int .i64 0, .int .i64 0, .int .i64 0, .int .i64 0, .int .i64 0, .int .i64 (bp : Int), .int .i64 (bq : Int), .slice A10 E.length c10], .int .i64 0]) (by simp [results, Tryz.f36, go_sem, s0, s1, s2, s3, s4, s5, s6, s7, s8, s9, s10, s11, s12]) rfl
   ⟨⟨0, 1900 + (nn : Int), 0, D, D, 0, 0, 0, 0, 0, bp, bq, A10, E.length, c10⟩, rfl, vw_ok hnn hDb HBS.out HE1.out (Rd.ofOwn hoF) hyy, rfl, bW.trans (hbF.mono hzW), fun u hk => vw_ok hnn hDb HBS.out HE1.out (Rd.ofOwn (own_up hoF hk (by omega))) hyy⟩
end
end Go.Proofs.YtnlopdmhdiegnaaGreatDoor
