/- Lemmas (no conditions): Cpd, Cpe, Cpf, Cpg, OvC -/
import Derived.Test.YtnlopdmhdiegnaaGreatDoorPk24
import Derived.Test.YtnlopdmhdiegnaaGreatDoorPk25
set_option linter.unusedSimpArgs false
set_option linter.unusedVariables false
set_option maxRecDepth 100000
set_option maxHeartbeats 64000000
namespace Go.Proofs.YtnlopdmhdiegnaaGreatDoor
open Go.RowKit
section
theorem ret_none {w w' : World} {n : Nat} {m : Int -> Option Int} {e : Ending} (h : RetKs w n m e w') (hm : ∀ x, m x = none) : e = .returned (.slice none 0 0) ∨ ∃ g c, e = .returned (.slice (some ⟨g, 0, none⟩) 0 c) := by
 obtain ⟨A, c, k, K, he, h1, h2, hk, hl, hmem, hp, ho, hb⟩ := h.open
 have hK : K = [] := List.eq_nil_iff_forall_not_mem.2 fun x hx => by
  have := (hmem x).1 hx
  rw [hm] at this
  cases this
 subst hK
 obtain rfl : k = 0 := hl.symm
 rcases ho.2 with ⟨e1, _⟩ | ⟨g, cap, cur, e1, _⟩
 ·injection e1 with a1 _ a3
  subst a1 a3
  exact .inl he
 ·injection e1 with a1 _ a3
  subst a1 a3
  exact .inr ⟨g, _, he⟩
theorem ret_one {w w' : World} {n : Nat} {m : Int -> Option Int} {e : Ending} (h : RetKs w n m e w') {s : Int} (hm : ∀ x, (m x).isSome = decide (x = s)) : ∃ g c, e = .returned (.slice (some ⟨g, 0, none⟩) 1 c) /\ 1 <= c /\ w'.cell? ⟨g, 0, none⟩ = some (.int .i64 s) := by
 obtain ⟨A, c, k, K, he, h1, h2, hk, hl, hmem, hp, ho, hb⟩ := h.open
 have hs : s ∈ K := (hmem s).2 (by rw [hm]; simp)
 have hall : ∀ x ∈ K, x = s := fun x hx => by
  have := (hmem x).1 hx
  rw [hm] at this
  exact of_decide_eq_true this
 have hK : K = [s] := by
  cases K with
  | nil => cases hs
  | cons a r =>
   have ha := hall a (List.mem_cons_self ..)
   subst ha
   cases r with
   | nil => rfl
   | cons b r =>
    have hb := hall b (by simp)
    subst hb
    have := (List.pairwise_cons.1 hp).1 _ (List.mem_cons_self ..)
    omega
 subst hK
 obtain rfl : k = 1 := hl.symm
 rcases ho.2 with ⟨e1, e2⟩ | ⟨g, cap, cur, e1, _⟩
 ·injection e1 with a1 a2 a3
  exact absurd a2 (by omega)
 ·injection e1 with a1 _ a3
  subst a1 a3
  refine ⟨g, _, he, h1, ?_⟩
  have := (Rd.ofOwn ho).cellAt (b := g) (o := 0) rfl (by omega) (j := 0) (u := .int .i64 s) rfl
  exact this
theorem activity_none {A RA : Option Addr} {n c rn rc : Nat} {L : List Fc} (d su : Int) {w : World} (hL : Rd w w.heap.size 14 A n (flat Fc.cells L)) (hl : L.length = n) (hv : WkL L) (hn : n <= 900) (hM : L.filter (cvF d) = []) :
  Calls Tryz.prog 231 #[lifV A n c RA rn rc, .int .i64 d, .int .i64 su] w fun e w' => e = .returned (.tuple #[.int .i64 0, .bool false]) /\ Below w.heap.size w w' := by
 have hmm := @run_makeMap Tryz.prog
 obtain ⟨V, hV, bV, rV⟩ := lif_new w A n c RA rn rc
 obtain ⟨U, hU, bU⟩ : ∃ U, V.alloc (.map #[] 0) = U /\ Below V.heap.size V U := ⟨_, rfl, (Below.refl _ _).alloc (Nat.le_refl _) _⟩
 have hI := im_made V
 rw [hU] at hI
 have lV := (gis rV).1
 obtain ⟨z0, z1, z2, z3, z4⟩ := lifbox ((bU.block _ lV).trans rV)
 obtain ⟨X, hX, bX⟩ : ∃ X, U.alloc (.cells #[.int .i64 1, .int .i64 2] 3) = X /\ Below U.heap.size U X := ⟨_, rfl, (Below.refl _ _).alloc (Nat.le_refl _) _⟩
 have hrd := rd_int2 U 1 2
 have hzX : X.heap.size = U.heap.size + 1 := by rw [<- hX]; simp
 rw [hX, <- hzX] at hrd
 have hbX := bV.trans ((bU.trans (bX.mono bU.size)).mono bV.size)
 have hon := on_any (c := c) (RA := RA) (rn := rn) (rc := rc) (kc := 2) d ((hL.below hbX).mono hbX.size) hl hn hrd (by omega) (by omega)
 rw [on_works hv, hM] at hon
 have hIX := hI.under bX
 clear hrd hl hv hM hL hI
 unfold lifV at hon ⊢
 dsimp only [lifBox] at hV
 go_enter Tryz.func231, Tryz.ntmps231
 go_upto_region 1 with (fail)
 clear hV
 go_upto_region 2 with (fail)
 clear hU hmm
 go_wp2_with fail
 refine hon.mono ?_
 rintro e w1 hret
 clear hon
 obtain ⟨A4, n4, c4, hl4, rfl, h41, h42, hown4, hb4⟩ := hret.open
 obtain rfl : n4 = 0 := hl4.out.symm
 have hI1 := hIX.under hb4
 have hbf := hbX.trans (hb4.mono hbX.size)
 go_wp2_with fail
 refine wp_loop_rounds 1 ?_
 rw [rounds_succ]
 go_wp2_with fail
 refine (keys_call _ _).mono ?_
 rintro e w2 ⟨rfl, rfl⟩
 go_wp2_with fail
 refine (keys_ret hI1 (by omega)).mono ?_
 rintro e w3 hks
 have hb3 := (hks.open).choose_spec.choose_spec.choose_spec.choose_spec.2.2.2.2.2.2.2.2
 have hfin := hbf.trans ((((Below.refl w1.heap.size w1).alloc (Nat.le_refl _) _).trans (hb3.mono (by simp))).mono hbf.size)
 rcases ret_none hks (fun _ => rfl) with rfl | ⟨g, c5, rfl⟩
 ·go_wp2_with fail
  go_ret2
  exact ⟨rfl, hfin⟩
 ·go_wp2_with fail
  go_ret2
  exact ⟨rfl, hfin⟩
theorem activity_one {A RA : Option Addr} {n c rn rc : Nat} {L : List Fc} (d su : Int) {w : World} (hL : Rd w w.heap.size 14 A n (flat Fc.cells L)) (hl : L.length = n) (hv : WkL L) (hn : n <= 900) {k m f t a : Int} (hM : L.filter (cvF d) = [wkF k m f t a]) (hk0 : 0 <= k) (hk1 : k <= 5) :
  Calls Tryz.prog 231 #[lifV A n c RA rn rc, .int .i64 d, .int .i64 su] w fun e w' => e = .returned (.tuple #[.int .i64 k, .bool true]) /\ Below w.heap.size w w' := by
 have hmm := @run_makeMap Tryz.prog
 obtain ⟨V, hV, bV, rV⟩ := lif_new w A n c RA rn rc
 obtain ⟨U, hU, bU⟩ : ∃ U, V.alloc (.map #[] 0) = U /\ Below V.heap.size V U := ⟨_, rfl, (Below.refl _ _).alloc (Nat.le_refl _) _⟩
 have hI := im_made V
 rw [hU] at hI
 have lV := (gis rV).1
 obtain ⟨z0, z1, z2, z3, z4⟩ := lifbox ((bU.block _ lV).trans rV)
 obtain ⟨X, hX, bX⟩ : ∃ X, U.alloc (.cells #[.int .i64 1, .int .i64 2] 3) = X /\ Below U.heap.size U X := ⟨_, rfl, (Below.refl _ _).alloc (Nat.le_refl _) _⟩
 have hrd := rd_int2 U 1 2
 have hzX : X.heap.size = U.heap.size + 1 := by rw [<- hX]; simp
 rw [hX, <- hzX] at hrd
 have hbX := bV.trans ((bU.trans (bX.mono bU.size)).mono bV.size)
 have hon := on_any (c := c) (RA := RA) (rn := rn) (rc := rc) (kc := 2) d ((hL.below hbX).mono hbX.size) hl hn hrd (by omega) (by omega)
 rw [on_works hv, hM] at hon
 have hIX := hI.under bX
 have HK := Lib.hid (show 0 <= k /\ k <= 5 from ⟨hk0, hk1⟩)
 clear hrd hl hv hM hL hI hk0 hk1
 unfold lifV at hon ⊢
 dsimp only [lifBox] at hV
 go_enter Tryz.func231, Tryz.ntmps231
 go_upto_region 1 with (fail)
 clear hV
 go_upto_region 2 with (fail)
 clear hU hmm
 go_wp2_with fail
 refine hon.mono ?_
 rintro e w1 hret
 clear hon
 obtain ⟨A4, n4, c4, hl4, rfl, h41, h42, hown4, hb4⟩ := hret.open
 obtain rfl : n4 = 1 := hl4.out.symm
 have hI1 := hIX.under hb4
 have hbf := hbX.trans (hb4.mono hbX.size)
 have hzf := hbf.size
 have hQ : w.heap.size <= V.heap.size := bV.size
 obtain ⟨_, g, o2, rfl, hgb, f0⟩ := fc_cells (Rd.ofOwn hown4) (k := 0) (x := wkF k m f t a) rfl
 have f1 : FcAt w1 g o2 (wkF k m f t a) := by simpa using f0
 clear f0
 obtain ⟨p0, p1, p2, p3, p4, p5, p6, p7, p8, p9, p10, p11, p12, p13⟩ := f1
 dsimp only [wkF] at p0 p1 p2 p3 p4 p5 p6 p7 p8 p9 p10 p11 p12 p13
 clear z0 z1 z2 z3 z4 hown4 hb4
 generalize V.heap.size = Q at *
 go_wp2_with fail
 refine wp_loop_rounds 2 ?_
 rw [rounds_succ]
 go_upto_region 5 with (fail)
 obtain ⟨W, hW, fx, hzW, hbA, _⟩ := fact_box w1 (wkF k m f t a)
 dsimp only [wkF] at hW
 have hIW := hI1.under hbA
 rw [<- hW] at ⊢
 clear hW
 obtain ⟨t0, t1, t2, t3, t4, t5, t6, t7, t8, t9, t10, t11, t12, t13⟩ := fx.of0
 dsimp only [wkF] at t0 t1 t2 t3 t4 t5 t6 t7 t8 t9 t10 t11 t12 t13
 have hbW := hbf.trans (hbA.mono hzf)
 have hlook : (Instr.lookup 240 (.map (some Q)) (.int .i64 k) false).run Tryz.prog W = .ok (.int .i64 0) W := hIW.look (x := k) (by have := HK.out; omega) (by have := HK.out; omega)
 obtain ⟨Y, hput, hIY, hgY⟩ := hIW.put (by omega) (x := k) (y := 100) (by have := HK.out; omega) (by have := HK.out; omega) (by omega) (by omega)
 have hbY : Below w.heap.size w Y := hbW.grown hgY (by have := hbW.size; omega) (fun g' e => by injection e with e; omega)
 have hzY := hbY.size
 have lY : w1.heap.size < W.heap.size := by omega
 have t10' : Y.cell? ⟨w1.heap.size, 10, none⟩ = some (.int .i64 100) := hgY.cell (a := ⟨w1.heap.size, 10, none⟩) t10 (by intro e; injection e with e; have e2 : w1.heap.size = Q := e; have := hI1.lt; omega)
 clear fx hIW hgY hbW hbA
 go_wp2_with fail
 rw [rounds_succ]
 go_wp2_with fail
 refine (keys_call _ _).mono ?_
 rintro e w2 ⟨rfl, rfl⟩
 go_wp2_with fail
 refine (keys_ret hIY (by omega)).mono ?_
 rintro e w3 hks
 have hb3 := (hks.open).choose_spec.choose_spec.choose_spec.choose_spec.2.2.2.2.2.2.2.2
 have hfin := hbY.trans ((((Below.refl Y.heap.size Y).alloc (Nat.le_refl _) _).trans (hb3.mono (by simp))).mono hzY)
 obtain ⟨g5, c5, rfl, hc5, hg5⟩ := ret_one hks (s := k) (fun x => by by_cases hx : x = k <;> simp [hx])
 clear hks hb3
 go_wp2_with fail
 go_ret2
 exact ⟨rfl, hfin⟩
end
section
structure RuOk (r : Ru) : Prop where
 f : r.f = 0
 p : r.p = 730
 b : r.b = 25
 d : 0 <= r.d /\ r.d <= 73049
 m : okM (-1) r.m = true
 l : r.m.length <= 6
theorem RuOk.at {r : Ru} (h : RuOk r) {d : Int} (hd : isD d = true) : atT [r] d = some r := by
 have := atT_snoc [] r hd
 rw [List.nil_append] at this
 rw [this, if_pos (by rw [h.f]; exact ((isD_iff d).1 hd).1)]
theorem RuOk.chk {r : Ru} (h : RuOk r) : chkT [r] = 0 := by
 have h1 : okR r = true := by
  unfold okR
  rw [h.m, Bool.and_true]
  refine decide_eq_true ?_
  have := h.d
  rw [h.f, h.p, h.b]
  omega
 have h2 : okT (-1) [r] = true := by
  show (okR r && decide (-1 < r.f) && true) = true
  rw [h1, h.f]
  rfl
 unfold chkT
 rw [if_neg (by simp)]
 show (if r.f = 0 then (if okT (-1) [r] = true then (0 : Int) else 1) else 1) = 0
 rw [if_pos h.f, if_pos h2]
theorem law_core {A RA : Option Addr} {n c rc : Nat} {L : List Fc} {x : Rv} {d : Nat} {s : Int} {b : Bool} {w : World} (hd : d <= 73048) (hL : Rd w w.heap.size 14 A n (flat Fc.cells L)) (hl : L.length = n) (hv : WkL L) (hn : n <= 900)
  (hX : Rus w w.heap.size RA 1 [x]) (hx : RuOk x.r)
  (hact : ∀ u, Rd u u.heap.size 14 A n (flat Fc.cells L) -> Calls Tryz.prog 231 #[lifV A n c RA 1 rc, .int .i64 (d : Int), .int .i64 25] u fun e w' => e = .returned (.tuple #[.int .i64 s, .bool b]) /\ Below u.heap.size u w') :
  Calls Tryz.prog 187 #[lifV A n c RA 1 rc, .int .i64 (d : Int)] w fun e w' => e = .returned (.tuple #[.int .i64 (if b then s else -1), .int .i64 (if b then 3 else 0)]) /\ Below w.heap.size w w' := by
 have hD : isD (d : Int) = true := (isD_iff _).2 ⟨by omega, by omega⟩
 obtain ⟨V, hV, bV, rV⟩ := lif_new w A n c RA 1 rc
 have lV := (gis rV).1
 obtain ⟨z0, z1, z2, z3, z4⟩ := lifbox rV
 have hat := tat_any (c := rc) (d : Int) ((hX.below bV).mono bV.size) (by omega) (fun y hy => by rw [List.mem_singleton.1 hy]; have := hx.l; omega)
 rw [show ([x].map Rv.r) = [x.r] from rfl, hx.at hD] at hat
 have q1 := hx.f
 have q2 := hx.p
 have q3 := hx.b
 obtain ⟨⟨xf, xd, xp, xb, xm⟩, xa, xc⟩ := x
 dsimp only at q1 q2 q3
 subst q1 q2 q3
 have hcv := covers_any 0 73049 (d : Int)
 rw [show (decide ((0 : Int) <= (d : Int)) && decide ((d : Int) < 73049)) = true by rw [decide_eq_true (by omega), decide_eq_true (by omega)]; rfl] at hcv
 have hLu := fun (u : World) (hu : Below w.heap.size w u) => (show Rd u u.heap.size 14 A n (flat Fc.cells L) from (hL.below hu).mono hu.size)
 have hpo := fun u => posting_no (A := A) (RA := RA) (n := n) (c := c) (rn := 1) (rc := rc) (d : Int) 730 u
 have hci := fun u hu => civil_no (c := c) (RA := RA) (rn := 1) (rc := rc) (d : Int) (hLu u hu) hl hv hn
 have hbe := fun u hu => benefit_no (c := c) (RA := RA) (rn := 1) (rc := rc) (d : Int) (hLu u hu) hl hv hn
 have hre := fun u hu => resid_no (c := c) d hd (hLu u hu) hl hv hn
 have hac := fun u hu => hact u (hLu u hu)
 have HCV := Lib.hid hcv
 clear hl hv hact hX hx hLu hcv hD hL hd
 unfold lifV at hpo hci hbe hac ⊢
 have HPO := Lib.hid hpo
 have HCI := Lib.hid hci
 have HBE := Lib.hid hbe
 have HRE := Lib.hid hre
 have HAC := Lib.hid hac
 clear hpo hci hbe hre hac
 dsimp only [lifBox] at hV
 generalize (d : Int) = D at *
 go_enter Tryz.func187, Tryz.ntmps187
 go_upto_region 1 with (fail)
 clear hV
 go_wp2_with fail
 refine hat.mono ?_
 intro e w1 hr
 obtain ⟨hb1, a, c2, rfl, hown⟩ := hr
 clear hat
 dsimp only [Rv.agg]
 go_upto_region 2 with (fail)
 obtain ⟨W, hW, bW, rW⟩ := box_new w1 (.cells #[.int .i64 0, .int .i64 xd, .int .i64 730, .int .i64 25, .slice a xm.length c2] 56)
 rw [hW]
 clear hW hown z0 z1 z2 z3 z4
 have lW := (gis rW).1
 have hbVW : Below V.heap.size V W := hb1.trans (bW.mono hb1.size)
 have hbW := bV.trans (hbVW.mono bV.size)
 have hbx : ∀ u, Below W.heap.size W u -> (u.cell? ⟨w.heap.size, 0, none⟩ = some (.slice A n c) /\ u.cell? ⟨w.heap.size, 1, none⟩ = some (.int .i64 0) /\ u.cell? ⟨w.heap.size, 2, none⟩ = some (.int .i64 73049) /\ u.cell? ⟨w.heap.size, 3, none⟩ = some (.slice none 0 0) /\ u.cell? ⟨w.heap.size, 4, none⟩ = some (.slice RA 1 rc)) /\ u.cell? ⟨w1.heap.size, 2, none⟩ = some (.int .i64 730) /\ u.cell? ⟨w1.heap.size, 3, none⟩ = some (.int .i64 25) /\ Below w.heap.size w u := fun u hu => by
  refine ⟨lifbox ((hu.block _ (Nat.lt_of_lt_of_le lV hbVW.size)).trans ((hbVW.block _ lV).trans rV)), ?_, ?_, hbW.trans (hu.mono hbW.size)⟩
  ·rw [cell_of_row _ _ _ _ _ _ ((hu.block _ lW).trans rW)]; rfl
  ·rw [cell_of_row _ _ _ _ _ _ ((hu.block _ lW).trans rW)]; rfl
 have HX := Lib.hid hbx
 clear hbx rV rW hb1 bV bW hbVW lV lW
 obtain ⟨⟨z0, z1, z2, z3, z4⟩, y2, y3, hbw⟩ := HX.out W (Below.refl _ _)
 generalize w1.heap.size = Q at *
 go_wp2_with fail
 refine (HCV.out _).mono ?_
 rintro e w2 ⟨rfl, b2⟩
 clear z0 z1 z2 z3 z4 y2 y3 hbw
 obtain ⟨⟨z0, z1, z2, z3, z4⟩, y2, y3, hbw⟩ := HX.out w2 b2
 go_wp2_with fail
 refine (HPO.out _).mono ?_
 rintro e w3 ⟨rfl, b3⟩
 have b23 := b2.trans (b3.mono b2.size)
 clear z0 z1 z2 z3 z4 y2 y3 hbw b2 b3
 obtain ⟨⟨z0, z1, z2, z3, z4⟩, y2, y3, hbw⟩ := HX.out w3 b23
 go_wp2_with fail
 refine (HCI.out _ hbw).mono ?_
 rintro e w4 ⟨rfl, b4⟩
 have b34 := b23.trans (b4.mono b23.size)
 clear z0 z1 z2 z3 z4 y2 y3 hbw b23 b4
 obtain ⟨⟨z0, z1, z2, z3, z4⟩, y2, y3, hbw⟩ := HX.out w4 b34
 go_wp2_with fail
 refine (HAC.out _ hbw).mono ?_
 rintro e w5 ⟨rfl, b5⟩
 have b45 := b34.trans (b5.mono b34.size)
 clear z0 z1 z2 z3 z4 y2 y3 hbw b34 b5
 obtain ⟨⟨z0, z1, z2, z3, z4⟩, y2, y3, hbw⟩ := HX.out w5 b45
 cases b with
 | true =>
  go_wp2_with fail
  go_ret2
  exact ⟨rfl, hbw⟩
 | false =>
  go_wp2_with fail
  refine (HBE.out _ hbw).mono ?_
  rintro e w6 ⟨rfl, b6⟩
  have b56 := b45.trans (b6.mono b45.size)
  clear z0 z1 z2 z3 z4 y2 y3 hbw b45 b6
  obtain ⟨⟨z0, z1, z2, z3, z4⟩, y2, y3, hbw⟩ := HX.out w6 b56
  go_wp2_with fail
  refine (HRE.out _ hbw).mono ?_
  rintro e w7 ⟨rfl, b7⟩
  have b67 := b56.trans (b7.mono b56.size)
  obtain ⟨_, _, _, hbw7⟩ := HX.out w7 b67
  go_wp2_with fail
  go_ret2
  exact ⟨rfl, hbw7⟩
theorem Wks.wkl {ws : List Sp} {L : List Fc} {lo : Int} (h : Wks ws L) (h0 : 0 <= lo) (hw : WOk lo ws) (h6 : ws.length <= 6) : WkL L := fun _ hx => h.vld h0 hw h6 hx
theorem law_in {A RA : Option Addr} {n c rc : Nat} {L : List Fc} {ws : List Sp} {x : Rv} {d k : Nat} {s : Sp} {lo : Int} {w : World} (hd : d <= 73048) (hL : Rd w w.heap.size 14 A n (flat Fc.cells L)) (hl : L.length = n) (hW : Wks ws L) (h0 : 0 <= lo) (hw : WOk lo ws) (h6 : ws.length <= 6)
  (hX : Rus w w.heap.size RA 1 [x]) (hx : RuOk x.r) (hs : ws[k]? = some s) (h1 : s.f <= d) (h2 : (d : Int) < s.t) :
  Calls Tryz.prog 187 #[lifV A n c RA 1 rc, .int .i64 (d : Int)] w fun e w' => e = .returned (.tuple #[.int .i64 (k : Int), .int .i64 3]) /\ Below w.heap.size w w' := by
 obtain ⟨m, a, hM⟩ := cv_one hW hw hs h1 h2
 have hk := (List.getElem?_eq_some_iff.1 hs).1
 have hn : n <= 900 := by rw [<- hl, hW.1]; omega
 exact law_core hd hL hl (hW.wkl h0 hw h6) hn hX hx fun u hu => activity_one (d : Int) 25 hu hl (hW.wkl h0 hw h6) hn hM (by omega) (by omega)
theorem law_out {A RA : Option Addr} {n c rc : Nat} {L : List Fc} {ws : List Sp} {x : Rv} {d : Nat} {lo : Int} {w : World} (hd : d <= 73048) (hL : Rd w w.heap.size 14 A n (flat Fc.cells L)) (hl : L.length = n) (hW : Wks ws L) (h0 : 0 <= lo) (hw : WOk lo ws) (h6 : ws.length <= 6)
  (hX : Rus w w.heap.size RA 1 [x]) (hx : RuOk x.r) (hs : ∀ (k : Nat) (s : Sp), ws[k]? = some s -> ¬ (s.f <= d /\ (d : Int) < s.t)) :
  Calls Tryz.prog 187 #[lifV A n c RA 1 rc, .int .i64 (d : Int)] w fun e w' => e = .returned (.tuple #[.int .i64 (-1), .int .i64 0]) /\ Below w.heap.size w w' := by
 have hM := cv_none hW hs
 have hn : n <= 900 := by rw [<- hl, hW.1]; omega
 exact law_core (s := 0) (b := false) hd hL hl (hW.wkl h0 hw h6) hn hX hx fun u hu => activity_none (d : Int) 25 hu hl (hW.wkl h0 hw h6) hn hM
end
section
def cutO (L : List Fc) : List Int := [0, 73049, 0, 73049] ++ L.flatMap fun x => [x.f, x.t]
theorem cutO_take {L : List Fc} {k : Nat} {x : Fc} (hx : L[k]? = some x) : cutO (L.take (k + 1)) = cutO (L.take k) ++ [x.f, x.t] := by
 unfold cutO
 rw [List.take_add_one, hx, List.flatMap_append, List.append_assoc]
 rfl
theorem cutO_len : ∀ (L : List Fc), (cutO L).length = 4 + 2 * L.length := by
 intro L
 unfold cutO
 rw [List.length_append]
 have : ∀ l : List Fc, (l.flatMap fun x => [x.f, x.t]).length = 2 * l.length := by
  intro l
  induction l with
  | nil => rfl
  | cons a r ih =>
   rw [List.flatMap_cons, List.length_append, ih, List.length_cons]
   simp
   omega
 rw [this]
 rfl
theorem lcuts_of {ws : List Sp} {L : List Fc} (h : Wks ws L) : CutsL ws (Lib.compact (sortI (cutO L ++ [0]))) := by
 refine ⟨(compact_ok (sortI_le _)).2, fun x => (sortI_cut x).trans ?_⟩
 unfold cutO isCut
 simp only [List.mem_append, List.mem_cons, List.not_mem_nil, or_false, List.mem_flatMap]
 constructor
 ·rintro ((h1 | ⟨y, hy, h2⟩) | h1)
  ·omega
  ·obtain ⟨k, hk⟩ := List.getElem?_of_mem hy
   obtain ⟨s, n, a, hs, rfl, _⟩ := h.at hk
   exact .inr (.inr ⟨s, List.mem_of_getElem? hs, h2⟩)
  ·exact .inl h1
 ·rintro (h1 | h1 | ⟨s, hs, h1⟩)
  ·exact .inr h1
  ·exact .inl (.inl (by omega))
  ·obtain ⟨k, hk⟩ := List.getElem?_of_mem hs
   obtain ⟨n, a, hL, _⟩ := h.2 k s hk
   exact .inl (.inr ⟨_, List.mem_of_getElem? hL, h1⟩)
def RetCu (w : World) (ws : List Sp) (e : Ending) (w' : World) : Prop := ∃ A c D, e = .returned (.slice A D.length c) /\ CutsL ws D /\ D.length <= 40 /\ Rd w' w'.heap.size 1 A D.length (ints D) /\ Below w.heap.size w w'
theorem cuts_any {A RA : Option Addr} {n c rc : Nat} {L : List Fc} {ws : List Sp} {x : Rv} {w : World} (hL : Rd w w.heap.size 14 A n (flat Fc.cells L)) (hl : L.length = n) (hW : Wks ws L) (h6 : ws.length <= 6)
  (hX : Rus w w.heap.size RA 1 [x]) (hx : RuOk x.r) :
  Calls Tryz.prog 186 #[lifV A n c RA 1 rc] w (RetCu w ws) := by
 obtain ⟨i1, hi1, hy0, hy1, hy2⟩ := info_parts info_int
 obtain ⟨V, hV, bV, rV⟩ := lif_new w A n c RA 1 rc
 have lV := (gis rV).1
 have hn6 : n <= 6 := by rw [<- hl, hW.1]; exact h6
 have HC := Lib.hid (lcuts_of hW)
 have HL := Lib.hid hl
 have q1 := hx.f
 obtain ⟨⟨xf, xd, xp, xb, xm⟩, xa, xc⟩ := x
 dsimp only at q1
 subst q1
 obtain ⟨_, gR, oR, rfl, hgR, r0, r1, r2, r3, r4, _⟩ := rv_cells hX (k := 0) rfl
 dsimp only at r0 r1 r2 r3 r4
 rw [Nat.zero_mul, Nat.add_zero] at r0 r1 r2 r3 r4
 have HR := Lib.hid (fun (u : World) (hu : Below w.heap.size w u) => (show u.cell? ⟨gR, oR, none⟩ = some (.int .i64 0) /\ u.cell? ⟨gR, oR + 1, none⟩ = some (.int .i64 xd) /\ u.cell? ⟨gR, oR + 2, none⟩ = some (.int .i64 xp) /\ u.cell? ⟨gR, oR + 3, none⟩ = some (.int .i64 xb) /\ u.cell? ⟨gR, oR + 4, none⟩ = some (.slice xa xm.length xc) from
  ⟨(hu.cell (by exact hgR)).trans r0, (hu.cell (by exact hgR)).trans r1, (hu.cell (by exact hgR)).trans r2, (hu.cell (by exact hgR)).trans r3, (hu.cell (by exact hgR)).trans r4⟩))
 clear hl hW h6 hx r0 r1 r2 r3 r4 hX
 have hzV : V.heap.size = w.heap.size + 1 := by rw [<- hV]; simp
 obtain ⟨z0, z1, z2, z3, z4⟩ := lifbox rV
 unfold lifV
 dsimp only [lifBox] at hV
 go_enter Tryz.func186, Tryz.ntmps186
 go_upto_region 1 with (fail)
 clear hV
 go_upto_region 2 with (fail)
 have hown0 : (V.alloc (.cells #[.int .i64 0, .int .i64 73049, .int .i64 0, .int .i64 73049] 3)).ownsRow w.heap.size 3 1 (.slice (some ⟨V.heap.size, 0, none⟩) 4 4) 4 (ints [0, 73049, 0, 73049]) :=
  own_full (cs := #[.int .i64 0, .int .i64 73049, .int .i64 0, .int .i64 73049]) (heap_alloc_new V _) bV.size rfl (by unfold maxLen; omega)
 obtain ⟨X, hX, bX⟩ : ∃ X, V.alloc (.cells #[.int .i64 0, .int .i64 73049, .int .i64 0, .int .i64 73049] 3) = X /\ Below V.heap.size V X := ⟨_, rfl, (Below.refl _ _).alloc (Nat.le_refl _) _⟩
 rw [hX, hzV] at hown0
 rw [hX]
 clear hX
 have rX := (bX.block _ lV).trans rV
 have hbX := bV.trans (bX.mono bV.size)
 clear z0 z1 z2 z3 z4
 obtain ⟨z0, z1, z2, z3, z4⟩ := lifbox rX
 go_wp2_with fail
 go_loopw [3, 20] (fun v i wr => ∃ (j : Nat) (ys : List Int), j <= n /\ i = .int .i64 (j : Int) /\ ys = cutO (L.take j) /\ wr.ownsRow w.heap.size 3 1 v ys.length (ints ys) /\ wr.heap[w.heap.size]? = some (lifBox A n c (some ⟨gR, oR, none⟩) 1 rc) /\ Below w.heap.size w wr) (fun _ i _ => n - (intOf i).toNat)
 case atStart => exact ⟨0, [0, 73049, 0, 73049], by omega, rfl, rfl, hown0, rX, hbX⟩
 case round =>
  obtain ⟨j, ys, hj, rfl, hys, hown, hrow, hb⟩ := hrel
  have hwsz := hb.size
  have hyl : ys.length <= 16 := by rw [hys, cutO_len, List.length_take]; omega
  have hQl := (gis hrow).1
  clear z0 z1 z2 z3 z4
  obtain ⟨A1, c1, rfl, hnc1, hcm1, _⟩ := own_form hown
  by_cases hlt : j < n
  ·have hkl : j < L.length := by rw [HL.out]; exact hlt
   obtain ⟨y, hy⟩ : ∃ y, L[j]? = some y := ⟨_, List.getElem?_eq_getElem hkl⟩
   have HST := Lib.hid (show cutO (L.take (j + 1)) = ys ++ [y.f, y.t] by rw [hys]; exact cutO_take hy)
   obtain ⟨_, g, o2, rfl, hgb, f0⟩ := fc_cells (hL.below hb) hy
   obtain ⟨p0, p1, p2, p3, p4, p5, p6, p7, p8, p9, p10, p11, p12, p13⟩ := f0
   have hlo : (0 : Int) <= (j : Int) := by omega
   have hhi : (j : Int) < (n : Int) := by omega
   clear hy hkl hys
   go_upto_region 5 with (fail)
   obtain ⟨W, hW, fx, hzW, hbA, _⟩ := fact_box wr y
   have hownA := hown.kept (row := none) (grownBy_of_below hbA none) (Classical.em _)
   have hrowA := (hbA.block _ hQl).trans hrow
   rw [<- hW] at ⊢
   clear hW
   have hbw := hb.trans (hbA.mono hwsz)
   have hzw := hbw.size
   obtain ⟨t0, t1, t2, t3, t4, t5, t6, t7, t8, t9, t10, t11, t12, t13⟩ := fx.of0
   have hzW2 : wr.heap.size < W.heap.size := by omega
   clear p0 p1 p2 p3 p4 p5 p6 p7 p8 p9 p10 p11 p12 p13 hown hb hrow hzW
   go_wp2_with (at_builtin; go_loud (refine wpList_append_rd (by rfl) (.tmp 24) (.tmp 31) 45 (by rfl) w.heap.size 3 i1 _ 1 8 Tryz.underlying45 hi1 hy0 hy1 hy2 rfl (by omega) (.slice A1 ys.length c1) ys.length (ints ys) (by rfl) (hownA.alloc _) (W.heap.size + 1) (some ⟨W.heap.size, 0, none⟩) 2 2 [.int .i64 y.f, .int .i64 y.t] (by rfl) (Rd.built (heap_alloc_new W _) (by omega) rfl) (by intro u hu; simp at hu; rcases hu with rfl | rfl <;> rfl) (by unfold maxLen; omega) (by omega) (by simp; omega) ?_); intro v4 w4 hown4 hg4 hat4)
   have hb4 := (hbw.alloc hzw (.cells #[.int .i64 y.f, .int .i64 y.t] 3)).grown hg4 (by simp; omega) (fun g e => (hownA.lt g e).1)
   have hr4 := (hg4.block w.heap.size (by simp; omega) (fun e => own_ne hownA hrowA (by decide) e.symm)).trans ((Below.heap_alloc W (.cells #[.int .i64 y.f, .int .i64 y.t] 3) _ (by omega)).trans hrowA)
   go_roundw
   case rel => exact ⟨j + 1, ys ++ [y.f, y.t], by omega, by go_num, HST.out.symm, by rw [ints_append, List.length_append]; exact hown4, hr4, hb4⟩
   case measure => simp [intOf]; omega
  ·have hkN : L.take j = L := List.take_of_length_le (by have := HL.out; omega)
   rw [hkN] at hys
   obtain ⟨z0, z1, z2, z3, z4⟩ := lifbox hrow
   obtain ⟨k0, k1, k2, k3, k4⟩ := HR.out _ hb
   go_wp2_with fail
   refine wp_loop_rounds 2 ?_
   rw [rounds_succ]
   go_upto_region 10 with (fail)
   obtain ⟨W, hW, bW, rW⟩ := box_new wr (.cells #[.int .i64 0, .int .i64 xd, .int .i64 xp, .int .i64 xb, .slice xa xm.length xc] 56)
   rw [hW]
   clear hW
   have f0 : W.cell? ⟨wr.heap.size, 0, none⟩ = some (.int .i64 0) := by rw [cell_of_row _ _ _ _ _ _ rW]; rfl
   have hownA := hown.kept (row := none) (grownBy_of_below bW none) (Classical.em _)
   have hrowA := (bW.block _ hQl).trans hrow
   have hbw := hb.trans (bW.mono hwsz)
   have hzw := hbw.size
   have hzW : wr.heap.size < W.heap.size := (gis rW).1
   clear k0 k1 k2 k3 k4 z0 z1 z2 z3 z4 hown hb hrow
   go_upto_region 11 with (at_builtin; go_loud (refine wpList_append_rd (by rfl) (.tmp 41) (.tmp 44) 45 (by rfl) w.heap.size 3 i1 _ 1 8 Tryz.underlying45 hi1 hy0 hy1 hy2 rfl (by omega) (.slice A1 ys.length c1) ys.length (ints ys) (by rfl) (hownA.alloc _) (W.heap.size + 1) (some ⟨W.heap.size, 0, none⟩) 1 1 [.int .i64 0] (by rfl) (Rd.built (heap_alloc_new W _) (by omega) rfl) (by intro u hu; simp at hu; rcases hu with rfl; rfl) (by unfold maxLen; omega) (by omega) (by simp; omega) ?_); intro v4 w4 hown4 hg4 hat4)
   have hb4 := (hbw.alloc hzw (.cells #[.int .i64 0] 3)).grown hg4 (by simp; omega) (fun g e => (hownA.lt g e).1)
   have hr4 : w4.heap[w.heap.size]? = some (lifBox A n c (some ⟨gR, oR, none⟩) 1 rc) := by
    have h1 : (W.alloc (.cells #[.int .i64 0] 3)).heap[w.heap.size]? = some (lifBox A n c (some ⟨gR, oR, none⟩) 1 rc) := (Below.heap_alloc _ _ _ (by omega)).trans hrowA
    rw [hg4.block _ (by simp; omega) (fun e => own_ne hownA hrowA (by decide) e.symm)]
    exact h1
   obtain ⟨z0, z1, z2, z3, z4⟩ := lifbox hr4
   obtain ⟨O, hO⟩ : ∃ O, O = ys ++ [0] := ⟨_, rfl⟩
   have hown5 : w4.ownsRow w.heap.size 3 1 v4 O.length (ints O) := by rw [hO, ints_append, List.length_append]; exact hown4
   have hOl : O.length = ys.length + 1 := by rw [hO]; simp
   have HO := Lib.hid (show O = cutO L ++ [0] by rw [hO, hys])
   obtain ⟨A4, c4, rfl, hn4, hm4, _⟩ := own_form hown5
   have hOl2 : O.length <= 17 := by omega
   clear hown4 hO hys hOl hat4 hr4
   go_wp2_with fail
   refine wp_loop_rounds 1 ?_
   rw [rounds_succ]
   go_wp2_with fail
   rw [rounds_succ]
   go_wp2_with fail
   refine (sort_cuts hown5 (by omega)).mono ?_
   rintro e w5 ⟨rfl, hs5, hg5⟩
   have hb5 := hb4.grown hg5 hb4.size (fun g e => (hown5.lt g e).1)
   go_wp2_with fail
   refine (compact_cuts hs5 (sortI_length O) (by omega) hn4).mono ?_
   rintro e w6 ⟨rfl, hrd, hg6⟩
   have hb6 := hb5.grown hg6 hb5.size (fun g e => (hown5.lt g e).1)
   have hcl := compact_length (sortI O)
   rw [sortI_length] at hcl
   have hC := HC.out
   rw [<- HO.out] at hC
   go_wp2_with fail
   go_ret
   exact ⟨A4, c4, _, rfl, hC, by omega, hrd, hb6⟩
end
section
theorem own_setlt {w : World} {base e sz n : Nat} {v : Value} {xs : List Value} (h : w.ownsRow base e sz v n xs) {p : Addr} (hp : p.block < base) (u : Value) : (w.setCell p u).ownsRow base e sz v n xs :=
 ownsRow_setCell_ne h (fun e => by have := (h.lt _ e).1; omega) u
def RetPr (w : World) (n : Nat) (L : List Fc) (R : Option Addr) (rc : Nat) (e : Ending) (w' : World) : Prop := ∃ A c, e = .returned (.tuple #[.agg #[.slice A n c, .int .i64 0, .int .i64 73049, .slice none 0 0, .slice R 1 rc], .bool true]) /\ Rd w' w'.heap.size 14 A n (flat Fc.cells L) /\ Below w.heap.size w w'
theorem prepare_any {A RA : Option Addr} {n c rc : Nat} {L : List Fc} {x : Rv} {w : World} (hL : Rd w w.heap.size 14 A n (flat Fc.cells L)) (hl : L.length = n) (hv : WkL L) (hn : n <= 900) (hX : Rus w w.heap.size RA 1 [x]) (hx : RuOk x.r) :
  Calls Tryz.prog 185 #[.slice A n c, .slice RA 1 rc] w (RetPr w n L RA rc) := by
 obtain ⟨W, hW, bW, rW⟩ := box_new w (.cells #[.slice none 0 0, .int .i64 0, .int .i64 0, .slice none 0 0, .slice none 0 0] 300)
 have hcu := fun (u : World) (hu : Below w.heap.size w u) => current_any (c := c) ((hL.below hu).mono hu.size) hl hv hn
 have hli := fun (u : World) (hu : Below w.heap.size w u) => life_any (c := c) ((hL.below hu).mono hu.size) hl hv hn
 have hpo := fun (u : World) (hu : Below w.heap.size w u) => postings_no (c := c) ((hL.below hu).mono hu.size) hl hv hn
 have hch := fun (u : World) (hu : Below w.heap.size w u) => tcheck_any (c := rc) ((hX.below hu).mono hu.size) (by unfold maxLen; omega) (fun y hy => by rw [List.mem_singleton.1 hy]; have := hx.l; unfold maxLen; omega)
 rw [show ([x].map Rv.r) = [x.r] from rfl, hx.chk] at hch
 have HCU := Lib.hid hcu
 have HLI := Lib.hid hli
 have HPO := Lib.hid hpo
 have HCH := Lib.hid hch
 have HL := Lib.hid hl
 have lW := (gis rW).1
 clear hcu hli hpo hch hv hn hX hx hL
 go_enter Tryz.func185, Tryz.ntmps185
 go_upto_region 1 with (fail)
 clear hW
 go_wp2_with fail
 refine (HCU.out _ bW).mono ?_
 rintro e w1 hret
 obtain ⟨A4, n4, c4, hl4, rfl, h41, h42, hown4, hb4⟩ := hret.open
 obtain rfl : n4 = n := by rw [<- hl4.out]; exact HL.out
 have b1 := bW.trans (hb4.mono bW.size)
 go_wp2_with fail
 refine (HLI.out _ b1).mono ?_
 rintro e w2 ⟨rfl, hb2⟩
 have b2 := b1.trans (hb2.mono b1.size)
 go_wp2_with fail
 refine (HPO.out _ b2).mono ?_
 rintro e w3 ⟨rfl, hb3⟩
 have b3 := b2.trans (hb3.mono b2.size)
 go_wp2_with fail
 refine (HCH.out _ b3).mono ?_
 rintro e w5 ⟨rfl, hb5⟩
 have b5 := b3.trans (hb5.mono b3.size)
 have hW5 : Below W.heap.size W w5 := ((hb4.trans (hb2.mono hb4.size)).trans (hb3.mono (Nat.le_trans hb4.size hb2.size))).trans (hb5.mono (Nat.le_trans hb4.size (Nat.le_trans hb2.size hb3.size)))
 have hown5 := own_underF (own_underF (own_underF hown4 hb2) hb3) hb5
 have r5 := (hW5.block _ lW).trans rW
 have s0 : w5.cell? ⟨w.heap.size, 0, none⟩ = some (.slice none 0 0) := by rw [cell_of_row _ _ _ _ _ _ r5]; rfl
 have s1 : w5.cell? ⟨w.heap.size, 1, none⟩ = some (.int .i64 0) := by rw [cell_of_row _ _ _ _ _ _ r5]; rfl
 have s2 : w5.cell? ⟨w.heap.size, 2, none⟩ = some (.int .i64 0) := by rw [cell_of_row _ _ _ _ _ _ r5]; rfl
 have s3 : w5.cell? ⟨w.heap.size, 3, none⟩ = some (.slice none 0 0) := by rw [cell_of_row _ _ _ _ _ _ r5]; rfl
 have s4 : w5.cell? ⟨w.heap.size, 4, none⟩ = some (.slice none 0 0) := by rw [cell_of_row _ _ _ _ _ _ r5]; rfl
 have y0 := frozen_of_row w5 w.heap.size 0 _ _ r5
 have y1 := frozen_of_row w5 w.heap.size 1 _ _ r5
 have y2 := frozen_of_row w5 w.heap.size 2 _ _ r5
 have y3 := frozen_of_row w5 w.heap.size 3 _ _ r5
 have y4 := frozen_of_row w5 w.heap.size 4 _ _ r5
 have hfin := ((((b5.setCell (p := ⟨w.heap.size, 0, none⟩) (Nat.le_refl _) (.slice A4 n4 c4)).setCell (p := ⟨w.heap.size, 1, none⟩) (Nat.le_refl _) (.int .i64 0)).setCell (p := ⟨w.heap.size, 2, none⟩) (Nat.le_refl _) (.int .i64 73049)).setCell (p := ⟨w.heap.size, 3, none⟩) (Nat.le_refl _) (.slice none 0 0)).setCell (p := ⟨w.heap.size, 4, none⟩) (Nat.le_refl _) (.slice RA 1 rc)
 have hlt : w.heap.size < W.heap.size := lW
 have hownF := own_setlt (own_setlt (own_setlt (own_setlt (own_setlt hown5 (p := ⟨w.heap.size, 0, none⟩) hlt (.slice A4 n4 c4)) (p := ⟨w.heap.size, 1, none⟩) hlt (.int .i64 0)) (p := ⟨w.heap.size, 2, none⟩) hlt (.int .i64 73049)) (p := ⟨w.heap.size, 3, none⟩) hlt (.slice none 0 0)) (p := ⟨w.heap.size, 4, none⟩) hlt (.slice RA 1 rc)
 clear hown4 hown5 hW5 r5 rW
 go_wp2_with fail
 exact bodyPost_ret (v := .tuple #[.agg #[.slice A4 n4 c4, .int .i64 0, .int .i64 73049, .slice none 0 0, .slice RA 1 rc], .bool true]) (by simp [results, Tryz.f185, go_sem, s0, s1, s2, s3, s4]) rfl ⟨A4, c4, rfl, Rd.ofOwn hownF, hfin⟩
end
section
theorem Nls.setCell {w : World} {base k : Nat} {vs : List Value} {ls : List (List Sp)} (h : Nls w base k vs ls) {p : Addr} {cs : Array Value} {t : TypeId} {fr : Nat × Nat} (hg : w.heap[p.block]? = some (.cells cs t fr)) (hne : 32 ≠ t) (u : Value) : Nls (w.setCell p u) base k vs ls := fun i v l h1 h2 h3 => by
 obtain ⟨A, c, e, ho⟩ := h i v l h1 h2 h3
 exact ⟨A, c, e, ownsRow_setCell_ne ho (own_ne ho hg hne) u⟩
def Bt (w : World) (base g m : Nat) (C : List Pr) : Prop := ∃ vs : List Value, w.heap[g]? = some (.cells vs.toArray 312 (0, 0)) /\ vs.length = 42 /\ Nls w base m vs (bdO C)
theorem Bt.under {w w' : World} {base g m : Nat} {C : List Pr} (h : Bt w base g m C) (hb : Below w.heap.size w w') : Bt w' base g m C := by
 obtain ⟨vs, h1, h2, h3⟩ := h
 exact ⟨vs, (hb.block g (gis h1).1).trans h1, h2, h3.under hb⟩
theorem Bt.step {w : World} {base g m : Nat} {C : List Pr} {A : Option Addr} {c : Nat} {l : List Sp} (h : Bt w base g m C) (hl : (bdO C)[m]? = some l) (ho : w.ownsRow base 32 2 (.slice A (nf (dset l)).length c) (nf (dset l)).length (flat Sp.cells (nf (dset l)))) :
  Bt (w.setCell ⟨g, m, none⟩ (.slice A (nf (dset l)).length c)) base g (m + 1) C := by
 obtain ⟨vs, h1, h2, h3⟩ := h
 refine ⟨vs.set m (.slice A (nf (dset l)).length c), ?_, by simpa using h2, ?_⟩
 ·rw [heap_setCell_same w g m _ _ _ h1]
  simp
 ·exact (h3.step hl ho).setCell (p := ⟨g, m, none⟩) h1 (by decide) _
theorem Bt.cell {w : World} {base g m k : Nat} {C : List Pr} (h : Bt w base g m C) (hk : k < 42) : (∃ v, w.cell? ⟨g, k, none⟩ = some v) /\ w.frozen? ⟨g, k, none⟩ = false := by
 obtain ⟨vs, h1, h2, h3⟩ := h
 refine ⟨⟨vs[k]'(by omega), ?_⟩, frozen_of_row w g k _ _ h1⟩
 rw [cell_of_row w g k _ _ _ h1]
 simp [h2, hk]
theorem of_dset {A : Option Addr} {n c : Nat} {C : List Pr} {w : World} (s r : Int) (h : Rd w w.heap.size 4 A n (flat Pr.cells C)) (hn : C.length = n) (hn2 : n <= 5000) :
  Calls Tryz.prog 234 #[.slice A n c, .int .i64 s, .int .i64 r] w (RetNf w (dset (ofL C s r))) := by
 have := of_any (c := c) s r h hn hn2
 rwa [show Dd C s r = dset (ofL C s r) from rfl] at this
def RetBd (w : World) (C : List Pr) (e : Ending) (w' : World) : Prop := ∃ g, e = .returned (.pointer (some ⟨g, 0, none⟩)) /\ w.heap.size <= g /\ Bd w' w.heap.size g C /\ Below w.heap.size w w'
theorem collect_any {A : Option Addr} {n c : Nat} {C : List Pr} {w : World} (h : Rd w w.heap.size 4 A n (flat Pr.cells C)) (hn : C.length = n) (hn2 : n <= 5000) :
  Calls Tryz.prog 188 #[.slice A n c] w (RetBd w C) := by
 have HN := Lib.hid hn
 clear hn
 go_enter Tryz.func188, Tryz.ntmps188
 go_wp2_with fail
 go_loopw [8] (fun i wr => ∃ a : Nat, a <= 6 /\ i = .int .i64 (a : Int) /\ Bt wr w.heap.size w.heap.size (a * 7) C /\ Below w.heap.size w wr) (fun i _ => 6 - (intOf i).toNat)
 case atStart => exact ⟨0, by omega, rfl, ⟨_, heap_alloc_new w _, rfl, Nls.zero _ _ _ _⟩, (Below.refl _ _).alloc (Nat.le_refl _) _⟩
 case round =>
  obtain ⟨a, ha, rfl, hbt, hb⟩ := hrel
  by_cases hlt : a < 6
  ·have hlo : (0 : Int) <= (a : Int) := by omega
   have hhi : (a : Int) < 6 := by omega
   obtain ⟨wo, rfl⟩ : ∃ wo : World, wo = wr := ⟨_, rfl⟩
   go_wp2_with fail
   go_loopw [11] (fun i wr => ∃ b : Nat, b <= 7 /\ i = .int .i64 (b : Int) /\ Bt wr w.heap.size w.heap.size (a * 7 + b) C /\ Below w.heap.size w wr) (fun i _ => 7 - (intOf i).toNat)
   case atStart => exact ⟨0, by omega, rfl, hbt, hb⟩
   case round =>
    clear hbt hb
    obtain ⟨b, hb7, rfl, hbt, hb⟩ := hrel
    have hwsz := hb.size
    by_cases hlb : b < 7
    ·have hlo2 : (0 : Int) <= (b : Int) := by omega
     have hhi2 : (b : Int) < 7 := by omega
     have hw1 : IntKind.i64.wrap ((b : Int) + 1) = (b : Int) + 1 := IntWalk.i64_in _ (by omega)
     have hrd := (h.below hb).mono hwsz
     have hat := bdO_at C hlt hlb
     have HAT := Lib.hid hat
     have hm42 : a * 7 + b < 42 := by omega
     clear hat
     go_upto_region 8 with (fail)
     go_region_held3 (fun _ => True) (go_keep)
      (first
        | (go_at_call 234; refine (of_dset (C := C) (a : Int) ((b : Int) + 1) (by first | exact hrd | exact hrd.drew) HN.out hn2).mono ?_; rintro e w3 ⟨A3, c3, rfl, hown3, hb3⟩
           have hbt3 : Bt w3 w.heap.size w.heap.size (a * 7 + b) C := by first | exact Bt.under (w := wr) hbt hb3 | exact Bt.under (w := wr.drew) hbt hb3
           obtain ⟨⟨v3, hc3⟩, hf3⟩ := hbt3.cell hm42))
     go_wp2_with fail
     have hst := hbt3.step HAT.out (ownsRow_base hown3 hwsz)
     go_roundw
     case rel => exact ⟨b + 1, by omega, by go_num, hst, (hb.drew.trans (hb3.mono hwsz)).setCell (p := ⟨w.heap.size, a * 7 + b, none⟩) (Nat.le_refl _) _⟩
     case measure => simp [intOf]; omega
    ·obtain rfl : b = 7 := by omega
     go_wp2_with fail
     go_roundw
     case rel => exact ⟨a + 1, by omega, by go_num, by rw [show (a + 1) * 7 = a * 7 + 7 by omega]; exact hbt, hb⟩
     case measure => simp [intOf]; omega
  ·obtain rfl : a = 6 := by omega
   go_wp2_with fail
   go_ret
   obtain ⟨vs, h1, h2, h3⟩ := hbt
   exact ⟨_, rfl, Nat.le_refl _, ⟨vs, h1, h2, h3⟩, hb⟩
end
end Go.Proofs.YtnlopdmhdiegnaaGreatDoor
