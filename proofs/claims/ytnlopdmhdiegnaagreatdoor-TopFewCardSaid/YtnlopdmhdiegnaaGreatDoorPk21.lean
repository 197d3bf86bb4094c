/- Lemmas (no conditions): Syc, Prn -/
import Derived.Test.YtnlopdmhdiegnaaGreatDoorPk20
set_option linter.unusedSimpArgs false
set_option linter.unusedVariables false
set_option maxRecDepth 100000
set_option maxHeartbeats 64000000
namespace Go.Proofs.YtnlopdmhdiegnaaGreatDoor
open Go.RowKit
section
theorem leaf_ok {v : Lf} (hv : LfOk v) (w : World) (hw : Mt w) : Calls Tryz.prog 104 #[v.agg] w fun e w' => e = .returned (.bool true) /\ Below w.heap.size w w' :=
 validexpr_ok (t := .leaf v) (X := ⟨v.o, v.n, v.d, v.m, v.s, none, 0, 0⟩) hv (hi := w.heap.size) rfl (Nat.le_refl _) hw
theorem calvalid_zero (w : World) : Calls Tryz.prog 64 #[.int .i64 0] w fun e w' => e = .returned (.bool true) /\ w = w' := by
 go_enter Tryz.func64, Tryz.ntmps64
 go_wp2_with fail
 go_ret
 exact ⟨rfl, rfl⟩
theorem version_valid {D : Sd} {x : Vs} {hi : Nat} {w : World} (h : VerR w hi D x) (hhi : hi <= w.heap.size) (hD : D.Ok) (hw : Mt w) : Calls Tryz.prog 53 #[x.agg] w fun e w' => e = .returned (.bool true) /\ Below w.heap.size w w' := by
 obtain ⟨W, hW, b, r⟩ := ver_new w x
 have hz := b.size
 have hWl := (gis r).1
 have row : ∀ (u : World), Below W.heap.size W u -> u.heap[w.heap.size]? = some (verBox x) := fun u hb => (hb.block _ hWl).trans r
 have rd : ∀ (u : World), Below W.heap.size W u -> VerR u hi D x := fun u hb => h.below ((b.trans (hb.mono hz)).mono hhi)
 have q6 : decide ((6 : Int) < (x.cn : Int)) = false := by
  rcases h.cr with ⟨_, _, _, h3, _⟩ | ⟨_, _, h3, _⟩ <;> rw [h3] <;> rfl
 have HR := Lib.hid row
 have HD := Lib.hid rd
 have HO := Lib.hid hD
 clear row rd h hD
 obtain ⟨cA, cn, cc, gA, gc⟩ := x
 unfold Vs.agg
 dsimp only [verBox] at hW q6
 go_enter Tryz.func53, Tryz.ntmps53
 go_upto_region 1 with (fail)
 clear hW
 obtain ⟨c0, c1, c2, c3, c4, c5, c6, c7⟩ := verbox (x := ⟨cA, cn, cc, gA, gc⟩) r
 dsimp only at c3 c6
 go_cut [36] from 13 to 36 (fun v wx => v = .bool false /\ Below W.heap.size W wx)
 case first =>
  go_region_held3 (fun w' => w'.cell? ⟨w.heap.size, 0, none⟩ = some (.int .i64 0) /\ w'.cell? ⟨w.heap.size, 1, none⟩ = some (.int .i64 1) /\ w'.cell? ⟨w.heap.size, 2, none⟩ = some (.int .i64 1)) (go_keep) (first
   | (go_at_call 64; refine (calvalid_zero _).mono ?_; rintro e w1 ⟨rfl, rfl⟩)
   | (go_at_call 50; (with_reducible refine (modes_ok _).mono ?_); rintro e w2 ⟨gk, nk, rfl, hTk, bk⟩
      have bK : Below W.heap.size W w2 := ((Below.refl W.heap.size W).drew).trans bk
      obtain ⟨m0, m1, m2, m3, m4, m5, m6, m7⟩ := verbox (x := ⟨cA, cn, cc, gA, gc⟩) (HR.out _ bK))
   | (go_at_call 102; (with_reducible refine (bynumber_first gk 0 nk nk _ _ _ hTk).mono ?_); rintro e w3 ⟨rfl, bb⟩
      have bK3 := bK.trans (bb.mono bK.size)
      obtain ⟨k0, k1, k2, k3, k4, k5, k6, k7⟩ := verbox (x := ⟨cA, cn, cc, gA, gc⟩) (HR.out _ bK3)))
  all_goals
   go_wp2_with fail
   go_meet
   exact ⟨rfl, bK3⟩
 case rest =>
  obtain ⟨rfl, hb1⟩ := hcut
  clear c0 c1 c2 c3 c4 c5 c6 c7
  obtain ⟨c0, c1, c2, c3, c4, c5, c6, c7⟩ := verbox (x := ⟨cA, cn, cc, gA, gc⟩) (HR.out _ hb1)
  dsimp only at c3 c6
  have hz1 := hb1.size
  go_upto_block 0 with (fail)
  go_cut [] from 69 to 87 (fun wx => Below W.heap.size W wx)
  case first =>
   obtain ⟨u1, hu1⟩ : ∃ u, u = wc := ⟨_, rfl⟩
   rcases (HD.out _ hb1).cr with ⟨_, bc, rfl, rfl, h4, h5⟩ | ⟨_, rfl, rfl, rfl⟩
   ·dsimp only at h4 h5
    have hbl := h5.1
    have y0 := h5.2 0 _ rfl
    have y1 := h5.2 1 _ rfl
    go_wp2_with fail
    refine wp_loop_rounds 2 ?_
    rw [rounds_succ]
    go_upto_region 8 with (fail)
    obtain ⟨W2, hW2, b2, r2⟩ := box_new wc (.cells #[.int .i64 6, .int .i64 0] 137)
    have s0 : W2.cell? ⟨wc.heap.size, 0, none⟩ = some (.int .i64 6) := by rw [cell_of_row _ _ _ _ _ _ r2]; rfl
    have s1 : W2.cell? ⟨wc.heap.size, 1, none⟩ = some (.int .i64 0) := by rw [cell_of_row _ _ _ _ _ _ r2]; rfl
    rw [hW2]
    clear hW2
    go_cut [86] from 72 to 86 (fun v wx => v = .bool false /\ Below W2.heap.size W2 wx)
    case first =>
     have hz2 := b2.size
     have l2 := (gis r2).1
     go_region_held3 (fun w' => w'.cell? ⟨wc.heap.size, 0, none⟩ = some (.int .i64 6) /\ w'.cell? ⟨wc.heap.size, 1, none⟩ = some (.int .i64 0)) (go_keep) (first
      | (go_at_call 98; (with_reducible refine (kinds_ok _).mono ?_); rintro e w2 ⟨gk, nk, rfl, hTk, bk⟩
         have bK : Below W2.heap.size W2 w2 := ((Below.refl W2.heap.size W2).drew).trans bk
         have m0 : w2.cell? ⟨wc.heap.size, 0, none⟩ = some (.int .i64 6) := by rw [bK.cell (by exact l2)]; exact s0
         have m1 : w2.cell? ⟨wc.heap.size, 1, none⟩ = some (.int .i64 0) := by rw [bK.cell (by exact l2)]; exact s1)
      | (go_at_call 102; (with_reducible refine (bynumber_first gk 0 nk nk _ _ _ hTk).mono ?_); rintro e w3 ⟨rfl, bb⟩
         have bK3 := bK.trans (bb.mono bK.size)
         have k0 : w3.cell? ⟨wc.heap.size, 0, none⟩ = some (.int .i64 6) := by rw [bK3.cell (by exact l2)]; exact s0
         have k1 : w3.cell? ⟨wc.heap.size, 1, none⟩ = some (.int .i64 0) := by rw [bK3.cell (by exact l2)]; exact s1))
     all_goals
      go_wp2_with fail
      go_meet
      exact ⟨rfl, bK3⟩
    case rest =>
     obtain ⟨rfl, hb3⟩ := hcut
     go_wp2_with fail
     rw [rounds_succ]
     go_wp2_with fail
     go_meet
     exact hb1.trans ((b2.trans (hb3.mono b2.size)).mono hb1.size)
   ·go_wp2_with fail
    refine wp_loop_rounds 1 ?_
    rw [rounds_succ]
    go_wp2_with fail
    go_meet
    exact hb1
  case rest =>
   have hb2 := hcut
   clear hcut c0 c1 c2 c3 c4 c5 c6 c7
   obtain ⟨c0, c1, c2, c3, c4, c5, c6, c7⟩ := verbox (x := ⟨cA, cn, cc, gA, gc⟩) (HR.out _ hb2)
   dsimp only at c3 c6
   go_wp2_with fail
   refine wp_loop_rounds 1 ?_
   rw [rounds_succ]
   go_wp2_with fail
   refine wp_loop_rounds 1 ?_
   rw [rounds_succ]
   go_wp2_with fail
   obtain ⟨gb, X, rfl, hgc, hgr, hX⟩ := (HD.out _ hb2).gr
   dsimp only at hgc
   have hgl := hgr.1
   have HG := Lib.hid hgr
   have HX := Lib.hid hX
   obtain ⟨e0, ⟨e1, e2, e3, e4, e5, e6⟩, e7, e8, e9, e10, e11, e12⟩ := rz_gr hgr
   have hz2 := hb2.size
   obtain ⟨py, hpy⟩ : ∃ p, p = D.py := ⟨_, rfl⟩
   have HP := Lib.hid hpy
   rw [<- hpy] at e7 e8 e9 e10 e11
   clear hpy hgr hX
   obtain ⟨xo, xn, xd, xm, xs, xA, xk, xc⟩ := X
   obtain ⟨po, pn, pd, pm, ps⟩ := py
   dsimp only at e1 e2 e3 e4 e5 e6 e7 e8 e9 e10 e11
   refine wp_loop_rounds 2 ?_
   rw [rounds_succ]
   go_upto_region 26 with (fail)
   obtain ⟨W2, hW2, b2, r2⟩ := gr_new wc ⟨xo, xn, xd, xm, xs, xA, xk, xc⟩ ⟨po, pn, pd, pm, ps⟩
   dsimp only [grBox] at hW2
   rw [hW2]
   clear hW2
   have hbW2 : Below W.heap.size W W2 := hb2.trans (b2.mono hz2)
   have l2 := (gis r2).1
   obtain ⟨s0, ⟨s1, s2, s3, s4, s5, s6⟩, s7, s8, s9, s10, s11, s12⟩ := grbox (X := ⟨xo, xn, xd, xm, xs, xA, xk, xc⟩) (v := ⟨po, pn, pd, pm, ps⟩) r2
   dsimp only at s1 s2 s3 s4 s5 s6 s7 s8 s9 s10 s11
   go_cut [140] from 124 to 140 (fun v wx => v = .bool false /\ Below W2.heap.size W2 wx)
   case first =>
    have hgi : ∀ (u : World), Below W2.heap.size W2 u -> GrAt u wc.heap.size ⟨xo, xn, xd, xm, xs, xA, xk, xc⟩ ⟨po, pn, pd, pm, ps⟩ := fun u hb => grbox ((hb.block _ l2).trans r2)
    have hle : ∀ (u : World), Below W2.heap.size W2 u -> Below w.heap.size w u := fun u hb => b.trans ((hbW2.trans (hb.mono hbW2.size)).mono hz)
    have hxi : ∀ (u : World), Below W2.heap.size W2 u -> Calls Tryz.prog 104 #[.agg #[.int .i64 xo, .int .i64 xn, .int .i64 xd, .int .i64 xm, .string xs, .slice xA xk xc]] u fun e w' => e = .returned (.bool true) /\ Below u.heap.size u w' := fun u hb =>
     validexpr_ok (X := ⟨xo, xn, xd, xm, xs, xA, xk, xc⟩) HO.out.1 (HX.out.below ((b2.trans (hb.mono b2.size)).mono (Nat.le_trans hhi (Nat.le_trans hz hz2)))) (Nat.le_trans hhi (hle _ hb).size) (hw.kp (hle _ hb))
    have hpi : ∀ (u : World), Below W2.heap.size W2 u -> Calls Tryz.prog 104 #[.agg #[.int .i64 po, .int .i64 pn, .int .i64 pd, .int .i64 pm, .string ps, .slice none 0 0]] u fun e w' => e = .returned (.bool true) /\ Below u.heap.size u w' := fun u hb =>
     leaf_ok (v := ⟨po, pn, pd, pm, ps⟩) (by rw [HP.out]; exact HO.out.2) _ (hw.kp (hle _ hb))
    have HGI := Lib.hid hgi
    have HXI := Lib.hid hxi
    have HPI := Lib.hid hpi
    clear hgi hxi hpi
    go_region_with (first
     | (go_at_call 101; (with_reducible refine (benefits_ok _).mono ?_); rintro e w2 ⟨gk, nk, rfl, hTk, bk⟩
        have bK : Below W2.heap.size W2 w2 := ((Below.refl W2.heap.size W2).drew).trans bk
        obtain ⟨m0, ⟨m1, m2, m3, m4, m5, m6⟩, m7, m8, m9, m10, m11, m12⟩ := HGI.out _ bK
        dsimp only at m1 m2 m3 m4 m5 m6 m7 m8 m9 m10 m11)
     | (go_at_call 102; (with_reducible refine (bynumber_first gk 0 nk nk _ _ _ hTk).mono ?_); rintro e w3 ⟨rfl, bb⟩
        have bK3 := bK.trans (bb.mono bK.size)
        obtain ⟨k0, ⟨k1, k2, k3, k4, k5, k6⟩, k7, k8, k9, k10, k11, k12⟩ := HGI.out _ bK3
        dsimp only at k1 k2 k3 k4 k5 k6 k7 k8 k9 k10 k11)
     | (go_at_call 104; (with_reducible refine (HXI.out _ bK3).mono ?_); rintro e w4 ⟨rfl, b4⟩
        have bK4 := bK3.trans (b4.mono bK3.size)
        obtain ⟨n0, ⟨n1, n2, n3, n4, n5, n6⟩, n7, n8, n9, n10, n11, n12⟩ := HGI.out _ bK4
        dsimp only at n1 n2 n3 n4 n5 n6 n7 n8 n9 n10 n11)
     | (go_at_call 104; (with_reducible refine (HPI.out _ bK4).mono ?_); rintro e w5 ⟨rfl, b5⟩
        have bK5 := bK4.trans (b5.mono bK4.size)
        obtain ⟨o0, ⟨o1, o2, o3, o4, o5, o6⟩, o7, o8, o9, o10, o11, o12⟩ := HGI.out _ bK5
        dsimp only at o1 o2 o3 o4 o5 o6 o7 o8 o9 o10 o11))
    all_goals
     go_wp2_with fail
     go_meet
     exact ⟨rfl, bK5⟩
   case rest =>
    obtain ⟨rfl, hb3⟩ := hcut
    have hb4 := hbW2.trans (hb3.mono hbW2.size)
    clear c0 c1 c2 c3 c4 c5 c6 c7 e0 e1 e2 e3 e4 e5 e6 e7 e8 e9 e10 e11 e12 s0 s1 s2 s3 s4 s5 s6 s7 s8 s9 s10 s11 s12
    obtain ⟨_, _, _, _, _, _, _, c7⟩ := verbox (HR.out _ hb4)
    go_wp2_with fail
    rw [rounds_succ]
    go_wp2_with fail
    refine wp_loop_rounds 1 ?_
    rw [rounds_succ]
    go_wp2_with fail
    go_ret
    exact ⟨rfl, b.trans (hb4.mono hz)⟩
end
section
structure VerX (w : World) (lo : Nat) (D : Sd) (x : Vs) : Prop where
 cr : (D.cr = true /\ x.cn = 1 /\ w.ownsRow lo 137 2 (.slice x.cA 1 x.cc) 1 [.int .i64 6, .int .i64 0]) ∨ (D.cr = false /\ x.cA = none /\ x.cn = 0 /\ x.cc = 0)
 gr : ∃ X, w.ownsRow lo 146 13 (.slice x.gA 1 x.gc) 1 (grCells X D.py) /\ TrX D.ci X lo w
theorem VerX.kp {w w' : World} {R lo : Nat} {D : Sd} {x : Vs} (h : VerX w lo D x) (hk : Kp R w w') (hR : R < lo) : VerX w' lo D x := by
 refine ⟨?_, ?_⟩
 ·rcases h.cr with ⟨h1, h2, h3⟩ | h1
  ·exact .inl ⟨h1, h2, kept_own h3 hk hR⟩
  ·exact .inr h1
 ·obtain ⟨X, h1, h2⟩ := h.gr
  exact ⟨X, kept_own h1 hk hR, h2.kp hk hR⟩
theorem VerX.rd {w : World} {lo : Nat} {D : Sd} {x : Vs} (h : VerX w lo D x) : VerR w w.heap.size D x := by
 refine ⟨?_, ?_⟩
 ·rcases h.cr with ⟨h1, h2, h3⟩ | h1
  ·obtain ⟨g, h4, h5, _, h6⟩ := Rz.ofOwn h3 (by omega)
   exact .inl ⟨h1, g, h4, h2, h6, h5⟩
  ·exact .inr h1
 ·obtain ⟨X, h1, h2⟩ := h.gr
  obtain ⟨g, h4, h5, _, h6⟩ := Rz.ofOwn h1 (by omega)
  exact ⟨g, X, h4, h6, h5, h2.rd⟩
structure VJ (w : World) (R : Nat) (L : List Tk) (f m u : Int) (wx : World) : Prop where
 p : Prs wx R L
 e : wx.heap[w.heap.size]? = some (vRow 0 0 0 (.slice none 0 0) (.slice none 0 0) (.slice none 0 0) (.slice none 0 0) (.slice none 0 0))
 v : wx.heap[w.heap.size + 1]? = some (vRow f m u (.slice none 0 0) (.slice none 0 0) (.slice none 0 0) (.slice none 0 0) (.slice none 0 0))
 k : Kp R w wx
 s : w.heap.size + 2 <= wx.heap.size
theorem VJ.kp {w wx wy : World} {R : Nat} {L L' : List Tk} {f m u : Int} (h : VJ w R L f m u wx) (hRw : R < w.heap.size) (hP : Prs wy R L') (hk : Kp R wx wy) : VJ w R L' f m u wy := by
 have hs := h.s
 exact ⟨hP, (hk.block _ (by omega) (fun e => by injection e with e; omega)).trans h.e, (hk.block _ (by omega) (fun e => by injection e with e; omega)).trans h.v, h.k.trans hk, Nat.le_trans hs hk.size⟩
theorem VJ.to {w wx wy : World} {R : Nat} {L : List Tk} {f m u : Int} (h : VJ w R L f m u wx) (hRw : R < w.heap.size) (hb : Below wx.heap.size wx wy) : VJ w R L f m u wy := h.kp hRw (h.p.to hb) (Kp.of hb)
theorem VJ.set {w wx : World} {R : Nat} {L : List Tk} {f m u f' m' u' : Int} (h : VJ w R L f m u wx) (hRw : R < w.heap.size) (j : Nat) (v : Value)
  (hj : (#[.int .i64 f, .int .i64 m, .int .i64 u, .slice none 0 0, .slice none 0 0, .slice none 0 0, .slice none 0 0, .slice none 0 0] : Array Value).setIfInBounds j v = #[.int .i64 f', .int .i64 m', .int .i64 u', .slice none 0 0, .slice none 0 0, .slice none 0 0, .slice none 0 0, .slice none 0 0]) : VJ w R L f' m' u' (wx.setCell ⟨w.heap.size + 1, j, none⟩ v) := by
 have hs := h.s
 have hk := Kp.set (R := w.heap.size + 1) wx j v
 refine ⟨h.p.own hk (by omega), (hk.block _ (by omega) (fun e => by injection e with e; omega)).trans h.e, ?_, h.k.own hk (by omega), Nat.le_trans hs hk.size⟩
 have := heap_setCell_same wx (w.heap.size + 1) j _ _ v h.v
 rw [this, hj]
theorem eight_kp (w : World) (g : Nat) (v0 v1 v2 v3 v4 v5 v6 v7 : Value) : Kp g w ((((((((w.setCell ⟨g, 0, none⟩ v0).setCell ⟨g, 1, none⟩ v1).setCell ⟨g, 2, none⟩ v2).setCell ⟨g, 3, none⟩ v3).setCell ⟨g, 4, none⟩ v4).setCell ⟨g, 5, none⟩ v5).setCell ⟨g, 6, none⟩ v6).setCell ⟨g, 7, none⟩ v7) :=
 (((((((Kp.set w 0 v0).trans (Kp.set _ 1 v1)).trans (Kp.set _ 2 v2)).trans (Kp.set _ 3 v3)).trans (Kp.set _ 4 v4)).trans (Kp.set _ 5 v5)).trans (Kp.set _ 6 v6)).trans (Kp.set _ 7 v7)
theorem vrow_cells {w : World} {g : Nat} {f m u : Int} {s3 s4 s5 s6 s7 : Value} (h : w.heap[g]? = some (vRow f m u s3 s4 s5 s6 s7)) : (w.cell? ⟨g, 0, none⟩ = some (.int .i64 f) /\ w.cell? ⟨g, 1, none⟩ = some (.int .i64 m) /\ w.cell? ⟨g, 2, none⟩ = some (.int .i64 u) /\ w.cell? ⟨g, 3, none⟩ = some s3 /\ w.cell? ⟨g, 4, none⟩ = some s4 /\ w.cell? ⟨g, 5, none⟩ = some s5 /\ w.cell? ⟨g, 6, none⟩ = some s6 /\ w.cell? ⟨g, 7, none⟩ = some s7) ∧
  (w.frozen? ⟨g, 0, none⟩ = false /\ w.frozen? ⟨g, 1, none⟩ = false /\ w.frozen? ⟨g, 2, none⟩ = false /\ w.frozen? ⟨g, 3, none⟩ = false /\ w.frozen? ⟨g, 4, none⟩ = false /\ w.frozen? ⟨g, 5, none⟩ = false /\ w.frozen? ⟨g, 6, none⟩ = false /\ w.frozen? ⟨g, 7, none⟩ = false) := by
 refine ⟨⟨?_, ?_, ?_, ?_, ?_, ?_, ?_, ?_⟩, frozen_of_row w g 0 _ _ h, frozen_of_row w g 1 _ _ h, frozen_of_row w g 2 _ _ h, frozen_of_row w g 3 _ _ h, frozen_of_row w g 4 _ _ h, frozen_of_row w g 5 _ _ h, frozen_of_row w g 6 _ _ h, frozen_of_row w g 7 _ _ h⟩ <;> rw [cell_of_row _ _ _ _ _ _ h] <;> rfl
structure VTok (D : Sd) (L K : List Tk) : Prop where
 ex : ∃ (C L1 L2 : List Tk) (x y z q s r : Tk), L = C ++ (x :: y :: z :: L1) ∧
  ((D.cr = true /\ ∃ c1 c2 c3, C = [c1, c2, c3] /\ isB c1 ⟨#[99, 114, 101, 100, 105, 116]⟩ = true /\ c2.k = 1 /\ c2.t = ⟨#[118, 111, 108, 117, 110, 116, 97, 114, 121]⟩ /\ isB c3 ⟨#[108, 105, 109, 105, 116]⟩ = false /\ isB c3 ⟨#[59]⟩ = true) ∨ (D.cr = false /\ C = [])) ∧
  NoB x [[99, 114, 101, 100, 105, 116], [105, 110, 100, 101, 120], [108, 101, 116]] /\ isB x ⟨#[103, 114, 97, 110, 116]⟩ = true /\ y.k = 1 /\ y.t = ⟨#[111, 108, 100]⟩ /\ isB z ⟨#[105, 102]⟩ = true ∧
  (∀ R u, Prs u R L1 -> Calls Tryz.prog 100 #[.pointer (some ⟨R, 0, none⟩)] u (RetT R (q :: L2) D.ci u)) /\ isB q ⟨#[112, 97, 121]⟩ = true ∧
  (∀ R u, Prs u R L2 -> Calls Tryz.prog 100 #[.pointer (some ⟨R, 0, none⟩)] u (RetT R (s :: r :: K) (.leaf D.py) u)) /\ isB s ⟨#[59]⟩ = true ∧
  NoB r [[99, 114, 101, 100, 105, 116], [105, 110, 100, 101, 120], [108, 101, 116], [103, 114, 97, 110, 116], [114, 101, 100, 117, 99, 101]] /\ isB r ⟨#[125]⟩ = true
def RetVr (R : Nat) (K : List Tk) (D : Sd) (w : World) (e : Ending) (w' : World) : Prop := ∃ x : Vs, e = .returned x.agg /\ Prs w' R K /\ Kp R w w' /\ VerX w' (w.heap.size + 2) D x
theorem version_ok {R : Nat} {d a1 a2 a3 a4 a5 : Tk} {L K : List Tk} {D : Sd} {w : World} (h : Prs w R (d :: a1 :: a2 :: a3 :: a4 :: a5 :: L)) (hdk : d.k = 3) (hdt : d.t = bs (64 :: day0)) (h1 : isB a1 ⟨#[123]⟩ = true) (h2 : isB a2 ⟨#[114, 111, 117, 110, 100]⟩ = true) (h3k : a3.k = 1) (h3t : a3.t = ⟨#[100, 111, 119, 110]⟩) (h4k : a4.k = 2) (h4t : a4.t = bs (dgl 1)) (h5 : isB a5 ⟨#[59]⟩ = true) (hT : VTok D L K) :
  Calls Tryz.prog 27 #[.pointer (some ⟨R, 0, none⟩)] w (RetVr R K D w) := by
 have hRw := h.lt
 obtain ⟨dk, dt, da⟩ := d
 obtain rfl : dk = 3 := hdk
 have hsz : 1 <= dt.size := by show 1 <= dt.size; rw [show dt = bs (64 :: day0) from hdt, bs_size]; simp
 obtain ⟨S, hS⟩ : ∃ S, dt.extract 1 dt.size = S := ⟨_, rfl⟩
 have hex : S = bs day0 := by rw [<- hS, show dt = bs (64 :: day0) from hdt, bs_ext, bs_size]; rfl
 have HX := Lib.hid hex
 clear hdt hex
 go_enter Tryz.func27, Tryz.ntmps27
 go_upto_region 2 with (fail)
 obtain ⟨W, hW⟩ : ∃ W, W = (w.alloc (vRow 0 0 0 (.slice none 0 0) (.slice none 0 0) (.slice none 0 0) (.slice none 0 0) (.slice none 0 0))).alloc (vRow 0 0 0 (.slice none 0 0) (.slice none 0 0) (.slice none 0 0) (.slice none 0 0) (.slice none 0 0)) := ⟨_, rfl⟩
 have hI : VJ w R (⟨3, dt, da⟩ :: a1 :: a2 :: a3 :: a4 :: a5 :: L) 0 0 0 W := by
  have hb : Below w.heap.size w W := by rw [hW]; exact ((Below.refl _ w).alloc (Nat.le_refl _) _).alloc (by simp) _
  refine ⟨h.to hb, ?_, ?_, Kp.of hb, by rw [hW]; simp⟩
  ·rw [hW]; exact (Below.heap_alloc _ _ _ (by simp)).trans (heap_alloc_new w _)
  ·rw [hW]; exact heap_alloc2_new w _ _
 rw [<- hW]
 clear hW h
 go_wp2_with fail
 have hpk := peek_ok hI.p
 dsimp only [Tk.agg] at hpk
 refine hpk.mono ?_
 rintro e w1 ⟨rfl, b1⟩
 have hI1 := hI.to hRw b1
 clear hI hpk b1
 go_upto_region 3 with (fail)
 obtain ⟨w2, hw2, b2, r2⟩ := box_new w1 (.cells #[.int .i64 3, .string dt, .int .i64 da] 124)
 rw [hw2]
 clear hw2
 have hI2 := hI1.to hRw b2
 have e0 : w2.cell? ⟨w1.heap.size, 0, none⟩ = some (.int .i64 3) := by rw [cell_of_row _ _ _ _ _ _ r2]; rfl
 have z1 := hI1.s
 clear hI1 b2
 generalize w1.heap.size = Q at *
 go_wp2_with fail
 refine (next_ok hI2.p).mono ?_
 rintro e w3 ⟨rfl, hP3, k3⟩
 have r3 := (k3.block Q (gis r2).1 (fun e => by injection e with e; omega)).trans r2
 have hI3 := hI2.kp hRw hP3 k3
 have e1 : w3.cell? ⟨Q, 1, none⟩ = some (.string dt) := by rw [cell_of_row _ _ _ _ _ _ r3]; rfl
 clear e0 r2 hI2 k3 hP3
 go_wp2_with fail
 refine (cparse_first S HX.out _).mono ?_
 rintro e w4 ⟨rfl, b4⟩
 have hI4 := hI3.to hRw b4
 have y0 : w4.cell? ⟨w.heap.size + 1, 0, none⟩ = some (.int .i64 0) := by rw [cell_of_row _ _ _ _ _ _ hI4.v]; rfl
 have q0 := frozen_of_row w4 (w.heap.size + 1) 0 _ _ hI4.v
 have hI5 := hI4.set (f' := 0) (m' := 0) (u' := 0) hRw 0 (.int .i64 0) rfl
 clear e1 r3 hI3 b4 hI4
 go_wp2_with fail
 obtain ⟨w5, hw5⟩ : ∃ w5, w4.setCell ⟨w.heap.size + 1, 0, none⟩ (.int .i64 0) = w5 := ⟨_, rfl⟩
 rw [hw5] at hI5 ⊢
 clear hw5 y0 q0
 refine (expect_yes hI5.p h1).mono ?_
 rintro e w6 ⟨rfl, hP6, k6⟩
 have hI6 := hI5.kp hRw hP6 k6
 clear hI5 hP6 k6
 go_wp2_with fail
 refine (expect_yes hI6.p h2).mono ?_
 rintro e w7 ⟨rfl, hP7, k7⟩
 have hI7 := hI6.kp hRw hP7 k7
 clear hI6 hP7 k7
 go_wp2_with fail
 refine (modes_ok _).mono ?_
 rintro e w8 ⟨g, n, rfl, hTb, b8⟩
 rw [<- h3t] at hTb
 have hI8 := hI7.to hRw b8
 clear hI7 b8
 go_wp2_with fail
 refine (word_ok hI8.p h3k hTb).mono ?_
 rintro e w9 ⟨rfl, hP9, k9⟩
 have hI9 := hI8.kp hRw hP9 k9
 have y1 : w9.cell? ⟨w.heap.size + 1, 1, none⟩ = some (.int .i64 0) := by rw [cell_of_row _ _ _ _ _ _ hI9.v]; rfl
 have q1 := frozen_of_row w9 (w.heap.size + 1) 1 _ _ hI9.v
 have hI10 := hI9.set (f' := 0) (m' := 1) (u' := 0) hRw 1 (.int .i64 1) rfl
 clear hI8 hP9 k9 hTb hI9
 go_wp2_with fail
 obtain ⟨w10, hw10⟩ : ∃ w10, w9.setCell ⟨w.heap.size + 1, 1, none⟩ (.int .i64 1) = w10 := ⟨_, rfl⟩
 rw [hw10] at hI10 ⊢
 clear hw10 y1 q1
 have hnum := number_ok (n := 1) (lo := 1) (hi := 100000) hI10.p h4k h4t (by omega) (by omega) (by omega)
 refine hnum.mono ?_
 rintro e w11 ⟨rfl, hP11, k11⟩
 have hI11 := hI10.kp hRw hP11 k11
 have y2 : w11.cell? ⟨w.heap.size + 1, 2, none⟩ = some (.int .i64 0) := by rw [cell_of_row _ _ _ _ _ _ hI11.v]; rfl
 have q2 := frozen_of_row w11 (w.heap.size + 1) 2 _ _ hI11.v
 have hI12 := hI11.set (f' := 0) (m' := 1) (u' := 1) hRw 2 (.int .i64 1) rfl
 clear hI10 hP11 k11 hnum hI11
 go_wp2_with fail
 obtain ⟨w12, hw12⟩ : ∃ w12, w11.setCell ⟨w.heap.size + 1, 2, none⟩ (.int .i64 1) = w12 := ⟨_, rfl⟩
 rw [hw12] at hI12 ⊢
 clear hw12 y2 q2
 refine (expect_yes hI12.p h5).mono ?_
 rintro e w13 ⟨rfl, hP13, k13⟩
 have hI13 := hI12.kp hRw hP13 k13
 clear hI12 hP13 k13
 obtain ⟨C, L1, L2, x, y, z, q, s, r, rfl, hC, hx0, hx, hyk, hyt, hz, hE1, hq, hE2, hs, hr0, hr⟩ := hT.ex
 have hs13 := hI13.s
 have hVl : w.heap.size + 1 < w.heap.size + 2 := by omega
 have hP := hI13.p
 have hv := hI13.v
 have he := hI13.e
 have hk := hI13.k
 clear hI13 hT
 go_wp2_with fail
 rcases hC with ⟨hcr, c1, c2, c3, rfl, hc1, hc2k, hc2t, hc3n, hc3⟩ | ⟨hcr, rfl⟩
 ·refine wp_loop_rounds 3 ?_
  rw [rounds_succ]
  go_wp2_with fail
  refine (clause_credit (lo := w.heap.size + 2) (xs := []) hP hc1 hc2k hc2t hc3n hc3 hv (by omega) hVl hs13 (World.ownsRow_nil _ _ _ _) (by omega)).mono ?_
  rintro e w14 ⟨rfl, hP14, cA, cc, hv14, ho14, kv14⟩
  have he14 := (kv14.block w.heap.size (by omega) (by omega) (by omega) (by simp [Value.ownBlock])).trans he
  have hs14 : w.heap.size + 2 <= w14.heap.size := Nat.le_trans hs13 kv14.size
  have hk14 : Kp R w w14 := ⟨kv14.os.trans hk.os, kv14.tape.trans hk.tape, kv14.output.trans hk.output, Nat.le_trans hk.size kv14.size, fun i hi hne => (kv14.block i (by omega) (fun e => hne (by rw [e])) (by omega) (by simp [Value.ownBlock])).trans (hk.block i hi hne)⟩
  have hcr14 : (D.cr = true /\ (0 + 1 : Nat) = 1 /\ w14.ownsRow (w.heap.size + 2) 137 2 (.slice cA 1 cc) 1 [.int .i64 6, .int .i64 0]) ∨ (D.cr = false /\ cA = none /\ (0 + 1 : Nat) = 0 /\ cc = 0) := .inl ⟨hcr, rfl, ho14⟩
  clear he hv hk hP ho14 kv14 hs13
  go_wp2_with fail
  rw [rounds_succ]
  go_wp2_with fail
  have hcr' := hcr14
  refine (clause_grant (lo := w.heap.size + 2) (xs := []) hP14 hx0 hx hyk hyt hz (hE1 R) hq (hE2 R) hs hv14 (by omega) hVl hs14 (World.ownsRow_nil _ _ _ _) (by omega) (by simp [Value.ownBlock])).mono ?_
  rintro e w15 ⟨rfl, hP15, gA, gc, X, hv15, ho15, hX15, kv15⟩
  have he15 := (kv15.block w.heap.size (by omega) (by omega) (by omega) (by simp [Value.ownBlock])).trans he14
  have hs15 : w.heap.size + 2 <= w15.heap.size := Nat.le_trans hs14 kv15.size
  have hk15 : Kp R w w15 := ⟨kv15.os.trans hk14.os, kv15.tape.trans hk14.tape, kv15.output.trans hk14.output, Nat.le_trans hk14.size kv15.size, fun i hi hne => (kv15.block i (by omega) (fun e => hne (by rw [e])) (by omega) (by simp [Value.ownBlock])).trans (hk14.block i hi hne)⟩
  have hx15 : VerX w15 (w.heap.size + 2) D ⟨cA, (0 + 1), cc, gA, gc⟩ := by
   refine ⟨?_, X, ho15, hX15⟩
   rcases hcr' with ⟨h1, h2, h3⟩ | h3
   ·refine .inl ⟨h1, by first | exact h2 | rfl, ?_⟩
    have h3l := h3
    refine ⟨h3.1, ?_⟩
    rcases h3.2 with h4 | ⟨gg, cap, cur, hv4, hg4, hr4, r4⟩
    ·exact .inl h4
    ·exact .inr ⟨gg, cap, cur, hv4, hg4, (kv15.block gg (gis hr4).1 (by omega) (by omega) (by simp [Value.ownBlock])).trans hr4, r4⟩
   ·exact .inr h3
  clear he14 hv14 hk14 hP14 ho15 kv15 hs14 hcr14 hcr' hX15
  go_wp2_with fail
  rw [rounds_succ]
  go_wp2_with fail
  refine (clause_end hP15 hr0).mono ?_
  rintro e w16 ⟨rfl, b16⟩
  have hP16 := hP15.to b16
  have hv16 := (b16.block (w.heap.size + 1) (by omega)).trans hv15
  have he16 := (b16.block w.heap.size (by omega)).trans he15
  have hk16 := hk15.trans (Kp.of b16)
  have hx16 := hx15.kp (Kp.of (R := R) b16) (by omega)
  have hs16 : w.heap.size + 2 <= w16.heap.size := Nat.le_trans hs15 b16.size
  clear hP15 hv15 he15 hk15 hx15 b16 hs15
  go_wp2_with fail
  refine (expect_yes hP16 hr).mono ?_
  rintro e w17 ⟨rfl, hP17, k17⟩
  have hv17 := (k17.block (w.heap.size + 1) (by omega) (fun e => by injection e with e; omega)).trans hv16
  have he17 := (k17.block w.heap.size (by omega) (fun e => by injection e with e; omega)).trans he16
  have hk17 := hk16.trans k17
  have hx17 := hx16.kp k17 (by omega)
  clear hP16 hv16 he16 hk16 hx16 k17
  obtain ⟨⟨c0, c1, c2, c3, c4, c5, c6, c7⟩, _⟩ := vrow_cells hv17
  obtain ⟨⟨f0, f1, f2, f3, f4, f5, f6, f7⟩, y0, y1, y2, y3, y4, y5, y6, y7⟩ := vrow_cells he17
  have k8 := eight_kp w17 w.heap.size (.int .i64 0) (.int .i64 1) (.int .i64 1) (.slice cA (0 + 1) cc) (.slice none 0 0) (.slice none 0 0) (.slice gA (0 + 1) gc) (.slice none 0 0)
  have hend : RetVr R K D w (.returned (Vs.agg ⟨cA, (0 + 1), cc, gA, gc⟩)) _ := ⟨⟨cA, (0 + 1), cc, gA, gc⟩, rfl, hP17.own k8 (by omega), hk17.own k8 (Nat.le_refl _), hx17.kp k8 (by omega)⟩
  clear hv17 he17 k8 hx17 hk17
  go_wp2_with fail
  exact bodyPost_ret (v := Vs.agg ⟨cA, (0 + 1), cc, gA, gc⟩) (by simp [results, Tryz.f27, go_sem, f0, f1, f2, f3, f4, f5, f6, f7, Vs.agg]) rfl hend
 ·refine wp_loop_rounds 2 ?_
  rw [rounds_succ]
  go_wp2_with fail
  obtain ⟨w14, hw14⟩ : ∃ w14, w14 = w13 := ⟨_, rfl⟩
  rw [<- hw14] at hP hv he hk hs13 ⊢
  clear hw14
  have hP14 := hP
  have hv14 := hv
  have he14 := he
  have hk14 := hk
  have hs14 := hs13
  obtain ⟨cA, hcA⟩ : ∃ A : Option Addr, A = none := ⟨_, rfl⟩
  obtain ⟨cc, hcc⟩ : ∃ c : Nat, c = 0 := ⟨_, rfl⟩
  have hcr14 : (D.cr = true /\ (0 : Nat) = 1 /\ w14.ownsRow (w.heap.size + 2) 137 2 (.slice cA 1 cc) 1 [.int .i64 6, .int .i64 0]) ∨ (D.cr = false /\ cA = none /\ (0 : Nat) = 0 /\ cc = 0) := .inr ⟨hcr, hcA, rfl, hcc⟩
  subst hcA hcc
  clear hP hv he hk hs13
  have hcr' := hcr14
  refine (clause_grant (lo := w.heap.size + 2) (xs := []) hP14 hx0 hx hyk hyt hz (hE1 R) hq (hE2 R) hs hv14 (by omega) hVl hs14 (World.ownsRow_nil _ _ _ _) (by omega) (by simp [Value.ownBlock])).mono ?_
  rintro e w15 ⟨rfl, hP15, gA, gc, X, hv15, ho15, hX15, kv15⟩
  have he15 := (kv15.block w.heap.size (by omega) (by omega) (by omega) (by simp [Value.ownBlock])).trans he14
  have hs15 : w.heap.size + 2 <= w15.heap.size := Nat.le_trans hs14 kv15.size
  have hk15 : Kp R w w15 := ⟨kv15.os.trans hk14.os, kv15.tape.trans hk14.tape, kv15.output.trans hk14.output, Nat.le_trans hk14.size kv15.size, fun i hi hne => (kv15.block i (by omega) (fun e => hne (by rw [e])) (by omega) (by simp [Value.ownBlock])).trans (hk14.block i hi hne)⟩
  have hx15 : VerX w15 (w.heap.size + 2) D ⟨none, 0, 0, gA, gc⟩ := by
   refine ⟨?_, X, ho15, hX15⟩
   rcases hcr' with ⟨h1, h2, h3⟩ | h3
   ·refine .inl ⟨h1, by first | exact h2 | rfl, ?_⟩
    have h3l := h3
    refine ⟨h3.1, ?_⟩
    rcases h3.2 with h4 | ⟨gg, cap, cur, hv4, hg4, hr4, r4⟩
    ·exact .inl h4
    ·exact .inr ⟨gg, cap, cur, hv4, hg4, (kv15.block gg (gis hr4).1 (by omega) (by omega) (by simp [Value.ownBlock])).trans hr4, r4⟩
   ·exact .inr h3
  clear he14 hv14 hk14 hP14 ho15 kv15 hs14 hcr14 hcr' hX15
  go_wp2_with fail
  rw [rounds_succ]
  go_wp2_with fail
  refine (clause_end hP15 hr0).mono ?_
  rintro e w16 ⟨rfl, b16⟩
  have hP16 := hP15.to b16
  have hv16 := (b16.block (w.heap.size + 1) (by omega)).trans hv15
  have he16 := (b16.block w.heap.size (by omega)).trans he15
  have hk16 := hk15.trans (Kp.of b16)
  have hx16 := hx15.kp (Kp.of (R := R) b16) (by omega)
  have hs16 : w.heap.size + 2 <= w16.heap.size := Nat.le_trans hs15 b16.size
  clear hP15 hv15 he15 hk15 hx15 b16 hs15
  go_wp2_with fail
  refine (expect_yes hP16 hr).mono ?_
  rintro e w17 ⟨rfl, hP17, k17⟩
  have hv17 := (k17.block (w.heap.size + 1) (by omega) (fun e => by injection e with e; omega)).trans hv16
  have he17 := (k17.block w.heap.size (by omega) (fun e => by injection e with e; omega)).trans he16
  have hk17 := hk16.trans k17
  have hx17 := hx16.kp k17 (by omega)
  clear hP16 hv16 he16 hk16 hx16 k17
  obtain ⟨⟨c0, c1, c2, c3, c4, c5, c6, c7⟩, _⟩ := vrow_cells hv17
  obtain ⟨⟨f0, f1, f2, f3, f4, f5, f6, f7⟩, y0, y1, y2, y3, y4, y5, y6, y7⟩ := vrow_cells he17
  have k8 := eight_kp w17 w.heap.size (.int .i64 0) (.int .i64 1) (.int .i64 1) (.slice none 0 0) (.slice none 0 0) (.slice none 0 0) (.slice gA (0 + 1) gc) (.slice none 0 0)
  have hend : RetVr R K D w (.returned (Vs.agg ⟨none, 0, 0, gA, gc⟩)) _ := ⟨⟨none, 0, 0, gA, gc⟩, rfl, hP17.own k8 (by omega), hk17.own k8 (Nat.le_refl _), hx17.kp k8 (by omega)⟩
  clear hv17 he17 k8 hx17 hk17
  go_wp2_with fail
  exact bodyPost_ret (v := Vs.agg ⟨none, 0, 0, gA, gc⟩) (by simp [results, Tryz.f27, go_sem, f0, f1, f2, f3, f4, f5, f6, f7, Vs.agg]) rfl hend
end
end Go.Proofs.YtnlopdmhdiegnaaGreatDoor
