/- Lemmas (no conditions): Evf -/
import Derived.Test.YtnlopdmhdiegnaaGreatDoorPk34
import Derived.Test.YtnlopdmhdiegnaaGreatDoorSx
set_option linter.unusedSimpArgs false
set_option linter.unusedVariables false
set_option maxRecDepth 100000
set_option maxHeartbeats 64000000
namespace Go.Proofs.YtnlopdmhdiegnaaGreatDoor
open Go.RowKit
section
def grAgg (X : Sx) (v : Lf) : Value := .agg #[.int .i64 1, .int .i64 X.o, .int .i64 X.n, .int .i64 X.d, .int .i64 X.m, .string X.s, .slice X.A X.k X.c, .int .i64 v.o, .int .i64 v.n, .int .i64 v.d, .int .i64 v.m, .string v.s, .slice none 0 0]
theorem grant1_ok {X : Sx} {v : Lf} {q : Nat} {w : World} (hq : w.cell? ⟨q, 0, none⟩ = some (.int .i64 1)) (hl : q < w.heap.size) : Calls Tryz.prog 145 #[grAgg X v, .pointer (some ⟨q, 0, none⟩)] w fun r w' => r = .returned (.bool true) /\ Below w.heap.size w w' := by
 obtain ⟨W, hW, b, r⟩ := gr_new w X v
 obtain ⟨s0, _⟩ := grbox r
 have hq2 : W.cell? ⟨q, 0, none⟩ = some (.int .i64 1) := by rw [b.cell (by exact hl)]; exact hq
 obtain ⟨xo, xn, xd, xm, xs, xA, xk, xc⟩ := X
 obtain ⟨po, pn, pd, pm, ps⟩ := v
 unfold grAgg
 dsimp only [grBox] at hW
 go_enter Tryz.func145, Tryz.ntmps145
 go_upto_region 1 with (fail)
 clear hW
 go_wp2_with fail
 go_ret
 exact ⟨rfl, b⟩
theorem gidx_first {X : Sx} {v : Lf} {q g c hi : Nat} {w : World} (hq : w.cell? ⟨q, 0, none⟩ = some (.int .i64 1)) (hl : q < w.heap.size) (hc : 1 <= c) (hR : Rz w hi g (grCells X v)) : Calls Tryz.prog 111 #[.slice (some ⟨g, 0, none⟩) 1 c, .func (.func 145) #[] #[.pointer (some ⟨q, 0, none⟩)]] w fun r w' => r = .returned (.int .i64 0) /\ Below w.heap.size w w' := by
 have hg1 := grant1_ok (X := X) (v := v) hq hl
 obtain ⟨e0, ⟨e1, e2, e3, e4, e5, e6⟩, e7, e8, e9, e10, e11, e12⟩ := rz_gr hR
 obtain ⟨xo, xn, xd, xm, xs, xA, xk, xc⟩ := X
 obtain ⟨po, pn, pd, pm, ps⟩ := v
 unfold grAgg at hg1
 dsimp only at e1 e2 e3 e4 e5 e6 e7 e8 e9 e10 e11 hg1
 clear hR
 go_enter Tryz.func111, Tryz.ntmps111
 go_wp2_with fail
 refine wp_loop_rounds 1 ?_
 rw [rounds_succ]
 go_wp2_with fail
 refine hg1.mono ?_
 rintro e w1 ⟨rfl, b1⟩
 go_wp2_with fail
 go_ret
 exact ⟨rfl, b1⟩
theorem echeck_ok {D : Sd} {x : Vs} {v : Vw} {hi : Nat} {w : World} (h : VerR w hi D x) (hv : VwOk w hi v) (hhi : hi <= w.heap.size) (h1 : Dim D.ci 1) (h4 : Dim (.leaf D.py) 4) (hw : Mt w) : Calls Tryz.prog 144 #[x.agg, v.agg] w fun e w' => e = .returned (.int .i64 0) /\ Below w.heap.size w w' := by
 obtain ⟨W, hW, b, r⟩ := ver_new w x
 obtain ⟨V, hV, c, s⟩ := vw_new W v
 have hb := b.trans (c.mono b.size)
 have lW := (gis r).1
 have hvv := validview_ok (hv.below (hb.mono hhi)) (lTr hhi hb.size)
 have hty : ∀ u, Below V.heap.size V u -> Calls Tryz.prog 31 #[x.agg] u fun e w' => e = .returned (.int .i64 0) /\ Below u.heap.size u w' := fun u hu =>
  version_ty (h.below ((hb.trans (hu.mono hb.size)).mono hhi)) (lTr hhi (lTr hb.size hu.size)) h1 h4 (hw.kp (hb.trans (hu.mono hb.size)))
 have hbx : ∀ u, Below V.heap.size V u -> u.heap[w.heap.size]? = some (verBox x) := fun u hu => (hu.block _ (lLt lW c.size)).trans ((c.block _ lW).trans r)
 obtain ⟨⟨f0, f1, f2⟩, ⟨f3, f4, f5, f6, f7, f8, f9⟩, f10, f11, f12⟩ := vwbox s
 have HT := hID hty
 have HB := hID hbx
 clear hty hbx h hv h1 h4
 obtain ⟨ag, yr, ch, d0, d1, d2, d3, d4, d5, d6, bn, bd, A, n, cc⟩ := v
 obtain ⟨cA, cn, cc', gA, gc⟩ := x
 unfold Vs.agg Vw.agg at *
 dsimp only [verBox, vwBox] at hW hV f0 f1 f2 f3 f4 f5 f6 f7 f8 f9 f10 f11 f12 hvv
 go_enter Tryz.func144, Tryz.ntmps144
 go_upto_region 1 with (fail)
 clear hW hV
 go_wp2_with fail
 refine hvv.mono ?_
 rintro e w1 ⟨rfl, b1⟩
 clear f0 f1 f2 f3 f4 f5 f6 f7 f8 f9 f10 f11 f12
 obtain ⟨k0, k1, k2, k3, k4, k5, k6, k7⟩ := verbox (x := ⟨cA, cn, cc', gA, gc⟩) (HB.out _ b1)
 have hty := HT.out _ b1
 dsimp only at k3 k6 hty
 go_wp2_with fail
 refine hty.mono ?_
 rintro e w2 ⟨rfl, b2⟩
 go_wp2_with fail
 go_ret
 exact ⟨rfl, hb.trans ((b1.trans (b2.mono b1.size)).mono hb.size)⟩
theorem KV.below {G : Nat} {o : Option Nat} {w w' : World} (h : KV G G o w w') (hG : G <= w.heap.size) (ho : ∀ g, o = some g -> G <= g) : Below G w w' :=
 ⟨h.os, h.tape, h.output, h.size, fun i hi => h.block i (by omega) (by omega) (by omega) (fun e => by have := ho i e.symm; omega)⟩
abbrev rsBox (y : Bool) (n e : Int) (A : Option Addr) (k c : Nat) : Obj := .cells #[.bool y, .int .i64 n, .int .i64 e, .slice A k c] 114
theorem rs_new (w : World) (y : Bool) (n e : Int) (A : Option Addr) (k c : Nat) : ∃ W, w.alloc (rsBox y n e A k c) = W /\ Below w.heap.size w W /\ W.heap[w.heap.size]? = some (rsBox y n e A k c) :=
 ⟨_, rfl, (bRf).alloc (lRf) _, hAn w _⟩
theorem rsbox {W : World} {g : Nat} {y : Bool} {n e : Int} {A : Option Addr} {k c : Nat} (hr : W.heap[g]? = some (rsBox y n e A k c)) : (W.cell? ⟨g, 0, none⟩ = some (.bool y) /\ W.cell? ⟨g, 1, none⟩ = some (.int .i64 n) /\ W.cell? ⟨g, 2, none⟩ = some (.int .i64 e) /\ W.cell? ⟨g, 3, none⟩ = some (.slice A k c)) ∧
  (W.frozen? ⟨g, 0, none⟩ = false /\ W.frozen? ⟨g, 1, none⟩ = false /\ W.frozen? ⟨g, 2, none⟩ = false /\ W.frozen? ⟨g, 3, none⟩ = false) := by
 refine ⟨⟨?_, ?_, ?_, ?_⟩, fZr 0 hr, fZr 1 hr, fZr 2 hr, fZr 3 hr⟩ <;> rw [cOr hr] <;> rfl
theorem field_yes (d n e : Int) (y : Bool) (u : World) : (Instr.field 263 (.agg #[.int .i64 d, .bool y, .int .i64 n, .int .i64 e]) 1).run Tryz.prog u = .ok (.bool y) u := by
 unfold Instr.field
 simp [run_underlying Tryz.underlying263, asAgg, part, go_sem]
theorem field_num (d n e : Int) (y : Bool) (u : World) : (Instr.field 263 (.agg #[.int .i64 d, .bool y, .int .i64 n, .int .i64 e]) 2).run Tryz.prog u = .ok (.agg #[.int .i64 n, .int .i64 e]) u := by
 unfold Instr.field
 simp [run_underlying Tryz.underlying263, asAgg, part, go_sem]
theorem egrant_ok {cr : Bool} {N M D0 : Nat} {x : Vs} {v : Vw} {hi : Nat} {w : World} (h : VerR w hi (Sd.of cr N M) x) (hv : VwOk w hi v) (hhi : hi <= w.heap.size) (hN : N < 1000000000) (hM : M < 1000000000) (hd0 : v.d0 = (D0 : Int)) (hw : Mt w) :
  Calls Tryz.prog 83 #[x.agg, .int .i64 1, v.agg] w fun r w' => ∃ A c, r = .returned (.tuple #[.agg #[.bool (decide (N <= D0)), .int .i64 (if N <= D0 then (M : Int) else 0), .int .i64 1, .slice A (if N <= D0 then 2 else 1) c], .int .i64 0]) /\ Below w.heap.size w w' := by
 obtain ⟨W1, hW1, b1, r1⟩ := ver_new w x
 obtain ⟨W2, hW2, b2, r2⟩ := box_new W1 (.cells #[.int .i64 1] 3)
 obtain ⟨W3, hW3, b3, r3⟩ := vw_new W2 v
 obtain ⟨V, hW4, b4, r4⟩ := rs_new W3 false 0 0 none 0 0
 have z1 := b1.size
 have z2 := b2.size
 have z3 := b3.size
 have z4 := b4.size
 have l1 := (gis r1).1
 have l2 := (gis r2).1
 have l3 := (gis r3).1
 have l4 := (gis r4).1
 have b34 := b3.trans (b4.mono z3)
 have b24 := b2.trans (b34.mono z2)
 have hb : Below w.heap.size w V := b1.trans (b24.mono z1)
 have q1 : V.heap[w.heap.size]? = some (verBox x) := (b24.block _ l1).trans r1
 have q2 : V.heap[W1.heap.size]? = some (.cells #[.int .i64 1] 3) := (b34.block _ l2).trans r2
 have q3 : V.heap[W2.heap.size]? = some (vwBox v) := (b4.block _ l3).trans r3
 have hzV : w.heap.size <= V.heap.size := hb.size
 have k1 : ∀ u, Below V.heap.size V u -> u.heap[w.heap.size]? = some (verBox x) := fun u hu => (hu.block _ (by omega)).trans q1
 have k2 : ∀ u, Below V.heap.size V u -> u.cell? ⟨W1.heap.size, 0, none⟩ = some (.int .i64 1) := fun u hu => by rw [cOr ((hu.block _ (by omega)).trans q2)]; rfl
 have k3 : ∀ u, Below V.heap.size V u -> u.heap[W2.heap.size]? = some (vwBox v) := fun u hu => (hu.block _ (by omega)).trans q3
 have k4 : ∀ u, Below V.heap.size V u -> u.heap[W3.heap.size]? = some (rsBox false 0 0 none 0 0) := fun u hu => (hu.block _ l4).trans r4
 have k5 : ∀ u, Below V.heap.size V u -> VerR u hi (Sd.of cr N M) x /\ VwOk u hi v /\ hi <= u.heap.size /\ Mt u := fun u hu =>
  ⟨h.below ((hb.trans (hu.mono hzV)).mono hhi), hv.below ((hb.trans (hu.mono hzV)).mono hhi), by have := hu.size; omega, hw.kp (hb.trans (hu.mono hzV))⟩
 have K1 := hID k1
 have K2 := hID k2
 have K3 := hID k3
 have K4 := hID k4
 have K5 := hID k5
 have HD := hID hd0
 obtain ⟨p1, p2, p3, p4⟩ := k5 V (bRf)
 have hck := echeck_ok p1 p2 p3 (dim_ci hN) (dim_py hM) p4
 obtain ⟨c0, c1, c2, c3, c4, c5, c6, c7⟩ := verbox (k1 V (bRf))
 obtain ⟨⟨f0, f1, f2⟩, ⟨f3, f4, f5, f6, f7, f8, f9⟩, f10, f11, f12⟩ := vwbox (k3 V (bRf))
 clear k1 k2 k3 k4 k5 hd0 h hv p1 p2 p3 p4 q1 q2 q3 r1 r2 r3 r4 b34 b24 b1 b2 b3 b4
 obtain ⟨ag, yr, ch, d0, d1, d2, d3, d4, d5, d6, bn, bd, vA, vn, vc⟩ := v
 obtain ⟨cA, cn, cc, gA, gc⟩ := x
 unfold Vs.agg Vw.agg at *
 dsimp only [verBox, vwBox, rsBox] at hW1 hW3 hW4 c3 c6 f0 f1 f2 f3 f4 f5 f6 f7 f8 f9 f10 f11 f12 hck
 go_enter Tryz.func83, Tryz.ntmps83
 go_upto_region 1 with (fail)
 clear hW1 hW2 hW3 hW4
 go_wp2_with fail
 refine hck.mono ?_
 rintro e w1 ⟨rfl, b1⟩
 clear hck c0 c1 c2 c3 c4 c5 c6 c7 f0 f1 f2 f3 f4 f5 f6 f7 f8 f9 f10 f11 f12
 obtain ⟨hV1, hv1, hh1, hm1⟩ := K5.out _ b1
 obtain ⟨gb, X, rfl, hgc, hgr, hX⟩ := hV1.gr
 dsimp only at hgc
 obtain ⟨_, _, _, _, _, _, c6, _⟩ := verbox (K1.out _ b1)
 have hgi := gidx_first (c := gc) (K2.out _ b1) (by have := b1.size; omega) hgc hgr
 dsimp only at c6
 go_wp2_with fail
 refine hgi.mono ?_
 rintro e w2 ⟨rfl, b2⟩
 have hb2 := b1.trans (b2.mono b1.size)
 clear hgi c6 hgr hX hV1 hv1 hh1 hm1
 obtain ⟨_, _, _, _, _, c5, _, _⟩ := verbox (K1.out _ hb2)
 obtain ⟨⟨f0, f1, f2⟩, ⟨f3, f4, f5, f6, f7, f8, f9⟩, f10, f11, f12⟩ := vwbox (K3.out _ hb2)
 dsimp only at f0 f1 f2 f3 f4 f5 f6 f7 f8 f9 f10 f11 f12
 go_upto_region 8 with (fail)
 obtain ⟨w3, hw3, b3, r3⟩ := box_new w2 (evBox ⟨ag, yr, ch, d0, d1, d2, d3, d4, d5, d6, bn, bd, vA, vn, vc⟩ none 0 0)
 dsimp only [evBox] at hw3
 rw [hw3]
 clear hw3 f0 f1 f2 f3 f4 f5 f6 f7 f8 f9 f10 f11 f12 c5
 have hb3 := hb2.trans (b3.mono hb2.size)
 have lG := (gis r3).1
 have zG := hb2.size
 generalize w2.heap.size = G at *
 obtain ⟨_, _, _, _, _, c5, c6, _⟩ := verbox (K1.out _ hb3)
 dsimp only at c5 c6
 have hmk : ∀ u, (Instr.makeSlice 260 (.int .i64 0) (.int .i64 0)).run Tryz.prog u = .ok (.slice (some ⟨u.heap.size, 0, none⟩) 0 0) (u.alloc (.cells #[] 4)) := fun _ => by kernel_rfl
 go_upto_region 9 with (fail)
 clear hmk c5 c6
 obtain ⟨w4, hw4, b4, r4⟩ := box_new w3 (.cells #[] 4)
 rw [hw4]
 clear hw4 r4
 obtain ⟨dv, hdv⟩ : ∃ x : Value, x = .slice (some ⟨w3.heap.size, 0, none⟩) 0 0 := ⟨_, rfl⟩
 rw [<- hdv]
 clear hdv
 have hb4 := hb3.trans (b4.mono hb3.size)
 have r4 := (b4.block G lG).trans r3
 have lG4 := (gis r4).1
 obtain ⟨hV4, hv4, hh4, hm4⟩ := K5.out _ hb4
 obtain ⟨gb2, X2, hgb, _, hgr, hX⟩ := hV4.gr
 obtain rfl : gb = gb2 := by injection hgb with e; injection e
 obtain ⟨_, _, _, _, _, c5, c6, _⟩ := verbox (K1.out _ hb4)
 obtain ⟨e0, ⟨e1, e2, e3, e4, e5, e6⟩, e7, e8, e9, e10, e11, e12⟩ := rz_gr hgr
 have hgl := hgr.1
 obtain ⟨gx, kx, rfl, hkx, hRx⟩ := hX
 dsimp only at c5 c6 e1 e2 e3 e4 e5 e6
 have hxx : ∀ u, Below w4.drew.heap.size w4.drew u -> Calls Tryz.prog 213 #[.pointer (some ⟨G, 0, none⟩), Sx.agg ⟨16, 0, 0, 0, ⟨#[]⟩, some ⟨gx, 0, none⟩, 2, kx⟩] u fun r w' => r = .returned (.tuple #[.agg #[.int .i64 1, .bool (decide (N <= D0)), .int .i64 0, .int .i64 0], .int .i64 0]) /\ Below u.heap.size u w' := fun u hu =>
  have hd : Below w4.heap.size w4 u := ((bRf).drew).trans hu
  eexpr_ci HD.out (hv4.below (hd.mono hh4)) (lTr hh4 hu.size) ((hu.block G lG4).trans r4) hN hkx (hRx.below (hd.mono hh4))
 have hdf := define_ok (dv := dv) (nm := ⟨#[105, 102]⟩) (w := w4.drew) (lo := w4.heap.size) r4 lG4 (lRf) (World.ownsRow_nil _ _ _ _) (by omega) hxx
 obtain ⟨q, hq⟩ : ∃ q, decide (N <= D0) = q := ⟨_, rfl⟩
 rw [hq] at hdf
 unfold Sx.agg at hdf
 have HDF := hID hdf
 clear hdf hxx hv4 hV4 hgr hRx hgb
 go_cut [12] from 36 to 45 (fun z wx => z = .int .i64 0 /\ ∃ A c, wx.heap[G]? = some (evBox ⟨ag, yr, ch, d0, d1, d2, d3, d4, d5, d6, bn, bd, vA, vn, vc⟩ A 1 c) /\ wx.ownsRow w4.heap.size 341 5 (.slice A 1 c) 1 (stCells ⟨#[105, 102]⟩ 1 q 0 0) /\ KV G G none w4 wx)
 case first =>
  go_region_with (go_at_call 146; (with_reducible refine HDF.out.mono ?_); rintro e w5 ⟨rfl, A5, c5', hE5, ho5, k5⟩)
  all_goals
   go_wp2_with fail
   go_meet
   exact ⟨rfl, A5, c5', hE5, ho5, ⟨k5.os, k5.tape, k5.output, k5.size, k5.block⟩⟩
 case rest =>
  clear c5 c6 e0 e1 e2 e3 e4 e5 e6 e7 e8 e9 e10 e11 e12 HDF
  obtain ⟨rfl, A5, c5', hE5, ho5, k5⟩ := hcut
  obtain ⟨g5, rfl, hR5, hg5, hc5⟩ := Rz.ofOwn ho5 (by omega)
  have hb5 : Below V.heap.size V wc := hb4.trans ((k5.below (by omega) (fun g e => by cases e)).mono zG)
  have hl5 := last_one hE5 hc5 hR5 (lRf)
  have hfy := field_yes (d := 1) (n := 0) (e := 0) q
  go_wp2_with fail
  refine hl5.mono ?_
  rintro e w5 ⟨rfl, b5⟩
  have hb6 := hb5.trans (b5.mono hb5.size)
  go_upto_region 13 with (fail)
  clear hl5 hfy
  have lG5 := (gis hE5).1
  have lg5 := hR5.1
  have hE6 := (b5.block G lG5).trans hE5
  have ho6 := own_underP ho5 b5
  have z5 := b5.size
  obtain ⟨w6, hw6, b6, r6⟩ := rs_new w5 q 0 1 none 0 0
  dsimp only [rsBox] at hw6
  rw [hw6]
  clear hw6
  have hb6 := hb6.trans (b6.mono hb6.size)
  have hE6 := (b6.block G (by omega)).trans hE6
  have ho6 := own_underP ho6 b6
  have lH := (gis r6).1
  have zH : wc.heap.size <= w5.heap.size := z5
  have zV : V.heap.size <= w5.heap.size := lTr hb5.size z5
  generalize w5.heap.size = H at *
  obtain ⟨⟨t0, t1, t2, t3⟩, ⟨y0, y1, y2, y3⟩⟩ := rsbox r6
  cases q
  case false =>
   have hq' : ¬ N <= D0 := of_decide_eq_false hq
   have hcE := (evbox hE6).2
   go_upto_region 21 with (fail)
   obtain ⟨u9, hu9, b9⟩ : ∃ W, w6.setCell ⟨H, 3, none⟩ (.slice (some ⟨g5, 0, none⟩) 1 c5') = W /\ Below V.heap.size V W :=
    ⟨_, rfl, (hb6).setCell (p := ⟨H, 3, none⟩) zV _⟩
   have r9 : u9.heap[H]? = some (rsBox false 0 1 (some ⟨g5, 0, none⟩) 1 c5') := by
    rw [<- hu9]
    exact hSs w6 H 3 _ _ _ r6
   rw [hu9]
   clear hu9
   obtain ⟨⟨t0, t1, t2, t3⟩, _⟩ := rsbox r9
   obtain ⟨⟨s0, s1, s2, s3⟩, ⟨x0, x1, x2, x3⟩⟩ := rsbox (K4.out _ b9)
   have hfin := four_below (g := W3.heap.size) (hb.trans (b9.mono hzV)) (by omega) (.bool false) (.int .i64 0) (.int .i64 1) (.slice (some ⟨g5, 0, none⟩) 1 c5')
   go_wp2_with fail
   refine bodyPost_ret (v := .tuple #[.agg #[.bool false, .int .i64 0, .int .i64 1, .slice (some ⟨g5, 0, none⟩) 1 c5'], .int .i64 0]) (by simp [results, Tryz.f83, go_sem, s0, s1, s2, s3]) rfl (by first | exact ⟨⟨_, _, rfl⟩, hfin⟩ | (simp [hq']; exact hfin))
  case true =>
   have hq' : N <= D0 := of_decide_eq_true hq
   obtain ⟨hV6, _, _, _⟩ := K5.out _ hb6
   obtain ⟨gb2, X2, hgb, _, hgr, hX⟩ := hV6.gr
   obtain rfl : gb = gb2 := by injection hgb with e; injection e
   obtain ⟨e0, _, e7, e8, e9, e10, e11, e12⟩ := rz_gr hgr
   have hgl := hgr.1
   obtain ⟨_, _, _, _, _, c5, c6, _⟩ := verbox (K1.out _ hb6)
   have hpy : ∀ u, Below w6.drew.heap.size w6.drew u -> Calls Tryz.prog 213 #[.pointer (some ⟨G, 0, none⟩), Sx.agg ⟨1, (M : Int), 1, 4, ⟨#[]⟩, none, 0, 0⟩] u fun r w' => r = .returned (.tuple #[.agg #[.int .i64 4, .bool false, .int .i64 (M : Int), .int .i64 1], .int .i64 0]) /\ Below u.heap.size u w' := fun u _ => eexpr_num G (M : Int) 4 u
   have hdf := define_ok (dv := dv) (nm := ⟨#[112, 97, 121]⟩) (w := w6.drew) (lo := w4.heap.size) hE6 lG4 (Nat.le_of_lt (Nat.lt_of_le_of_lt (by omega) lH)) ho6.drew (by omega) hpy
   unfold Sx.agg at hdf
   have HDF := hID hdf
   clear hdf hpy hV6 hgr hgb hX
   change w6.cell? ⟨gb, 7, none⟩ = some (.int .i64 1) at e7
   change w6.cell? ⟨gb, 8, none⟩ = some (.int .i64 (M : Int)) at e8
   change w6.cell? ⟨gb, 9, none⟩ = some (.int .i64 1) at e9
   change w6.cell? ⟨gb, 10, none⟩ = some (.int .i64 4) at e10
   change w6.cell? ⟨gb, 11, none⟩ = some (.string ⟨#[]⟩) at e11
   dsimp only at c5 c6
   go_upto_region 14 with (fail)
   go_cut [14] from 56 to 65 (fun z wx => z = .int .i64 0 /\ ∃ A c, wx.heap[G]? = some (evBox ⟨ag, yr, ch, d0, d1, d2, d3, d4, d5, d6, bn, bd, vA, vn, vc⟩ A 2 c) /\ wx.ownsRow w4.heap.size 341 5 (.slice A 2 c) 2 (stCells ⟨#[105, 102]⟩ 1 true 0 0 ++ stCells ⟨#[112, 97, 121]⟩ 4 false (M : Int) 1) /\ KV G G (some g5) w6 wx)
   case first =>
    go_region_with (go_at_call 146; (with_reducible refine HDF.out.mono ?_); rintro e w7 ⟨rfl, A7, c7, hE7, ho7, k7⟩)
    all_goals
     go_wp2_with fail
     go_meet
     exact ⟨rfl, A7, c7, hE7, ho7, ⟨k7.os, k7.tape, k7.output, k7.size, k7.block⟩⟩
   case rest =>
    clear c5 c6 e0 e7 e8 e9 e10 e11 e12 HDF t0 t1 t2 t3 y0 y1 y2 y3
    obtain ⟨rfl, A7, c7, hE7, ho7, k7⟩ := hcut
    obtain ⟨g7, rfl, hR7, hg7, hc7⟩ := Rz.ofOwn ho7 (by omega)
    have hb7 : Below V.heap.size V wc := hb6.trans ((k7.below (by omega) (fun g e => by injection e with e; omega)).mono zG)
    have r7 := (k7.block H lH (by omega) (by omega) (fun e => by injection e with e; omega)).trans r6
    have lG7 := (gis hE7).1
    have lH7 := (gis r7).1
    have hl7 := last_two hE7 hc7 hR7 (lRf)
    have hfn := field_num (d := 4) (y := false) (n := (M : Int)) (e := 1)
    go_wp2_with fail
    refine hl7.mono ?_
    rintro e w8 ⟨rfl, b8⟩
    have hb8 := hb7.trans (b8.mono hb7.size)
    go_upto_region 18 with (fail)
    clear hl7 hfn
    have hE8 := (b8.block G lG7).trans hE7
    have r8 := (b8.block H lH7).trans r7
    have lG8 := (gis hE8).1
    have lH8 := (gis r8).1
    obtain ⟨w9, hw9, b9, q9⟩ := fr_new w8 (M : Int) 1
    dsimp only [fBox] at hw9
    rw [hw9]
    clear hw9
    have hb9 := hb8.trans (b9.mono hb8.size)
    have hE9 := (b9.block G lG8).trans hE8
    have r9 := (b9.block H lH8).trans r8
    obtain ⟨p0, p1⟩ := fbox q9
    clear q9
    obtain ⟨Z, hZ⟩ : ∃ Z, w8.heap.size = Z := ⟨_, rfl⟩
    rw [hZ] at p0 p1 ⊢
    obtain ⟨⟨t0, t1, t2, t3⟩, ⟨y0, y1, y2, y3⟩⟩ := rsbox r9
    by_cases hM0 : (0 : Int) < (M : Int)
    ·go_upto_region 20 with (fail)
     obtain ⟨u6, hu6, b6'⟩ : ∃ W, (w9.setCell ⟨H, 1, none⟩ (.int .i64 (M : Int))).setCell ⟨H, 2, none⟩ (.int .i64 1) = W /\ Below V.heap.size V W :=
      ⟨_, rfl, ((hb9).setCell (p := ⟨H, 1, none⟩) zV _).setCell (p := ⟨H, 2, none⟩) zV _⟩
     have r6' : u6.heap[H]? = some (rsBox true (M : Int) 1 none 0 0) := by
      rw [<- hu6]
      exact hSs _ H 2 _ _ _ (hSs w9 H 1 _ _ _ r9)
     have hE6' : u6.heap[G]? = some (evBox ⟨ag, yr, ch, d0, d1, d2, d3, d4, d5, d6, bn, bd, vA, vn, vc⟩ (some ⟨g7, 0, none⟩) 2 c7) := by
      rw [<- hu6]
      rw [Below.heap_setCell _ _ _ _ (by show G ≠ H; omega), Below.heap_setCell _ _ _ _ (by show G ≠ H; omega)]
      exact hE9
     rw [hu6]
     clear hu6 t0 t1 t2 t3 y0 y1 y2 y3
     obtain ⟨⟨t0, t1, t2, t3⟩, ⟨y0, y1, y2, y3⟩⟩ := rsbox r6'
     have hcE := (evbox hE6').2
     go_upto_region 21 with (fail)
     obtain ⟨u9, hu9, b9⟩ : ∃ W, u6.setCell ⟨H, 3, none⟩ (.slice (some ⟨g7, 0, none⟩) 2 c7) = W /\ Below V.heap.size V W :=
      ⟨_, rfl, (b6').setCell (p := ⟨H, 3, none⟩) zV _⟩
     have r9 : u9.heap[H]? = some (rsBox true (M : Int) 1 (some ⟨g7, 0, none⟩) 2 c7) := by
      rw [<- hu9]
      exact hSs u6 H 3 _ _ _ r6'
     rw [hu9]
     clear hu9
     obtain ⟨⟨t0, t1, t2, t3⟩, _⟩ := rsbox r9
     obtain ⟨⟨s0, s1, s2, s3⟩, ⟨x0, x1, x2, x3⟩⟩ := rsbox (K4.out _ b9)
     have hfin := four_below (g := W3.heap.size) (hb.trans (b9.mono hzV)) (by omega) (.bool true) (.int .i64 (M : Int)) (.int .i64 1) (.slice (some ⟨g7, 0, none⟩) 2 c7)
     go_wp2_with fail
     refine bodyPost_ret (v := .tuple #[.agg #[.bool true, .int .i64 (M : Int), .int .i64 1, .slice (some ⟨g7, 0, none⟩) 2 c7], .int .i64 0]) (by simp [results, Tryz.f83, go_sem, s0, s1, s2, s3]) rfl (by first | exact ⟨⟨_, _, rfl⟩, hfin⟩ | (simp [hq']; exact hfin))
    ·have hM1 : (M : Int) = 0 := by omega
     have hcE := (evbox hE9).2
     go_upto_region 21 with (fail)
     obtain ⟨u9, hu9, b9⟩ : ∃ W, w9.setCell ⟨H, 3, none⟩ (.slice (some ⟨g7, 0, none⟩) 2 c7) = W /\ Below V.heap.size V W :=
      ⟨_, rfl, (hb9).setCell (p := ⟨H, 3, none⟩) zV _⟩
     have r9 : u9.heap[H]? = some (rsBox true 0 1 (some ⟨g7, 0, none⟩) 2 c7) := by
      rw [<- hu9]
      exact hSs w9 H 3 _ _ _ r9
     rw [hu9]
     clear hu9
     obtain ⟨⟨t0, t1, t2, t3⟩, _⟩ := rsbox r9
     obtain ⟨⟨s0, s1, s2, s3⟩, ⟨x0, x1, x2, x3⟩⟩ := rsbox (K4.out _ b9)
     have hfin := four_below (g := W3.heap.size) (hb.trans (b9.mono hzV)) (by omega) (.bool true) (.int .i64 0) (.int .i64 1) (.slice (some ⟨g7, 0, none⟩) 2 c7)
     go_wp2_with fail
     refine bodyPost_ret (v := .tuple #[.agg #[.bool true, .int .i64 0, .int .i64 1, .slice (some ⟨g7, 0, none⟩) 2 c7], .int .i64 0]) (by simp [results, Tryz.f83, go_sem, s0, s1, s2, s3]) rfl (by first | exact ⟨⟨_, _, rfl⟩, hfin⟩ | (simp [hq', hM1]; exact hfin))
end
end Go.Proofs.YtnlopdmhdiegnaaGreatDoor
