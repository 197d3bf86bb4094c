/- Lemmas (no conditions): Sta, Erf, Awa, Lda, Txa -/
import Derived.Test.YtnlopdmhdiegnaaGreatDoorPk36
import Derived.Test.YtnlopdmhdiegnaaGreatDoorPk37
import Derived.Test.YtnlopdmhdiegnaaGreatDoorSx
set_option linter.unusedSimpArgs false
set_option linter.unusedVariables false
set_option maxRecDepth 100000
set_option maxHeartbeats 64000000
namespace Go.Proofs.YtnlopdmhdiegnaaGreatDoor
open Go.RowKit
section
open Go.RowKit Go.Shelf
attribute [local go_sem] Oper.semAt_some
theorem bwv1_in (F : Fence) (n : Nat) (h8 : F.fn 171) (hro : F.round = none) (hn : 1 <= n) (l Bs n₀ g cap : Nat) (x : Vs) (J Jx : List Unit -> World -> Prop)
  (hY : ∀ W, J [] W -> YieldAt F (n - 1) Tryz.prog l #[.int .i64 0, x.agg] W fun e W' =>
    (e = .returned (.bool true) /\ J [()] W' /\ Below n₀ W W') ∨ (e = .returned (.bool false) /\ Jx [()] W'))
  (W : World) (hBs : W.cell? ⟨Bs, 0, none⟩ = some (.slice (some ⟨g, 0, none⟩) 1 cap)) (hBl : Bs < n₀) (hc : 1 <= cap) (hX : Rz W n₀ g x.cells) (h0 : J [] W) :
  CallsIn F n Tryz.prog 171 #[.func (.yield l) #[] #[], .pointer (some ⟨Bs, 0, none⟩)] W fun e W' => (∃ v, e = .returned v) ∧
   ((∃ ys, ys = [()] /\ J ys W') ∨ (∃ pre, pre = [()] /\ Jx pre W')) := by
 refine callsIn_of_wp Tryz.func171 rfl h8 ?_ hro
 simp only [Tryz.ntmps171, List.size_toArray, List.length_cons, List.length_nil, Nat.reduceAdd, Nat.reduceSub, Array.replicate_succ, Array.replicate_zero, List.push_toArray, List.append_toArray, List.nil_append, List.cons_append]
 gi_wp2
 gi_loopw [3] (fun i wr => (i = .int .i64 0 /\ J [] wr /\ Below n₀ W wr) ∨ (i = .int .i64 (-1) /\ J [()] wr /\ Below n₀ W wr)) (fun i _ => (intOf i + 1).toNat)
 case atStart => exact .inl ⟨rfl, h0, bRf⟩
 case round =>
  rcases hrel with ⟨rfl, hJs, hnx⟩ | ⟨rfl, hJs, hnx⟩
  ·have hBs2 := (hnx.cell (p := ⟨Bs, 0, none⟩) hBl).trans hBs
   obtain ⟨c0, c1, c2, c3, c4, c5, c6, c7⟩ := rz_ver (hX.below hnx)
   obtain ⟨fn, tmps, assign, body, hy, hR⟩ := hY wr hJs
   dsimp only [Vs.agg] at hy
   gi_wp2
   refine hR.mono ?_
   rintro e W3 (⟨rfl, hJ3, hk3⟩ | ⟨rfl, hJx3⟩)
   ·gi_wp2
    go_roundw
    case rel => exact .inr ⟨rfl, hJ3, hnx.trans hk3⟩
    case measure => simp [intOf]
   ·gi_wp2
    refine bodyPost_ret (results_none rfl _ _ _) rfl ?_
    exact ⟨⟨_, rfl⟩, .inr ⟨_, rfl, hJx3⟩⟩
  ·gi_wp2
   go_end0
   exact ⟨⟨_, rfl⟩, .inl ⟨_, rfl, hJs⟩⟩
theorem bwv_in (F : Fence) (n : Nat) (h5 : F.fn 118) (hro : F.round = none) (a : Option Addr) (len cap : Nat) (w : World) :
  CallsIn F n Tryz.prog 118 #[.slice a len cap] w fun e w' => e = .returned (.func (.func 171) #[] #[.pointer (some ⟨w.heap.size, 0, none⟩)]) /\ w' = w.alloc (.cells #[.slice a len cap] 50) := by
 refine callsIn_of_wp Tryz.func118 rfl h5 ?_ hro
 simp only [Tryz.ntmps118, List.size_toArray, List.length_cons, List.length_nil, Nat.reduceAdd, Nat.reduceSub, Array.replicate_succ, Array.replicate_zero, List.push_toArray, List.append_toArray, List.nil_append, List.cons_append]
 gi_wp2
 go_ret
 exact ⟨rfl, rfl⟩
theorem bwv_stops (F : Fence) (n : Nat) (h8 : F.fn 171) (hro : F.round = none) (hn : 1 <= n) (Bs n₀ g cap : Nat) (x : Vs) (w : World) (hBs : Bs < n₀) (hn₀ : n₀ <= w.heap.size) (hc1 : 1 <= cap)
  (hc : w.cell? ⟨Bs, 0, none⟩ = some (.slice (some ⟨g, 0, none⟩) 1 cap)) (hX : Rz w n₀ g x.cells) :
  SeqStopsK F n Tryz.prog 171 #[.pointer (some ⟨Bs, 0, none⟩)] (fun _ : Unit => #[Value.int .i64 0, x.agg]) (Below n₀) (fun ys => ys = [()])
   (fun pre => pre = [()]) 1 w := fun l J Jx W hW _ _ hY h0 => by
 have hW' := hW.mono hn₀
 have hc' := (hW'.cell (p := ⟨Bs, 0, none⟩) hBs).trans hc
 exact bwv1_in F n h8 hro hn l Bs n₀ g cap x J Jx (fun W hJ => hY [] () W hJ (by simp)) W hc' hBs hc1 (hX.below hW') h0
end
section
theorem factor_ok (x : Vs) (y : Int) (w : World) : Calls Tryz.prog 205 #[x.agg, .int .i64 y] w fun e w' => e = .returned (.agg #[.int .i64 1, .int .i64 1]) /\ Below w.heap.size w w' := by
 obtain ⟨V, hV, bV, rV⟩ := ver_new w x
 obtain ⟨W, hW, bW, rW⟩ := box_new V (.cells #[.int .i64 0, .int .i64 0] 49)
 have lV := (gis rV).1
 have hzV : V.heap.size = w.heap.size + 1 := by rw [<- hV]; simp
 obtain ⟨c0, c1, c2, c3, c4, c5, c6, c7⟩ := verbox ((bW.block _ lV).trans rV)
 have s0 : W.cell? ⟨V.heap.size, 0, none⟩ = some (.int .i64 0) := by rw [cOr rW]; rfl
 have s1 : W.cell? ⟨V.heap.size, 1, none⟩ = some (.int .i64 0) := by rw [cOr rW]; rfl
 have y0 := fZr 0 rW
 have y1 := fZr 1 rW
 have hfin := ((bV.trans (bW.mono bV.size)).setCell (p := ⟨V.heap.size, 0, none⟩) bV.size (.int .i64 1)).setCell (p := ⟨V.heap.size, 1, none⟩) bV.size (.int .i64 1)
 obtain ⟨cA, cn, cc, gA, gc⟩ := x
 unfold Vs.agg
 dsimp only [verBox] at hV c3 c6
 clear hzV rW rV
 go_enter Tryz.func205, Tryz.ntmps205
 go_upto_region 1 with (fail)
 clear hV hW
 generalize V.heap.size = Q at *
 go_wp2_with fail
 refine wp_loop_rounds 1 ?_
 rw [rounds_succ]
 go_wp2_with fail
 exact bodyPost_ret (v := .agg #[.int .i64 1, .int .i64 1]) (by simp [results, Tryz.f205, go_sem, s0, s1]) rfl ⟨rfl, hfin⟩
theorem usable_ok (w : World) : Calls Tryz.prog 206 #[.agg #[.int .i64 1, .int .i64 1]] w fun e w' => e = .returned (.bool true) /\ Below w.heap.size w w' := by
 obtain ⟨W, hW, b, r⟩ := box_new w (.cells #[.int .i64 1, .int .i64 1] 49)
 have lW := (gis r).1
 have hv : ∀ u, Calls Tryz.prog 85 #[.agg #[.int .i64 1, .int .i64 1]] u fun e w' => e = .returned (.bool true) /\ Below u.heap.size u w' := fun u => validP_ok 1 1 (by omega) (by omega) (by omega) rfl u
 have s0 : W.cell? ⟨w.heap.size, 0, none⟩ = some (.int .i64 1) := by rw [cOr r]; rfl
 have s1 : W.cell? ⟨w.heap.size, 1, none⟩ = some (.int .i64 1) := by rw [cOr r]; rfl
 go_enter Tryz.func206, Tryz.ntmps206
 go_upto_region 1 with (fail)
 clear hW
 go_wp2_with fail
 refine (hv _).mono ?_
 rintro e w1 ⟨rfl, b1⟩
 clear s0 s1
 have s0 : w1.cell? ⟨w.heap.size, 0, none⟩ = some (.int .i64 1) := by rw [cOr ((b1.block _ lW).trans r)]; rfl
 have s1 : w1.cell? ⟨w.heap.size, 1, none⟩ = some (.int .i64 1) := by rw [cOr ((b1.block _ lW).trans r)]; rfl
 go_wp2_with fail
 go_ret
 exact ⟨rfl, b.trans (b1.mono b.size)⟩
theorem years_any {A CA : Option Addr} {n c cn cc st : Nat} {L : List Fc} {K : List Pr} {ws : List Sp} {lo : Int} {w : World} (hL : Rd w w.heap.size 14 A n (flat Fc.cells L)) (hl : L.length = n) (hW : Wks ws L) (h0 : 0 <= lo) (hw : WOk lo ws) (h6 : ws.length <= 6)
  (hC : Rd w w.heap.size 4 CA cn (flat Pr.ccells K)) (hcn : K.length = cn) (hK : Ctd ws K) (hst : st < 6) :
  Calls Tryz.prog 76 #[.slice A n c, .slice CA cn cc, .int .i64 (st : Int), .int .i64 1, .slice none 0 0] w (RetEa w) := by
 by_cases h : ws.length <= st
 ·exact years_none hL hl hW h0 hw h6 hC hcn hK hst h
 ·exact years_one hL hl hW h0 hw h6 hC hcn hK hst (by omega)
end
section
theorem pay_ok {cr : Bool} {N M D0 : Nat} {x : Vs} {v : Vw} {hi : Nat} {w : World} (h : VerR w hi (Sd.of cr N M) x) (hv : VwOk w hi v) (hhi : hi <= w.heap.size) (hN : N < 1000000000) (hM : M < 1000000) (hd0 : v.d0 = (D0 : Int)) (hw : Mt w) :
  Calls Tryz.prog 40 #[x.agg, .int .i64 1, v.agg] w fun r w' => ∃ A c, r = .returned (.tuple #[.agg #[.bool (decide (N <= D0)), .int .i64 (if N <= D0 then (M : Int) else 0), .int .i64 1, .slice A (if N <= D0 then 2 else 1) c], .int .i64 (if N <= D0 then (M : Int) else 0), .int .i64 0]) /\ Below w.heap.size w w' := by
 obtain ⟨W1, hW1, b1, r1⟩ := ver_new w x
 obtain ⟨W2, hW2, b2, r2⟩ := vw_new W1 v
 obtain ⟨V, hW3, b3, r3⟩ := rs_new W2 false 0 0 none 0 0
 have z1 := b1.size
 have z2 := b2.size
 have z3 := b3.size
 have l1 := (gis r1).1
 have l2 := (gis r2).1
 have l3 := (gis r3).1
 have b23 := b2.trans (b3.mono z2)
 have hb : Below w.heap.size w V := b1.trans (b23.mono z1)
 have q1 : V.heap[w.heap.size]? = some (verBox x) := (b23.block _ l1).trans r1
 have q2 : V.heap[W1.heap.size]? = some (vwBox v) := (b3.block _ l2).trans r2
 have hzV : w.heap.size <= V.heap.size := hb.size
 have k1 : ∀ u, Below V.heap.size V u -> u.heap[w.heap.size]? = some (verBox x) := fun u hu => (hu.block _ (by omega)).trans q1
 have k3 : ∀ u, Below V.heap.size V u -> u.heap[W2.heap.size]? = some (rsBox false 0 0 none 0 0) := fun u hu => (hu.block _ l3).trans r3
 have hgr := egrant_ok (h.below (hb.mono hhi)) (hv.below (hb.mono hhi)) (lTr hhi hzV) hN (by omega) hd0 (hw.kp hb)
 have K1 := hID k1
 have K3 := hID k3
 obtain ⟨c0, c1, c2, c3, c4, c5, c6, c7⟩ := verbox q1
 obtain ⟨⟨f0, f1, f2⟩, ⟨f3, f4, f5, f6, f7, f8, f9⟩, f10, f11, f12⟩ := vwbox q2
 obtain ⟨P, hP, hP2⟩ : ∃ P : Nat, (if N <= D0 then (M : Int) else 0) = (P : Int) /\ P < 1000000 := by
  by_cases hN : N <= D0
  ·exact ⟨M, by simp [hN], hM⟩
  ·exact ⟨0, by simp [hN], by omega⟩
 obtain ⟨q, hq⟩ : ∃ q, decide (N <= D0) = q := ⟨_, rfl⟩
 obtain ⟨ns, hns⟩ : ∃ ns : Nat, (if N <= D0 then 2 else 1) = ns := ⟨_, rfl⟩
 have hrd := fun u => round_ok P (by omega) u
 rw [hP, hq, hns] at hgr ⊢
 clear k1 k3 h hv hd0 q1 q2 r1 r2 r3 b23 b1 b2 b3
 obtain ⟨ag, yr, ch, d0, d1, d2, d3, d4, d5, d6, bn, bd, vA, vn, vc⟩ := v
 obtain ⟨cA, cn, cc, gA, gc⟩ := x
 unfold Vs.agg Vw.agg at *
 dsimp only [verBox, vwBox, rsBox] at hW1 hW2 hW3 c3 c6 f0 f1 f2 f3 f4 f5 f6 f7 f8 f9 f10 f11 f12 hgr
 go_enter Tryz.func40, Tryz.ntmps40
 go_upto_region 1 with (fail)
 clear hW1 hW2 hW3
 go_wp2_with fail
 refine hgr.mono ?_
 rintro e w1 ⟨A, c, rfl, b1⟩
 clear hgr c0 c1 c2 c3 c4 c5 c6 c7 f0 f1 f2 f3 f4 f5 f6 f7 f8 f9 f10 f11 f12
 have hb1 := hb.trans (b1.mono hzV)
 go_upto_region 2 with (fail)
 obtain ⟨w2, hw2, b2, r2⟩ := rs_new w1 q (P : Int) 1 A ns c
 dsimp only [rsBox] at hw2
 rw [hw2]
 clear hw2
 have hb2 := b1.trans (b2.mono b1.size)
 obtain ⟨⟨t0, t1, t2, t3⟩, ⟨y0, y1, y2, y3⟩⟩ := rsbox r2
 obtain ⟨_, c1, c2, _, _, _, _, _⟩ := verbox (K1.out _ hb2)
 go_wp2_with fail
 refine (hrd _).mono ?_
 rintro e w3 ⟨rfl, b3⟩
 have r3 := (b3.block _ (gis r2).1).trans r2
 have hb3 := hb2.trans (b3.mono hb2.size)
 clear t0 t1 t2 t3 y0 y1 y2 y3 c1 c2
 obtain ⟨⟨t0, t1, t2, t3⟩, ⟨y0, y1, y2, y3⟩⟩ := rsbox r3
 obtain ⟨⟨s0, s1, s2, s3⟩, ⟨x0, x1, x2, x3⟩⟩ := rsbox (K3.out _ hb3)
 have hfin := four_below (g := W2.heap.size) (hb.trans (hb3.mono hzV)) (by omega) (.bool q) (.int .i64 P) (.int .i64 1) (.slice A ns c)
 go_wp2_with fail
 refine bodyPost_ret (v := .tuple #[.agg #[.bool q, .int .i64 P, .int .i64 1, .slice A ns c], .int .i64 P, .int .i64 0]) (by simp [results, Tryz.f40, go_sem, s0, s1, s2, s3]) rfl (by first | exact ⟨⟨_, _, rfl⟩, hfin⟩ | exact ⟨_, _, rfl, hfin⟩)
end
section
theorem load_ok {cr : Bool} {N M : Nat} (hN : N < 1000000000) (hM : M < 1000000000) {nm q : By} {ts : List (Int × By)} (hq : LxL q ts) (hl : q.length <= 8000) (hn : Nm nm) (hT : ∀ L, Toks L ts -> PTok (Sd.of cr N M) nm L) {w : World} (hw : Mt w) (h4 : 4 <= w.heap.size) :
  Calls Tryz.prog 12 #[.string (bs q)] w fun e w' => ∃ x : St, e = .returned (.tuple #[x.agg nm, .int .i64 0, .int .i64 0]) /\ StX w' (w.heap.size + 1) (Sd.of cr N M) x /\ Below w.heap.size w w' := by
 obtain ⟨W, hW, bW, rW⟩ := box_new w (stRow ⟨#[]⟩ 0 none 0 0)
 have lW := (gis rW).1
 have hp := parse_of hq hl hn hT (hw.kp bW) (lTr h4 bW.size) (fun hs hm => stat_valid hn hs (lRf) (sd_ok cr hN hM) hm)
 generalize bs q = S at *
 dsimp only [stRow] at hW
 go_enter Tryz.func12, Tryz.ntmps12
 go_upto_region 1 with (fail)
 clear hW
 go_wp2_with fail
 refine hp.mono ?_
 rintro e w1 ⟨⟨g, c⟩, rfl, hs, b1⟩
 have hb1 := bW.trans (b1.mono bW.size)
 have r1 := (b1.block _ lW).trans rW
 have l1 := (gis r1).1
 obtain ⟨_, y0, y1, y2⟩ := strow r1
 clear hp rW b1
 unfold St.agg
 dsimp only
 obtain ⟨S2, hS2⟩ : ∃ s, bs nm = s := ⟨_, rfl⟩
 rw [hS2]
 have hb2 : Below w.heap.size w (((w1.setCell ⟨w.heap.size, 0, none⟩ (.string S2)).setCell ⟨w.heap.size, 1, none⟩ (.int .i64 1)).setCell ⟨w.heap.size, 2, none⟩ (.slice (some ⟨g, 0, none⟩) 1 c)) :=
  ((hb1.setCell (p := ⟨w.heap.size, 0, none⟩) (lRf) _).setCell (p := ⟨w.heap.size, 1, none⟩) (lRf) _).setCell (p := ⟨w.heap.size, 2, none⟩) (lRf) _
 have hk := three_kp w1 w.heap.size (.string S2) (.int .i64 1) (.slice (some ⟨g, 0, none⟩) 1 c)
 have hzW : w.heap.size + 1 <= W.heap.size + 1 := by have := bW.size; omega
 have hs2 := hs.kp hk (by omega)
 obtain ⟨W2, hW2⟩ : ∃ u, ((w1.setCell ⟨w.heap.size, 0, none⟩ (.string S2)).setCell ⟨w.heap.size, 1, none⟩ (.int .i64 1)).setCell ⟨w.heap.size, 2, none⟩ (.slice (some ⟨g, 0, none⟩) 1 c) = u := ⟨_, rfl⟩
 have r2 : W2.heap[w.heap.size]? = some (stRow S2 1 (some ⟨g, 0, none⟩) 1 c) := by
  rw [<- hW2]
  have q0 := hSs w1 w.heap.size 0 _ _ (.string S2) r1
  have q1 := hSs _ w.heap.size 1 _ _ (.int .i64 1) q0
  exact hSs _ w.heap.size 2 _ _ (.slice (some ⟨g, 0, none⟩) 1 c) q1
 go_upto_region 4 with (fail)
 rw [hW2] at hs2 hb2
 clear hW2 hk hs y0 y1 y2 r1
 obtain ⟨⟨f0, f1, f2⟩, _⟩ := strow r2
 have hty := statute_ty hn hs2.rd (lRf) (dim_ci hN) (dim_py hM) (hw.kp hb2)
 unfold St.agg at hty
 dsimp only at hty
 rw [hS2] at hty
 go_wp2_with fail
 refine hty.mono ?_
 rintro e w3 ⟨rfl, b3⟩
 have hb3 := hb2.trans (b3.mono hb2.size)
 have r3 := (b3.block _ (gis r2).1).trans r2
 have hs3 := hs2.kp (Kp.of (R := w.heap.size) b3) (by omega)
 clear f0 f1 f2 hty hs2 r2
 obtain ⟨⟨f0, f1, f2⟩, y0, y1, y2⟩ := strow r3
 have hk := three_kp w3 w.heap.size (.string S2) (.int .i64 1) (.slice (some ⟨g, 0, none⟩) 1 c)
 have hs4 := hs3.kp hk (by omega)
 have hb4 : Below w.heap.size w (((w3.setCell ⟨w.heap.size, 0, none⟩ (.string S2)).setCell ⟨w.heap.size, 1, none⟩ (.int .i64 1)).setCell ⟨w.heap.size, 2, none⟩ (.slice (some ⟨g, 0, none⟩) 1 c)) :=
  ((hb3.setCell (p := ⟨w.heap.size, 0, none⟩) (lRf) _).setCell (p := ⟨w.heap.size, 1, none⟩) (lRf) _).setCell (p := ⟨w.heap.size, 2, none⟩) (lRf) _
 clear hk hs3 r3
 go_wp2_with fail
 exact bodyPost_ret (v := .tuple #[.agg #[.string S2, .int .i64 1, .slice (some ⟨g, 0, none⟩) 1 c], .int .i64 0, .int .i64 0]) (by simp [results, Tryz.f12, go_sem, f0, f1, f2]) rfl ⟨⟨g, c⟩, by unfold St.agg; rw [hS2], ⟨hs4.c1, lTr hzW hs4.low, by obtain ⟨v, h1, h2⟩ := hs4.ex; exact ⟨v, h1, h2.base hzW⟩⟩, hb4⟩
end
section
def txt : List (Bool × Int × By) -> By
 | [] => []
 | (b, _, t) :: r => (if b then [32] else []) ++ (t ++ txt r)
def Good : List (Bool × Int × By) -> Prop
 | [] => True
 | (_, k, t) :: r => Pce (txt r) t k /\ Good r
theorem lxl_txt : ∀ (l : List (Bool × Int × By)), Good l -> LxL (txt l) (l.map fun x => x.2)
 | [], _ => .nil (by simp [txt])
 | (b, k, t) :: r, h => by
  refine .cons (b := if b then [32] else []) ?_ h.1 (lxl_txt r h.2)
  intro c hc
  cases b
  ·simp at hc
  ·simpa using hc
theorem toks_cons {L : List Tk} {k : Int} {t : By} {ts : List (Int × By)} (h : Toks L ((k, t) :: ts)) : ∃ x L', L = x :: L' /\ x.k = k /\ x.t = bs t /\ Toks L' ts := by
 unfold Toks at h
 cases L with
 | nil => simp at h
 | cons x L' =>
  simp only [List.map_cons, List.cons.injEq, Prod.mk.injEq] at h
  exact ⟨x, L', rfl, h.1.1, h.1.2, h.2⟩
theorem toks_nil {L : List Tk} (h : Toks L []) : L = [] := by
 unfold Toks at h
 simpa using h
theorem bs_toList (t : By) : (bs t).toList = t := by rw [ByteArray.toList_eq]; rfl
theorem isB_yes {x : Tk} {t : By} (hk : x.k = 1 ∨ x.k = 4) (ht : x.t = bs t) : isB x ⟨t.toArray⟩ = true := by
 have e : (⟨t.toArray⟩ : ByteArray) = bs t := rfl
 unfold isB
 rw [ht, e, bs_toList]
 rcases hk with h | h <;> simp [h]
theorem isB_not {x : Tk} {t s : By} (ht : x.t = bs t) (h : t ≠ s) : isB x ⟨s.toArray⟩ = false := by
 have e : (⟨s.toArray⟩ : ByteArray) = bs s := rfl
 unfold isB
 rw [ht, e, bs_toList, bs_toList]
 simp [h]
theorem isB_num {x : Tk} (hk : x.k = 2) (s : ByteArray) : isB x s = false := by
 unfold isB
 simp [hk]
theorem nob_not {x : Tk} {t : By} (ht : x.t = bs t) {l : List By} (h : l.contains t = false) : NoB x l := fun s hs => isB_not ht (fun e => by
 rw [e] at h
 have : l.contains s = true := List.contains_iff_mem.2 hs
 rw [this] at h
 cases h)
theorem nob_num {x : Tk} (hk : x.k = 2) (l : List By) : NoB x l := fun s _ => isB_num hk _
theorem dgl_one : dgl 1 = [49] := by rw [dgl_lt (by omega)]; rfl
def fewB : By := [102, 101, 119]
def flatB : By := [102, 108, 97, 116]
def headT (nm : By) : List (Bool × Int × By) := [(false, 1, [115, 116, 97, 116, 117, 116, 101]), (true, 1, nm), (true, 1, [99, 117, 114, 114, 101, 110, 99, 121]), (true, 2, dgl 1), (true, 4, [123]), (true, 1, [102, 114, 111, 109]), (true, 3, 64 :: day0), (true, 4, [123]), (true, 1, [114, 111, 117, 110, 100]), (true, 1, [100, 111, 119, 110]), (true, 2, dgl 1), (false, 4, [59])]
def credT : List (Bool × Int × By) := [(true, 1, [99, 114, 101, 100, 105, 116]), (true, 1, [118, 111, 108, 117, 110, 116, 97, 114, 121]), (false, 4, [59])]
def grantT (N M : Nat) : List (Bool × Int × By) := [(true, 1, [103, 114, 97, 110, 116]), (true, 1, [111, 108, 100]), (true, 1, [105, 102]), (true, 1, insB), (true, 4, [62, 61]), (true, 2, dgl N ++ [100]), (true, 1, [112, 97, 121]), (true, 2, dgl M ++ [109]), (false, 4, [59]), (true, 4, [125]), (true, 4, [125])]
def statT (nm : By) (cr : Bool) (N M : Nat) : List (Bool × Int × By) := headT nm ++ ((if cr then credT else []) ++ grantT N M)
theorem pw {r : By} (c : UInt8) (u : By) (h0 : letV c.toNat = true) (h1 : ∀ x ∈ u, inwV (x.toNat : Int) = true) (h2 : u.length < 12) (h3 : inwV (headI r) = false) : Pce r (c :: u) 1 := .word h0 h1 h2 h3
theorem pn {r : By} (k : Nat) (dim : Int) (s : By) (hk : k < 1000000000) (hd : dim = 2 ∨ dim = 3 ∨ dim = 4) (h3 : numB (headI r) = false) (hs : sufB dim.toNat = s) : Pce r (dgl k ++ s) 2 := by
 subst hs
 exact .num hk hd h3
theorem pn1 {r : By} (h3 : numB (headI r) = false) : Pce r (dgl 1) 2 := by
 have := pn (r := r) 1 2 [] (by omega) (.inl rfl) h3 rfl
 rwa [List.append_nil] at this
theorem good_grant {N M : Nat} (hN : N < 1000000000) (hM : M < 1000000000) : Good (grantT N M) :=
 ⟨pw 103 [114, 97, 110, 116] (by decide) (by decide) (by decide) rfl, pw 111 [108, 100] (by decide) (by decide) (by decide) rfl, pw 105 [102] (by decide) (by decide) (by decide) rfl, pw 105 [110, 115, 117, 114, 101, 100] (by decide) (by decide) (by decide) rfl,
  .sign (j := 1) (.inl rfl) rfl, pn N 3 [100] hN (by simp) rfl rfl, pw 112 [97, 121] (by decide) (by decide) (by decide) rfl, pn M 4 [109] hM (by simp) rfl rfl, .sign (j := 15) (by simp) rfl, .sign (j := 13) (by simp) rfl, .sign (j := 13) (by simp) rfl, trivial⟩
theorem good_stat {nm : By} (hn : Nm nm) (cr : Bool) {N M : Nat} (hN : N < 1000000000) (hM : M < 1000000000) : Good (statT nm cr N M) := by
 obtain ⟨⟨c, u, rfl, h0, h1, h2⟩, _⟩ := hn
 have hg := good_grant hN hM
 cases cr
 ·exact ⟨pw 115 [116, 97, 116, 117, 116, 101] (by decide) (by decide) (by decide) rfl, pw c u h0 h1 h2 rfl, pw 99 [117, 114, 114, 101, 110, 99, 121] (by decide) (by decide) (by decide) rfl, pn1 rfl, .sign (j := 12) (by simp) rfl, pw 102 [114, 111, 109] (by decide) (by decide) (by decide) rfl, .date, .sign (j := 12) (by simp) rfl, pw 114 [111, 117, 110, 100] (by decide) (by decide) (by decide) rfl, pw 100 [111, 119, 110] (by decide) (by decide) (by decide) rfl, pn1 rfl, .sign (j := 15) (by simp) rfl, hg⟩
 ·exact ⟨pw 115 [116, 97, 116, 117, 116, 101] (by decide) (by decide) (by decide) rfl, pw c u h0 h1 h2 rfl, pw 99 [117, 114, 114, 101, 110, 99, 121] (by decide) (by decide) (by decide) rfl, pn1 rfl, .sign (j := 12) (by simp) rfl, pw 102 [114, 111, 109] (by decide) (by decide) (by decide) rfl, .date, .sign (j := 12) (by simp) rfl, pw 114 [111, 117, 110, 100] (by decide) (by decide) (by decide) rfl, pw 100 [111, 119, 110] (by decide) (by decide) (by decide) rfl, pn1 rfl, .sign (j := 15) (by simp) rfl,
   pw 99 [114, 101, 100, 105, 116] (by decide) (by decide) (by decide) rfl, pw 118 [111, 108, 117, 110, 116, 97, 114, 121] (by decide) (by decide) (by decide) rfl, .sign (j := 15) (by simp) rfl, hg⟩
theorem vtok_grant {cr : Bool} {N M : Nat} (hN : N < 1000000000) (hM : M < 1000000000) {C L : List Tk}
  (hC : (cr = true /\ ∃ c1 c2 c3, C = [c1, c2, c3] /\ isB c1 ⟨#[99, 114, 101, 100, 105, 116]⟩ = true /\ c2.k = 1 /\ c2.t = ⟨#[118, 111, 108, 117, 110, 116, 97, 114, 121]⟩ /\ isB c3 ⟨#[108, 105, 109, 105, 116]⟩ = false /\ isB c3 ⟨#[59]⟩ = true) ∨ (cr = false /\ C = []))
  (h : Toks L ((grantT N M).map fun x => x.2)) : ∃ r, VTok (Sd.of cr N M) (C ++ L) [r] /\ isB r ⟨#[102, 114, 111, 109]⟩ = false /\ isB r ⟨#[125]⟩ = true := by
 obtain ⟨x, L1, rfl, k1, e1, h⟩ := toks_cons h
 obtain ⟨y, L2, rfl, k2, e2, h⟩ := toks_cons h
 obtain ⟨z, L3, rfl, k3, e3, h⟩ := toks_cons h
 obtain ⟨i, L4, rfl, k4, e4, h⟩ := toks_cons h
 obtain ⟨g, L5, rfl, k5, e5, h⟩ := toks_cons h
 obtain ⟨n, L6, rfl, k6, e6, h⟩ := toks_cons h
 obtain ⟨q, L7, rfl, k7, e7, h⟩ := toks_cons h
 obtain ⟨m, L8, rfl, k8, e8, h⟩ := toks_cons h
 obtain ⟨s, L9, rfl, k9, e9, h⟩ := toks_cons h
 obtain ⟨r, L10, rfl, k10, e10, h⟩ := toks_cons h
 obtain ⟨r2, L11, rfl, k11, e11, h⟩ := toks_cons h
 obtain rfl := toks_nil h
 refine ⟨r2, ⟨C, i :: g :: n :: q :: m :: s :: r :: [r2], m :: s :: r :: [r2], x, y, z, q, s, r, rfl, hC, nob_not e1 (by decide), isB_yes (.inl k1) e1, k2, e2, isB_yes (.inl k3) e3, ?_, isB_yes (.inl k7) e7, ?_, isB_yes (.inr k9) e9, nob_not e10 (by decide), isB_yes (.inr k10) e10⟩, isB_not e11 (by decide), isB_yes (.inr k11) e11⟩
 ·intro R u hP
  exact expr_cmp hP (.name k4 e4 nm_ins) (.num k6 e6 (by simp) hN) (nob_not e4 (by decide)) (nob_num k6 _) (nob_not e4 (by decide)) (nob_not e4 (by decide)) ⟨isB_yes (.inr k5) e5, nob_not e5 (by decide)⟩ ⟨nob_not e7 (by decide)⟩
 ·intro R u hP
  exact expr_leaf hP (.num k8 e8 (by simp) hM) (nob_num k8 _) (nob_num k8 _) (nob_num k8 _) ⟨nob_not e9 (by decide)⟩
theorem ptok_stat {nm : By} {cr : Bool} {N M : Nat} (hN : N < 1000000000) (hM : M < 1000000000) {L : List Tk} (h : Toks L ((statT nm cr N M).map fun x => x.2)) : PTok (Sd.of cr N M) nm L := by
 obtain ⟨t0, L, rfl, k0, e0, h⟩ := toks_cons h
 obtain ⟨t1, L, rfl, k1, e1, h⟩ := toks_cons h
 obtain ⟨t2, L, rfl, k2, e2, h⟩ := toks_cons h
 obtain ⟨t3, L, rfl, k3, e3, h⟩ := toks_cons h
 obtain ⟨t4, L, rfl, k4, e4, h⟩ := toks_cons h
 obtain ⟨t5, L, rfl, k5, e5, h⟩ := toks_cons h
 obtain ⟨d, L, rfl, kd, ed, h⟩ := toks_cons h
 obtain ⟨a1, L, rfl, l1, f1, h⟩ := toks_cons h
 obtain ⟨a2, L, rfl, l2, f2, h⟩ := toks_cons h
 obtain ⟨a3, L, rfl, l3, f3, h⟩ := toks_cons h
 obtain ⟨a4, L, rfl, l4, f4, h⟩ := toks_cons h
 obtain ⟨a5, L, rfl, l5, f5, h⟩ := toks_cons h
 have fin : ∀ {r : Tk} {L6 : List Tk}, VTok (Sd.of cr N M) L6 [r] -> isB r ⟨#[102, 114, 111, 109]⟩ = false -> isB r ⟨#[125]⟩ = true -> PTok (Sd.of cr N M) nm (t0 :: t1 :: t2 :: t3 :: t4 :: t5 :: d :: a1 :: a2 :: a3 :: a4 :: a5 :: L6) := fun {r L6} hv h1 h2 =>
  ⟨t0, t1, t2, t3, t4, t5, d, a1, a2, a3, a4, a5, r, L6, rfl, isB_yes (.inl k0) e0, k1, e1, isB_yes (.inl k2) e2, k3, e3, isB_yes (.inr k4) e4, isB_yes (.inl k5) e5, ⟨kd, ed, isB_yes (.inr l1) f1, isB_yes (.inl l2) f2, l3, f3, l4, f4, isB_yes (.inr l5) f5⟩, hv, h1, h2⟩
 cases cr
 ·obtain ⟨r, hv, h1, h2⟩ := vtok_grant (C := []) hN hM (.inr ⟨rfl, rfl⟩) h
  exact fin hv h1 h2
 ·obtain ⟨c1, L, rfl, m1, g1, h⟩ := toks_cons h
  obtain ⟨c2, L, rfl, m2, g2, h⟩ := toks_cons h
  obtain ⟨c3, L, rfl, m3, g3, h⟩ := toks_cons h
  obtain ⟨r, hv, h1, h2⟩ := vtok_grant (C := [c1, c2, c3]) hN hM (.inl ⟨rfl, c1, c2, c3, rfl, isB_yes (.inl m1) g1, m2, g2, isB_not g3 (by decide), isB_yes (.inr m3) g3⟩) h
  exact fin hv h1 h2
theorem txt_len {nm : By} (hn : Nm nm) (cr : Bool) {N M : Nat} (hN : N < 1000000000) (hM : M < 1000000000) : (txt (statT nm cr N M)).length <= 8000 := by
 obtain ⟨⟨c, u, rfl, _, _, h2⟩, _⟩ := hn
 have h9 := dgl_len 8 N hN
 have hm := dgl_len 8 M hM
 have h1 : (dgl 1).length = 1 := by rw [dgl_one]; rfl
 cases cr <;> simp [statT, headT, credT, grantT, txt, insB, day0, h1] <;> omega
theorem load_stat {nm : By} (hn : Nm nm) (cr : Bool) {N M : Nat} (hN : N < 1000000000) (hM : M < 1000000000) {w : World} (hw : Mt w) (h4 : 4 <= w.heap.size) :
  Calls Tryz.prog 12 #[.string (bs (txt (statT nm cr N M)))] w fun e w' => ∃ x : St, e = .returned (.tuple #[x.agg nm, .int .i64 0, .int .i64 0]) /\ StX w' (w.heap.size + 1) (Sd.of cr N M) x /\ Below w.heap.size w w' :=
 load_ok hN hM (lxl_txt _ (good_stat hn cr hN hM)) (txt_len hn cr hN hM) hn (fun _ h => ptok_stat hN hM h) hw h4
theorem nm_few : Nm fewB := ⟨⟨102, [101, 119], rfl, by decide, by decide, by decide⟩, by decide⟩
theorem nm_flat : Nm flatB := ⟨⟨102, [108, 97, 116], rfl, by decide, by decide, by decide⟩, by decide⟩
end
end Go.Proofs.YtnlopdmhdiegnaaGreatDoor
