/- Lemmas (no conditions): Evc, Evd, Eve -/
import Derived.Test.YtnlopdmhdiegnaaGreatDoorPk19
import Derived.Test.YtnlopdmhdiegnaaGreatDoorPk28
import Derived.Test.YtnlopdmhdiegnaaGreatDoorPk29
set_option linter.unusedSimpArgs false
set_option linter.unusedVariables false
set_option maxRecDepth 100000
set_option maxHeartbeats 64000000
namespace Go.Proofs.YtnlopdmhdiegnaaGreatDoor
open Go.RowKit
section
abbrev evBox (v : Vw) (A : Option Addr) (n c : Nat) : Obj := .cells #[.int .i64 v.ag, .int .i64 v.yr, .int .i64 v.ch, .int .i64 v.d0, .int .i64 v.d1, .int .i64 v.d2, .int .i64 v.d3, .int .i64 v.d4, .int .i64 v.d5, .int .i64 v.d6, .int .i64 (v.bn : Int), .int .i64 (v.bd : Int), .slice v.A v.n v.c, .slice A n c] 259
def EvC (W : World) (g : Nat) (v : Vw) : Prop := (W.cell? ⟨g, 0, none⟩ = some (.int .i64 v.ag) /\ W.cell? ⟨g, 1, none⟩ = some (.int .i64 v.yr) /\ W.cell? ⟨g, 2, none⟩ = some (.int .i64 v.ch)) ∧
  (W.cell? ⟨g, 3, none⟩ = some (.int .i64 v.d0) /\ W.cell? ⟨g, 4, none⟩ = some (.int .i64 v.d1) /\ W.cell? ⟨g, 5, none⟩ = some (.int .i64 v.d2) /\ W.cell? ⟨g, 6, none⟩ = some (.int .i64 v.d3) /\ W.cell? ⟨g, 7, none⟩ = some (.int .i64 v.d4) /\ W.cell? ⟨g, 8, none⟩ = some (.int .i64 v.d5) /\ W.cell? ⟨g, 9, none⟩ = some (.int .i64 v.d6)) ∧
  (W.cell? ⟨g, 10, none⟩ = some (.int .i64 (v.bn : Int)) /\ W.cell? ⟨g, 11, none⟩ = some (.int .i64 (v.bd : Int)) /\ W.cell? ⟨g, 12, none⟩ = some (.slice v.A v.n v.c))
theorem evbox {W : World} {g : Nat} {v : Vw} {A : Option Addr} {n c : Nat} (hr : W.heap[g]? = some (evBox v A n c)) : EvC W g v /\ W.cell? ⟨g, 13, none⟩ = some (.slice A n c) := by
 refine ⟨⟨⟨?_, ?_, ?_⟩, ⟨?_, ?_, ?_, ?_, ?_, ?_, ?_⟩, ?_, ?_, ?_⟩, ?_⟩ <;> rw [cell_of_row _ _ _ _ _ _ hr] <;> rfl
theorem ename_ins {v : Vw} {G hi : Nat} {A : Option Addr} {n c : Nat} {w : World} (h : VwOk w hi v) (hhi : hi <= w.heap.size) (hE : w.heap[G]? = some (evBox v A n c)) : Calls Tryz.prog 267 #[.pointer (some ⟨G, 0, none⟩), .string ⟨#[105, 110, 115, 117, 114, 101, 100]⟩] w fun r w' => r = .returned (.agg #[.int .i64 3, .bool false, .int .i64 v.d0, .int .i64 1]) /\ Below w.heap.size w w' := by
 obtain ⟨W, hW, b, r⟩ := box_new w (.cells #[.string ⟨#[105, 110, 115, 117, 114, 101, 100]⟩] 9)
 obtain ⟨V, hV, c', s⟩ := vl_new W 0 false 0 0
 have hb := b.trans (c'.mono b.size)
 have lG := (gis hE).1
 have lW := (gis r).1
 have eE : V.heap[G]? = some (evBox v A n c) := (hb.block G lG).trans hE
 have rS : V.heap[w.heap.size]? = some (.cells #[.string ⟨#[105, 110, 115, 117, 114, 101, 100]⟩] 9) := (c'.block _ lW).trans r
 have lV := (gis s).1
 have hall : ∀ u, Below V.heap.size V u -> EvC u G v /\ u.cell? ⟨w.heap.size, 0, none⟩ = some (.string ⟨#[105, 110, 115, 117, 114, 101, 100]⟩) := fun u hu =>
  ⟨(evbox ((hu.block G (Nat.lt_of_lt_of_le lG hb.size)).trans eE)).1, by rw [cell_of_row _ _ _ _ _ _ ((hu.block _ (Nat.lt_of_lt_of_le lW c'.size)).trans rS)]; rfl⟩
 have hin : ∀ u, Below V.heap.size V u -> Calls Tryz.prog 321 #[v.agg, .string ⟨#[105, 110, 115, 117, 114, 101, 100]⟩] u fun r w' => r = .returned (.tuple #[.agg #[.int .i64 3, .bool false, .int .i64 v.d0, .int .i64 1], .bool true]) /\ Below u.heap.size u w' := fun u hu =>
  vinput_ins (h.below ((hb.trans (hu.mono hb.size)).mono hhi)) (Nat.le_trans hhi (Nat.le_trans hb.size hu.size))
 have HA := Lib.hid hall
 obtain ⟨⟨⟨f0, f1, f2⟩, ⟨f3, f4, f5, f6, f7, f8, f9⟩, f10, f11, f12⟩, fs⟩ := hall V (Below.refl _ _)
 clear hall h hE eE rS
 obtain ⟨ag, yr, ch, d0, d1, d2, d3, d4, d5, d6, bn, bd, vA, vn, vc⟩ := v
 unfold Vw.agg at hin
 dsimp only [vlBox, EvC] at hV hin f0 f1 f2 f3 f4 f5 f6 f7 f8 f9 f10 f11 f12 HA
 have HI := Lib.hid hin
 clear hin
 go_enter Tryz.func267, Tryz.ntmps267
 go_upto_region 1 with (fail)
 clear hW hV
 go_cut [5, 6] from 9 to 17 (fun p q wx => ∃ B, p = .pointer (some ⟨B, 0, none⟩) /\ q = .bool true /\ wx.heap[B]? = some (vlBox 3 false d0 1) /\ Below V.heap.size V wx)
 case first =>
  go_region_held3 (fun w' => ((w'.cell? ⟨G, 0, none⟩ = some (.int .i64 ag) /\ w'.cell? ⟨G, 1, none⟩ = some (.int .i64 yr) /\ w'.cell? ⟨G, 2, none⟩ = some (.int .i64 ch)) ∧
  (w'.cell? ⟨G, 3, none⟩ = some (.int .i64 d0) /\ w'.cell? ⟨G, 4, none⟩ = some (.int .i64 d1) /\ w'.cell? ⟨G, 5, none⟩ = some (.int .i64 d2) /\ w'.cell? ⟨G, 6, none⟩ = some (.int .i64 d3) /\ w'.cell? ⟨G, 7, none⟩ = some (.int .i64 d4) /\ w'.cell? ⟨G, 8, none⟩ = some (.int .i64 d5) /\ w'.cell? ⟨G, 9, none⟩ = some (.int .i64 d6)) ∧
  (w'.cell? ⟨G, 10, none⟩ = some (.int .i64 (bn : Int)) /\ w'.cell? ⟨G, 11, none⟩ = some (.int .i64 (bd : Int)) /\ w'.cell? ⟨G, 12, none⟩ = some (.slice vA vn vc))) /\ w'.cell? ⟨w.heap.size, 0, none⟩ = some (.string ⟨#[105, 110, 115, 117, 114, 101, 100]⟩))
   (exact HA.out _ (by repeat (first | exact Below.refl _ _ | exact hb2 | exact four_below hb2 (Nat.le_refl _) _ _ _ _ | refine Below.drew ?_ | refine Below.alloc ?_ (by first | omega | (simp; omega)) _ | refine Below.setCell ?_ (by first | omega | (simp; omega)) _)))
   (first
     | (go_at_call 321; (with_reducible refine (HI.out V.drew (Below.refl _ _).drew).mono ?_); rintro e w2 ⟨rfl, b2⟩
        have hb2 : Below V.heap.size V w2 := (Below.refl _ _).drew.trans b2
        have zz2 := hb2.size)
     | (go_at_call 321; (with_reducible refine (HI.out (V.alloc (vlBox 0 false 0 0)).drew ((Below.refl _ _).alloc (Nat.le_refl _) _).drew).mono ?_); rintro e w2 ⟨rfl, b2⟩
        have hb2 : Below V.heap.size V w2 := ((Below.refl _ _).alloc (Nat.le_refl _) (vlBox 0 false 0 0)).drew.trans (b2.mono (by simp))
        have zz2 := hb2.size
        have rB := (b2.block V.heap.size (by simp)).trans (heap_alloc_new V (vlBox 0 false 0 0))
        have lB := (gis rB).1
        obtain ⟨⟨m0, m1, m2, m3⟩, q0, q1, q2, q3⟩ := vlbox rB))
  all_goals
   go_wp2_with fail
   go_meet
  all_goals first
   | exact ⟨_, rfl, rfl, heap_alloc_new w2 _, hb2.alloc hb2.size _⟩
   | exact ⟨_, rfl, rfl, four_vl rB 3 false d0 1, four_below hb2 (Nat.le_refl _) _ _ _ _⟩
 case rest =>
  obtain ⟨B, rfl, rfl, rB, hb2⟩ := hcut
  have s2 := (hb2.block _ lV).trans s
  obtain ⟨⟨g0, g1, g2, g3⟩, y0, y1, y2, y3⟩ := vlbox s2
  obtain ⟨⟨m0, m1, m2, m3⟩, _⟩ := vlbox rB
  have hfin := four_below (g := W.heap.size) (hb.trans (hb2.mono hb.size)) b.size (.int .i64 3) (.bool false) (.int .i64 d0) (.int .i64 1)
  clear f0 f1 f2 f3 f4 f5 f6 f7 f8 f9 f10 f11 f12 fs
  go_wp2_with fail
  exact bodyPost_ret (v := .agg #[.int .i64 3, .bool false, .int .i64 d0, .int .i64 1]) (by simp [results, Tryz.f267, go_sem, g0, g1, g2, g3]) rfl ⟨rfl, hfin⟩
theorem ecompare_ge (x y : Nat) (hx : x <= 1000000000000000) (hy : y <= 1000000000000000) (w : World) : Calls Tryz.prog 271 #[.int .i64 16, .agg #[.int .i64 (x : Int), .int .i64 1], .agg #[.int .i64 (y : Int), .int .i64 1]] w fun r w' => r = .returned (.tuple #[.bool (decide (y <= x)), .int .i64 0]) /\ Below w.heap.size w w' := by
 obtain ⟨W, hW, b, r⟩ := fr_new w (x : Int) 1
 obtain ⟨V, hV, c, s⟩ := fr_new W (y : Int) 1
 have hb := b.trans (c.mono b.size)
 obtain ⟨f0, f1⟩ := fbox ((c.block _ (gis r).1).trans r)
 obtain ⟨g0, g1⟩ := fbox s
 have hc := fun u => compare_ok x y hx hy u
 obtain ⟨z, hz⟩ : ∃ z, cmpN x y = z := ⟨_, rfl⟩
 have hd : decide (0 <= z) = decide (y <= x) := by
  rw [<- hz]
  unfold cmpN
  by_cases h1 : x < y
  ·rw [if_pos h1, decide_eq_false (by omega), decide_eq_false (by omega)]
  ·by_cases h2 : y < x
   ·rw [if_neg h1, if_pos h2, decide_eq_true (by omega), decide_eq_true (by omega)]
   ·rw [if_neg h1, if_neg h2, decide_eq_true (by omega), decide_eq_true (by omega)]
 obtain ⟨q, hq⟩ : ∃ q, decide (y <= x) = q := ⟨_, rfl⟩
 rw [hz] at hc
 rw [hq] at hd ⊢
 clear hz hq
 dsimp only [fBox] at hW hV
 go_enter Tryz.func271, Tryz.ntmps271
 go_upto_region 1 with (fail)
 clear hW hV
 go_wp2_with fail
 refine (hc _).mono ?_
 rintro e w1 ⟨rfl, b1⟩
 go_wp2_with fail
 go_ret2
 exact ⟨rfl, hb.trans (b1.mono hb.size)⟩
theorem eexpr_num (G : Nat) (N dim : Int) (w : World) : Calls Tryz.prog 213 #[.pointer (some ⟨G, 0, none⟩), .agg #[.int .i64 1, .int .i64 N, .int .i64 1, .int .i64 dim, .string ⟨#[]⟩, .slice none 0 0]] w fun r w' => r = .returned (.tuple #[.agg #[.int .i64 dim, .bool false, .int .i64 N, .int .i64 1], .int .i64 0]) /\ Below w.heap.size w w' := by
 obtain ⟨W, hW, b, r⟩ := lf_new w ⟨1, N, 1, dim, ⟨#[]⟩⟩
 obtain ⟨V, hV, c, s⟩ := vl_new W 0 false 0 0
 have hb := b.trans (c.mono b.size)
 obtain ⟨f0, f1, f2, f3, f4, f5⟩ := lbox ((c.block _ (gis r).1).trans r)
 dsimp only [lBox, vlBox] at hW hV f0 f1 f2 f3 f4 f5
 go_enter Tryz.func213, Tryz.ntmps213
 go_upto_region 1 with (fail)
 clear hW hV
 go_wp2_with fail
 refine (number_val dim N 1 _).mono ?_
 rintro e w1 ⟨rfl, b1⟩
 have s2 := (b1.block _ (gis s).1).trans s
 obtain ⟨⟨g0, g1, g2, g3⟩, y0, y1, y2, y3⟩ := vlbox s2
 have hfin := four_below (g := W.heap.size) (hb.trans (b1.mono hb.size)) b.size (.int .i64 dim) (.bool false) (.int .i64 N) (.int .i64 1)
 clear f0 f1 f2 f3 f4 f5
 go_wp2_with fail
 exact bodyPost_ret (v := .tuple #[.agg #[.int .i64 dim, .bool false, .int .i64 N, .int .i64 1], .int .i64 0]) (by simp [results, Tryz.f213, go_sem, g0, g1, g2, g3]) rfl ⟨rfl, hfin⟩
theorem eexpr_ins {v : Vw} {G hi : Nat} {A : Option Addr} {n c : Nat} {w : World} (h : VwOk w hi v) (hhi : hi <= w.heap.size) (hE : w.heap[G]? = some (evBox v A n c)) : Calls Tryz.prog 213 #[.pointer (some ⟨G, 0, none⟩), .agg #[.int .i64 2, .int .i64 0, .int .i64 0, .int .i64 0, .string ⟨#[105, 110, 115, 117, 114, 101, 100]⟩, .slice none 0 0]] w fun r w' => r = .returned (.tuple #[.agg #[.int .i64 3, .bool false, .int .i64 v.d0, .int .i64 1], .int .i64 0]) /\ Below w.heap.size w w' := by
 obtain ⟨W, hW, b, r⟩ := lf_new w ⟨2, 0, 0, 0, ⟨#[105, 110, 115, 117, 114, 101, 100]⟩⟩
 obtain ⟨V, hV, c', s⟩ := vl_new W 0 false 0 0
 have hb := b.trans (c'.mono b.size)
 have hnm := ename_ins (h.below (hb.mono hhi)) (Nat.le_trans hhi hb.size) ((hb.block G (gis hE).1).trans hE)
 obtain ⟨f0, f1, f2, f3, f4, f5⟩ := lbox ((c'.block _ (gis r).1).trans r)
 dsimp only [lBox, vlBox] at hW hV f0 f1 f2 f3 f4 f5
 generalize v.d0 = N at *
 clear hE h
 go_enter Tryz.func213, Tryz.ntmps213
 go_upto_region 1 with (fail)
 clear hW hV
 go_wp2_with fail
 refine hnm.mono ?_
 rintro e w1 ⟨rfl, b1⟩
 have s2 := (b1.block _ (gis s).1).trans s
 obtain ⟨⟨g0, g1, g2, g3⟩, y0, y1, y2, y3⟩ := vlbox s2
 have hfin := four_below (g := W.heap.size) (hb.trans (b1.mono hb.size)) b.size (.int .i64 3) (.bool false) (.int .i64 N) (.int .i64 1)
 clear f0 f1 f2 f3 f4 f5 hnm
 go_wp2_with fail
 exact bodyPost_ret (v := .tuple #[.agg #[.int .i64 3, .bool false, .int .i64 N, .int .i64 1], .int .i64 0]) (by simp [results, Tryz.f213, go_sem, g0, g1, g2, g3]) rfl ⟨rfl, hfin⟩
end
section
theorem eexpr_ci {v : Vw} {D0 N : Nat} (hv0 : v.d0 = (D0 : Int)) {G hi g k : Nat} {A : Option Addr} {n c : Nat} {w : World} (h : VwOk w hi v) (hhi : hi <= w.heap.size) (hE : w.heap[G]? = some (evBox v A n c)) (hN : N < 1000000000) (hk : 2 <= k) (hR : Rz w hi g (Lf.cells ⟨2, 0, 0, 0, bs insB⟩ ++ Lf.cells ⟨1, N, 1, 3, ⟨#[]⟩⟩)) :
  Calls Tryz.prog 213 #[.pointer (some ⟨G, 0, none⟩), .agg #[.int .i64 16, .int .i64 0, .int .i64 0, .int .i64 0, .string ⟨#[]⟩, .slice (some ⟨g, 0, none⟩) 2 k]] w fun r w' => r = .returned (.tuple #[.agg #[.int .i64 1, .bool (decide (N <= D0)), .int .i64 0, .int .i64 0], .int .i64 0]) /\ Below w.heap.size w w' := by
 obtain ⟨W, hW, b, r⟩ := sx_new w ⟨16, 0, 0, 0, ⟨#[]⟩, some ⟨g, 0, none⟩, 2, k⟩
 obtain ⟨V, hV, c', s⟩ := vl_new W 0 false 0 0
 have hb := b.trans (c'.mono b.size)
 have lW := (gis r).1
 have lV := (gis s).1
 have lG := (gis hE).1
 have rV : V.heap[w.heap.size]? = some (sBox ⟨16, 0, 0, 0, ⟨#[]⟩, some ⟨g, 0, none⟩, 2, k⟩) := (c'.block _ lW).trans r
 have hD : D0 <= 73049 := by have := h.d0; unfold DayOk at this; omega
 have hbox : ∀ u, Below V.heap.size V u -> u.heap[w.heap.size]? = some (sBox ⟨16, 0, 0, 0, ⟨#[]⟩, some ⟨g, 0, none⟩, 2, k⟩) := fun u hu => (hu.block _ (Nat.lt_of_lt_of_le lW c'.size)).trans rV
 have hcel : ∀ u, Below V.heap.size V u -> Rz u hi g (Lf.cells ⟨2, 0, 0, 0, bs insB⟩ ++ Lf.cells ⟨1, N, 1, 3, ⟨#[]⟩⟩) := fun u hu => hR.below ((hb.trans (hu.mono hb.size)).mono hhi)
 have hins : Calls Tryz.prog 213 #[.pointer (some ⟨G, 0, none⟩), .agg #[.int .i64 2, .int .i64 0, .int .i64 0, .int .i64 0, .string ⟨#[105, 110, 115, 117, 114, 101, 100]⟩, .slice none 0 0]] V fun r w' => r = .returned (.tuple #[.agg #[.int .i64 3, .bool false, .int .i64 (D0 : Int), .int .i64 1], .int .i64 0]) /\ Below V.heap.size V w' := by
  have := eexpr_ins (h.below (hb.mono hhi)) (Nat.le_trans hhi hb.size) ((hb.block G lG).trans hE)
  rwa [hv0] at this
 have hcm := fun u => ecompare_ge D0 N (by omega) (by omega) u
 obtain ⟨q, hq⟩ : ∃ q, decide (N <= D0) = q := ⟨_, rfl⟩
 rw [hq] at hcm ⊢
 have hgl := hR.1
 have HB := Lib.hid hbox
 have HC := Lib.hid hcel
 obtain ⟨s0, s1, s2, s3, s4, s5⟩ := sbox rV
 obtain ⟨⟨e0, e1, e2, e3, e4, e5⟩, _⟩ := rz_two (hcel V (Below.refl _ _))
 dsimp only [sBox, vlBox] at hW hV s0 s1 s2 s3 s4 s5
 dsimp only at e0 e1 e2 e3 e4 e5
 rw [show bs insB = ⟨#[105, 110, 115, 117, 114, 101, 100]⟩ from rfl] at e4
 clear hbox hcel h hE hR rV r hv0 hq
 go_enter Tryz.func213, Tryz.ntmps213
 go_upto_region 1 with (fail)
 clear hW hV
 go_wp2_with fail
 refine hins.mono ?_
 rintro e w1 ⟨rfl, b1⟩
 clear hins e0 e1 e2 e3 e4 e5 s0 s1 s2 s3 s4 s5
 go_upto_region 18 with (fail)
 obtain ⟨w2, hw2, b2, r2⟩ := vl_new w1 3 false (D0 : Int) 1
 dsimp only [vlBox] at hw2
 rw [hw2]
 clear hw2
 have hb2 := b1.trans (b2.mono b1.size)
 have l2 := (gis r2).1
 obtain ⟨_, _, _, _, _, s5⟩ := sbox (HB.out _ hb2)
 obtain ⟨_, f0, f1, f2, f3, f4, f5⟩ := rz_two (HC.out _ hb2)
 dsimp only at s5 f0 f1 f2 f3 f4 f5
 go_wp2_with fail
 refine (eexpr_num G (N : Int) 3 _).mono ?_
 rintro e w3 ⟨rfl, b3⟩
 have hb3 := hb2.trans (b3.mono hb2.size)
 clear s5 f0 f1 f2 f3 f4 f5
 go_upto_region 21 with (fail)
 obtain ⟨w4, hw4, b4, r4⟩ := vl_new w3 3 false (N : Int) 1
 dsimp only [vlBox] at hw4
 rw [hw4]
 clear hw4
 have hb4 := hb3.trans (b4.mono hb3.size)
 have r24 := ((b3.trans (b4.mono b3.size)).block _ l2).trans r2
 obtain ⟨s0, _, _, _, _, s5⟩ := sbox (HB.out _ hb4)
 obtain ⟨⟨p0, p1, p2, p3⟩, _⟩ := vlbox r24
 obtain ⟨⟨t0, t1, t2, t3⟩, _⟩ := vlbox r4
 dsimp only at s0 s5
 go_wp2_with fail
 refine (hcm _).mono ?_
 rintro e w5 ⟨rfl, b5⟩
 have hb5 := hb4.trans (b5.mono hb4.size)
 clear s0 s5 p0 p1 p2 p3 t0 t1 t2 t3
 go_wp2_with fail
 refine (truth_val q _).mono ?_
 rintro e w6 ⟨rfl, b6⟩
 have hb6 := hb5.trans (b6.mono hb5.size)
 have s6 := (hb6.block _ lV).trans s
 obtain ⟨⟨g0, g1, g2, g3⟩, y0, y1, y2, y3⟩ := vlbox s6
 have hfin := four_below (g := W.heap.size) (hb.trans (hb6.mono hb.size)) b.size (.int .i64 1) (.bool q) (.int .i64 0) (.int .i64 0)
 go_wp2_with fail
 exact bodyPost_ret (v := .tuple #[.agg #[.int .i64 1, .bool q, .int .i64 0, .int .i64 0], .int .i64 0]) (by simp [results, Tryz.f213, go_sem, g0, g1, g2, g3]) rfl ⟨rfl, hfin⟩
end
section
theorem uses_nil (X : Sx) (w : World) : Calls Tryz.prog 212 #[X.agg, .slice none 0 0] w fun r w' => r = .returned (.slice none 0 0) /\ Below w.heap.size w w' := by
 obtain ⟨W, hW, b, r⟩ := sx_new w X
 obtain ⟨s0, s1, s2, s3, s4, s5⟩ := sbox r
 obtain ⟨xo, xn, xd, xm, xs, xA, xk, xc⟩ := X
 unfold Sx.agg
 dsimp only [sBox] at hW s0 s1 s2 s3 s4 s5
 go_enter Tryz.func212, Tryz.ntmps212
 go_upto_region 1 with (fail)
 clear hW
 go_wp2_with fail
 refine wp_loop_rounds 1 ?_
 rw [rounds_succ]
 go_wp2_with fail
 refine (Tryz.slices_Reverse_int_empty none 0 _).mono ?_
 rintro e w1 ⟨rfl, rfl⟩
 go_wp2_with fail
 go_ret
 exact ⟨rfl, b⟩
theorem info_step : (Tryz.prog.info? 341).map (fun i => (i.zero, i.size, i.bytes)) = some (some (.agg #[.string ⟨#[]⟩, .int .i64 0, .bool false, .int .i64 0, .int .i64 0]), 5, 48) := by kernel_rfl
def stCells (nm : ByteArray) (d : Int) (y : Bool) (n e : Int) : List Value := [.string nm, .int .i64 d, .bool y, .int .i64 n, .int .i64 e]
theorem st_one (nm : ByteArray) (d : Int) (y : Bool) (n e : Int) : ∀ v ∈ stCells nm d y n e, v.oneCell' = true := by
 intro v hv
 simp only [stCells, List.mem_cons, List.not_mem_nil, or_false] at hv
 rcases hv with rfl | rfl | rfl | rfl | rfl <;> rfl
theorem put_ev {G lo T sz n : Nat} {w a b : World} {v u : Value} {xs : List Value} (hGlo : G < lo) (hlo : lo <= w.heap.size) (ha : Below w.heap.size w a) (ho : a.ownsRow lo T sz v n xs) (hg : a.grownBy b v.ownBlock) :
  KV G G v.ownBlock w (b.setCell ⟨G, 13, none⟩ u) /\ b.heap[G]? = w.heap[G]? := by
 have hz := ha.size
 have h1 : Below lo w b := (ha.mono hlo).trans ((Below.refl lo a).grown hg (Nat.le_trans hlo hz) (fun g e => (ho.lt g e).1))
 exact ⟨(KV.kp (Kp.of ha)).trans ((KV.own hg).trans (KV.set b 13 u)), h1.block G hGlo⟩
theorem define_ok {v : Vw} {X : Sx} {G lo n0 c0 : Nat} {A0 : Option Addr} {xs : List Value} {dv : Value} {nm : ByteArray} {d n e : Int} {y : Bool} {w : World} (hE : w.heap[G]? = some (evBox v A0 n0 c0)) (hGlo : G < lo) (hlo : lo <= w.heap.size) (ho : w.ownsRow lo 341 5 (.slice A0 n0 c0) n0 xs) (hn : n0 <= 10)
  (hx : ∀ u, Below w.heap.size w u -> Calls Tryz.prog 213 #[.pointer (some ⟨G, 0, none⟩), X.agg] u fun r w' => r = .returned (.tuple #[.agg #[.int .i64 d, .bool y, .int .i64 n, .int .i64 e], .int .i64 0]) /\ Below u.heap.size u w') :
  Calls Tryz.prog 146 #[.pointer (some ⟨G, 0, none⟩), X.agg, .slice none 0 0, dv, .string nm] w fun r w' => r = .returned (.int .i64 0) /\ ∃ A c, w'.heap[G]? = some (evBox v A (n0 + 1) c) /\ w'.ownsRow lo 341 5 (.slice A (n0 + 1) c) (n0 + 1) (xs ++ stCells nm d y n e) /\ KV G G (Value.slice A0 n0 c0).ownBlock w w' := by
 obtain ⟨i0, hi0, hzz0, hzz1, hzz2⟩ := info_parts info_step
 obtain ⟨W, hW, b, r⟩ := sx_new w X
 have hus := fun u => uses_nil X u
 have lW := (gis r).1
 have lG := (gis hE).1
 have hbox : ∀ u, Below W.heap.size W u -> u.heap[w.heap.size]? = some (sBox X) := fun u hu => (hu.block _ lW).trans r
 have HB := Lib.hid hbox
 have HX := Lib.hid hx
 obtain ⟨s0, s1, s2, s3, s4, s5⟩ := sbox r
 clear hbox hx
 obtain ⟨xo, xn, xd, xm, xs', xA, xk, xc⟩ := X
 unfold Sx.agg at hus ⊢
 dsimp only [sBox] at hW s0 s1 s2 s3 s4 s5
 go_enter Tryz.func146, Tryz.ntmps146
 go_upto_region 1 with (fail)
 clear hW
 go_wp2_with fail
 refine (hus _).mono ?_
 rintro ee w1 ⟨rfl, b1⟩
 clear s0 s1 s2 s3 s4 s5
 obtain ⟨s0, s1, s2, s3, s4, s5⟩ := sbox (v := ⟨xo, xn, xd, xm, xs', xA, xk, xc⟩) (HB.out _ b1)
 have hb1 := b.trans (b1.mono b.size)
 have hxx := HX.out w1 hb1
 unfold Sx.agg at hxx
 dsimp only at s0 s1 s2 s3 s4 s5 hxx
 go_wp2_with fail
 refine wp_loop_rounds 1 ?_
 rw [rounds_succ]
 go_wp2_with fail
 refine hxx.mono ?_
 rintro ee w2 ⟨rfl, b2⟩
 have hb2 := hb1.trans (b2.mono hb1.size)
 clear hxx s0 s1 s2 s3 s4 s5
 go_upto_region 12 with (fail)
 obtain ⟨w3, hw3, b3, r3⟩ := vl_new w2 d y n e
 dsimp only [vlBox] at hw3
 rw [hw3]
 clear hw3
 have hb3 := hb2.trans (b3.mono hb2.size)
 have eE := (hb3.block G lG).trans hE
 have ho3 := own_underP ho hb3
 have z3 := hb3.size
 have l3 := (gis r3).1
 obtain ⟨⟨p0, p1, p2, p3⟩, _⟩ := vlbox r3
 have c13 := (evbox eE).2
 have lG3 : G < w3.heap.size := by omega
 clear r3
 generalize w2.heap.size = Q at *
 go_upto_region 14 with (fail)
 go_region_law (first
  | (refine step_append_rd (by rfl) (.tmp 75) (.tmp 79) 41 (by rfl) lo 341 i0 _ 5 48 Tryz.underlying41 hi0 hzz0 hzz1 hzz2 rfl (by omega) (.slice A0 n0 c0) n0 xs (by rfl) (by first | exact ho3.alloc _ | exact (ho3.alloc _).drew)
      (w3.heap.size + 1) (some ⟨w3.heap.size, 0, none⟩) 1 1 (stCells nm d y n e) (by rfl) (Rd.built (cs := (stCells nm d y n e).toArray) (heap_alloc_new w3 _) (by omega) rfl) (st_one _ _ _ _ _) (by unfold maxLen; omega) (by omega) (by simp; omega) ?_
     intro v6 w6 hown6 hg6 hat6
     obtain ⟨A6, c6, rfl, _, _, _⟩ := own_form hown6
     first
      | have hend := fun u => put_ev (u := u) hGlo (by omega) ((Below.refl w3.heap.size w3).alloc (Nat.le_refl _) (.cells (stCells nm d y n e).toArray 341)) (ho3.alloc _) hg6
      | have hend := fun u => put_ev (u := u) hGlo (by omega) ((Below.refl w3.heap.size w3).alloc (Nat.le_refl _) (.cells (stCells nm d y n e).toArray 341)).drew (ho3.alloc _).drew hg6
     have rV6 := (hend (.int .i64 0)).2.trans eE
     have z6 := frozen_of_row w6 G 13 _ _ rV6
     have q6 := (evbox rV6).2))
 all_goals go_wp2_with fail
 all_goals
  go_ret
  refine ⟨rfl, A6, c6, heap_setCell_same w6 G 13 _ _ (.slice A6 (n0 + 1) c6) rV6, ownsRow_setCell_ne hown6 (p := ⟨G, 13, none⟩) (fun e => by have := (hown6.lt G e).1; omega) (.slice A6 (n0 + 1) c6), (KV.kp (Kp.of hb3)).trans (hend _).1⟩
theorem last_one {v : Vw} {G g c hi : Nat} {nm : ByteArray} {d n e : Int} {y : Bool} {w : World} (hE : w.heap[G]? = some (evBox v (some ⟨g, 0, none⟩) 1 c)) (hc : 1 <= c) (hR : Rz w hi g (stCells nm d y n e)) (hhi : hi <= w.heap.size) :
  Calls Tryz.prog 147 #[.pointer (some ⟨G, 0, none⟩)] w fun r w' => r = .returned (.agg #[.int .i64 d, .bool y, .int .i64 n, .int .i64 e]) /\ Below w.heap.size w w' := by
 obtain ⟨V, hV, b, s⟩ := vl_new w 0 false 0 0
 have lG := (gis hE).1
 have c13 := (evbox ((b.block G lG).trans hE)).2
 have hR2 := hR.below (b.mono hhi)
 have e1 : V.cell? ⟨g, 1, none⟩ = some (.int .i64 d) := hR2.2 1 _ rfl
 have e2 : V.cell? ⟨g, 2, none⟩ = some (.bool y) := hR2.2 2 _ rfl
 have e3 : V.cell? ⟨g, 3, none⟩ = some (.int .i64 n) := hR2.2 3 _ rfl
 have e4 : V.cell? ⟨g, 4, none⟩ = some (.int .i64 e) := hR2.2 4 _ rfl
 obtain ⟨⟨g0, g1, g2, g3⟩, y0, y1, y2, y3⟩ := vlbox s
 have hgl := hR.1
 have hfin := (four_below (g := w.heap.size) b (Nat.le_refl _) (.int .i64 d) (.bool y) (.int .i64 n) (.int .i64 e)).drew
 clear hE hR hR2
 go_enter Tryz.func147, Tryz.ntmps147
 dsimp only [vlBox] at hV
 go_upto_region 1 with (fail)
 clear hV
 go_region
 go_wp2_with fail
 exact bodyPost_ret (v := .agg #[.int .i64 d, .bool y, .int .i64 n, .int .i64 e]) (by simp [results, Tryz.f147, go_sem, g0, g1, g2, g3]) rfl ⟨rfl, hfin⟩
theorem last_two {v : Vw} {G g c hi : Nat} {nm nm' : ByteArray} {d n e d' n' e' : Int} {y y' : Bool} {w : World} (hE : w.heap[G]? = some (evBox v (some ⟨g, 0, none⟩) 2 c)) (hc : 2 <= c) (hR : Rz w hi g (stCells nm' d' y' n' e' ++ stCells nm d y n e)) (hhi : hi <= w.heap.size) :
  Calls Tryz.prog 147 #[.pointer (some ⟨G, 0, none⟩)] w fun r w' => r = .returned (.agg #[.int .i64 d, .bool y, .int .i64 n, .int .i64 e]) /\ Below w.heap.size w w' := by
 obtain ⟨V, hV, b, s⟩ := vl_new w 0 false 0 0
 have lG := (gis hE).1
 have c13 := (evbox ((b.block G lG).trans hE)).2
 have hR2 := hR.below (b.mono hhi)
 have e1 : V.cell? ⟨g, 6, none⟩ = some (.int .i64 d) := hR2.2 6 _ rfl
 have e2 : V.cell? ⟨g, 7, none⟩ = some (.bool y) := hR2.2 7 _ rfl
 have e3 : V.cell? ⟨g, 8, none⟩ = some (.int .i64 n) := hR2.2 8 _ rfl
 have e4 : V.cell? ⟨g, 9, none⟩ = some (.int .i64 e) := hR2.2 9 _ rfl
 obtain ⟨⟨g0, g1, g2, g3⟩, y0, y1, y2, y3⟩ := vlbox s
 have hgl := hR.1
 have hfin := (four_below (g := w.heap.size) b (Nat.le_refl _) (.int .i64 d) (.bool y) (.int .i64 n) (.int .i64 e)).drew
 clear hE hR hR2
 go_enter Tryz.func147, Tryz.ntmps147
 dsimp only [vlBox] at hV
 go_upto_region 1 with (fail)
 clear hV
 go_region
 go_wp2_with fail
 exact bodyPost_ret (v := .agg #[.int .i64 d, .bool y, .int .i64 n, .int .i64 e]) (by simp [results, Tryz.f147, go_sem, g0, g1, g2, g3]) rfl ⟨rfl, hfin⟩
end
end Go.Proofs.YtnlopdmhdiegnaaGreatDoor
