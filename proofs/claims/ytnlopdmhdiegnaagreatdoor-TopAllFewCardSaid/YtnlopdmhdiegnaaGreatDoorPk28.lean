/- Lemmas (no conditions): Eva, Evb, Fra -/
import Derived.Test.YtnlopdmhdiegnaaGreatDoorPk27
set_option linter.unusedSimpArgs false
set_option linter.unusedVariables false
set_option maxRecDepth 100000
set_option maxHeartbeats 64000000
namespace Go.Proofs.YtnlopdmhdiegnaaGreatDoor
open Go.RowKit
section
theorem vy1_ok {y : Int} (h0 : 0 <= y) (h1 : y <= 1000000000000) (w : World) : Calls Tryz.prog 319 #[.int .i64 y] w fun e w' => e = .returned (.bool false) /\ w = w' := by
 have d1 : decide (y < 0) = false := decide_eq_false (by omega)
 have d2 : decide ((1000000000000 : Int) < y) = false := decide_eq_false (by omega)
 go_enter Tryz.func319, Tryz.ntmps319
 go_wp2_with fail
 go_ret
 exact ⟨rfl, rfl⟩
theorem iidx_ok {A : Option Addr} {n c B : Nat} {Y : List Int} {w : World} (h : Rd w B 1 A n (ints Y)) (hY : ∀ y ∈ Y, 0 <= y /\ y <= 1000000000000) (hn : n <= 200) : Calls Tryz.prog 346 #[.slice A n c, .func (.func 319) #[] #[]] w fun e w' => e = .returned (.int .i64 (-1)) /\ w = w' := by
 have hl := h.len1
 have HR := Lib.hid h
 have HY := Lib.hid hY
 clear h hY
 go_enter Tryz.func346, Tryz.ntmps346
 go_wp2_with fail
 go_loop [5, 8] (fun _ i => ∃ k : Nat, k <= n /\ i = .int .i64 (k : Int)) (fun _ i => n - (intOf i).toNat)
 case atStart => exact ⟨0, by omega, rfl⟩
 case round =>
  obtain ⟨k, hk, rfl⟩ := hrel
  by_cases hlt : k < n
  ·obtain ⟨y, hy⟩ : ∃ y, Y[k]? = some y := ⟨_, List.getElem?_eq_getElem (by omega)⟩
   obtain ⟨_, g, o, hA, hg, hc⟩ := HR.out.int hy
   have hyy := HY.out y (List.mem_of_getElem? hy)
   subst hA
   clear hy
   go_wp2_with fail
   refine (vy1_ok hyy.1 hyy.2 _).mono ?_
   rintro e w1 ⟨rfl, rfl⟩
   go_wp2_with fail
   go_round
   case rel => exact ⟨k + 1, by omega, by go_num⟩
   case measure => simp [intOf]; omega
  ·obtain rfl : k = n := by omega
   go_wp2_with fail
   go_ret
   exact ⟨rfl, rfl⟩
theorem icon_ok {A : Option Addr} {n c B : Nat} {Y : List Int} {w : World} (h : Rd w B 1 A n (ints Y)) (hY : ∀ y ∈ Y, 0 <= y /\ y <= 1000000000000) (hn : n <= 200) : Calls Tryz.prog 318 #[.slice A n c, .func (.func 319) #[] #[]] w fun e w' => e = .returned (.bool false) /\ w = w' := by
 have hx := iidx_ok (c := c) h hY hn
 clear h hY
 go_enter Tryz.func318, Tryz.ntmps318
 go_wp2_with fail
 refine hx.mono ?_
 rintro e w1 ⟨rfl, rfl⟩
 go_wp2_with fail
 go_ret
 exact ⟨rfl, rfl⟩
theorem validyears_ok {A : Option Addr} {n c B : Nat} {Y : List Int} {w : World} (h : Rd w B 1 A n (ints Y)) (hY : ∀ y ∈ Y, 0 <= y /\ y <= 1000000000000) (hn : n <= 200) : Calls Tryz.prog 263 #[.slice A n c] w fun e w' => e = .returned (.bool true) /\ w = w' := by
 have hx := icon_ok (c := c) h hY hn
 have d1 : decide ((n : Int) <= 200) = true := decide_eq_true (by omega)
 clear h hY
 go_enter Tryz.func263, Tryz.ntmps263
 go_wp2_with fail
 refine hx.mono ?_
 rintro e w1 ⟨rfl, rfl⟩
 go_wp2_with fail
 go_ret
 exact ⟨rfl, rfl⟩
structure Vw where
 ag : Int
 yr : Int
 ch : Int
 d0 : Int
 d1 : Int
 d2 : Int
 d3 : Int
 d4 : Int
 d5 : Int
 d6 : Int
 bn : Nat
 bd : Nat
 A : Option Addr
 n : Nat
 c : Nat
def Vw.agg (v : Vw) : Value := .agg #[.int .i64 v.ag, .int .i64 v.yr, .int .i64 v.ch, .int .i64 v.d0, .int .i64 v.d1, .int .i64 v.d2, .int .i64 v.d3, .int .i64 v.d4, .int .i64 v.d5, .int .i64 v.d6, .int .i64 (v.bn : Int), .int .i64 (v.bd : Int), .slice v.A v.n v.c]
abbrev vwBox (v : Vw) : Obj := .cells #[.int .i64 v.ag, .int .i64 v.yr, .int .i64 v.ch, .int .i64 v.d0, .int .i64 v.d1, .int .i64 v.d2, .int .i64 v.d3, .int .i64 v.d4, .int .i64 v.d5, .int .i64 v.d6, .int .i64 (v.bn : Int), .int .i64 (v.bd : Int), .slice v.A v.n v.c] 102
def DayOk (d : Int) : Prop := 0 <= d /\ d <= 73049
structure VwOk (w : World) (hi : Nat) (v : Vw) : Prop where
 ag : 0 <= v.ag /\ v.ag <= 199
 yr : 1900 <= v.yr /\ v.yr <= 2099
 ch : 0 <= v.ch /\ v.ch <= 99
 d0 : DayOk v.d0
 d1 : DayOk v.d1
 d2 : DayOk v.d2
 d3 : DayOk v.d3
 d4 : DayOk v.d4
 d5 : DayOk v.d5
 d6 : DayOk v.d6
 bs : v.bn <= 1000000000 /\ 1 <= v.bd /\ v.bd <= 1000 /\ Nat.gcd v.bn v.bd = 1
 ys : v.n <= 200 /\ ∃ Y : List Int, Rd w hi 1 v.A v.n (ints Y) /\ ∀ y ∈ Y, 0 <= y /\ y <= 1000000000000
theorem VwOk.below {w w' : World} {hi : Nat} {v : Vw} (h : VwOk w hi v) (hb : Below hi w w') : VwOk w' hi v := by
 obtain ⟨h1, Y, h2, h3⟩ := h.ys
 exact ⟨h.ag, h.yr, h.ch, h.d0, h.d1, h.d2, h.d3, h.d4, h.d5, h.d6, h.bs, h1, Y, h2.below hb, h3⟩
theorem vw_new (w : World) (v : Vw) : ∃ W, w.alloc (vwBox v) = W /\ Below w.heap.size w W /\ W.heap[w.heap.size]? = some (vwBox v) :=
 ⟨_, rfl, (Below.refl _ _).alloc (Nat.le_refl _) _, heap_alloc_new w _⟩
theorem vwbox {W : World} {g : Nat} {v : Vw} (hr : W.heap[g]? = some (vwBox v)) : (W.cell? ⟨g, 0, none⟩ = some (.int .i64 v.ag) /\ W.cell? ⟨g, 1, none⟩ = some (.int .i64 v.yr) /\ W.cell? ⟨g, 2, none⟩ = some (.int .i64 v.ch)) ∧
  (W.cell? ⟨g, 3, none⟩ = some (.int .i64 v.d0) /\ W.cell? ⟨g, 4, none⟩ = some (.int .i64 v.d1) /\ W.cell? ⟨g, 5, none⟩ = some (.int .i64 v.d2) /\ W.cell? ⟨g, 6, none⟩ = some (.int .i64 v.d3) /\ W.cell? ⟨g, 7, none⟩ = some (.int .i64 v.d4) /\ W.cell? ⟨g, 8, none⟩ = some (.int .i64 v.d5) /\ W.cell? ⟨g, 9, none⟩ = some (.int .i64 v.d6)) ∧
  (W.cell? ⟨g, 10, none⟩ = some (.int .i64 (v.bn : Int)) /\ W.cell? ⟨g, 11, none⟩ = some (.int .i64 (v.bd : Int)) /\ W.cell? ⟨g, 12, none⟩ = some (.slice v.A v.n v.c)) := by
 refine ⟨⟨?_, ?_, ?_⟩, ⟨?_, ?_, ?_, ?_, ?_, ?_, ?_⟩, ?_, ?_, ?_⟩ <;> rw [cell_of_row _ _ _ _ _ _ hr] <;> rfl
theorem arr7_law (a0 a1 a2 a3 a4 a5 a6 : Int) (u : World) : (Instr.index 384 (.agg #[.int .i64 a0, .int .i64 a1, .int .i64 a2, .int .i64 a3, .int .i64 a4, .int .i64 a5, .int .i64 a6]) (.int .i64 0)).run Tryz.prog u = .ok (.int .i64 a0) u ∧
  (Instr.index 384 (.agg #[.int .i64 a0, .int .i64 a1, .int .i64 a2, .int .i64 a3, .int .i64 a4, .int .i64 a5, .int .i64 a6]) (.int .i64 1)).run Tryz.prog u = .ok (.int .i64 a1) u ∧
  (Instr.index 384 (.agg #[.int .i64 a0, .int .i64 a1, .int .i64 a2, .int .i64 a3, .int .i64 a4, .int .i64 a5, .int .i64 a6]) (.int .i64 2)).run Tryz.prog u = .ok (.int .i64 a2) u ∧
  (Instr.index 384 (.agg #[.int .i64 a0, .int .i64 a1, .int .i64 a2, .int .i64 a3, .int .i64 a4, .int .i64 a5, .int .i64 a6]) (.int .i64 3)).run Tryz.prog u = .ok (.int .i64 a3) u ∧
  (Instr.index 384 (.agg #[.int .i64 a0, .int .i64 a1, .int .i64 a2, .int .i64 a3, .int .i64 a4, .int .i64 a5, .int .i64 a6]) (.int .i64 4)).run Tryz.prog u = .ok (.int .i64 a4) u ∧
  (Instr.index 384 (.agg #[.int .i64 a0, .int .i64 a1, .int .i64 a2, .int .i64 a3, .int .i64 a4, .int .i64 a5, .int .i64 a6]) (.int .i64 5)).run Tryz.prog u = .ok (.int .i64 a5) u ∧
  (Instr.index 384 (.agg #[.int .i64 a0, .int .i64 a1, .int .i64 a2, .int .i64 a3, .int .i64 a4, .int .i64 a5, .int .i64 a6]) (.int .i64 6)).run Tryz.prog u = .ok (.int .i64 a6) u := by
 refine ⟨?_, ?_, ?_, ?_, ?_, ?_, ?_⟩ <;> (unfold Instr.index; simp [run_underlying Tryz.underlying384, asIntOf, part, go_sem])
theorem dayok_dec {d : Int} (h : DayOk d) : decide (d < 0) = false /\ decide ((73049 : Int) < d) = false := by
 obtain ⟨h1, h2⟩ := h
 exact ⟨decide_eq_false (by omega), decide_eq_false (by omega)⟩
theorem validview_ok {v : Vw} {hi : Nat} {w : World} (h : VwOk w hi v) (hhi : hi <= w.heap.size) : Calls Tryz.prog 211 #[v.agg] w fun e w' => e = .returned (.bool true) /\ Below w.heap.size w w' := by
 obtain ⟨W, hW, b, r⟩ := vw_new w v
 obtain ⟨hn, Y, hY, hY2⟩ := (h.below (b.mono hhi)).ys
 have hvy := validyears_ok (c := v.c) hY hY2 hn
 obtain ⟨b1, b2, b3, b4⟩ := h.bs
 have hvf := fun u => validP_ok v.bn v.bd (by omega) b2 (by omega) b4 u
 have q1 : decide (v.ag < 0) = false := decide_eq_false (by have := h.ag; omega)
 have q2 : decide ((199 : Int) < v.ag) = false := decide_eq_false (by have := h.ag; omega)
 have q3 : decide (v.yr < 1900) = false := decide_eq_false (by have := h.yr; omega)
 have q4 : decide ((2099 : Int) < v.yr) = false := decide_eq_false (by have := h.yr; omega)
 have q5 : decide (v.ch < 0) = false := decide_eq_false (by have := h.ch; omega)
 have q6 : decide ((99 : Int) < v.ch) = false := decide_eq_false (by have := h.ch; omega)
 obtain ⟨p0, p1⟩ := dayok_dec h.d0
 obtain ⟨p2, p3⟩ := dayok_dec h.d1
 obtain ⟨p4, p5⟩ := dayok_dec h.d2
 obtain ⟨p6, p7⟩ := dayok_dec h.d3
 obtain ⟨p8, p9⟩ := dayok_dec h.d4
 obtain ⟨pa, pb⟩ := dayok_dec h.d5
 obtain ⟨pc, pd⟩ := dayok_dec h.d6
 have hdiv : (v.bn : Int).tdiv (v.bd : Int) = ((v.bn / v.bd : Nat) : Int) := by rw [Int.tdiv_eq_ediv_of_nonneg (by omega)]; exact (Int.natCast_ediv _ _).symm
 have hle : v.bn / v.bd <= v.bn := Nat.div_le_self _ _
 have q7 : decide (0 <= (v.bn : Int)) = true := decide_eq_true (by omega)
 have q8 : decide (((v.bn / v.bd : Nat) : Int) <= 1000000000000) = true := decide_eq_true (by omega)
 have q9 : decide (((v.bn / v.bd : Nat) : Int) < 1000000000000) = true := decide_eq_true (by omega)
 have hrow : ∀ u, Below W.heap.size W u -> u.heap[w.heap.size]? = some (vwBox v) := fun u hu => (hu.block _ (gis r).1).trans r
 have HW := Lib.hid hrow
 obtain ⟨⟨f0, f1, f2⟩, ⟨f3, f4, f5, f6, f7, f8, f9⟩, f10, f11, f12⟩ := vwbox r
 clear hY hY2 h hrow b3 b4
 obtain ⟨ag, yr, ch, d0, d1, d2, d3, d4, d5, d6, bn, bd, A, n, c⟩ := v
 unfold Vw.agg
 dsimp only [vwBox] at *
 obtain ⟨z, hz⟩ : ∃ z, bn / bd = z := ⟨_, rfl⟩
 rw [hz] at hdiv hle q8 q9
 clear hz
 go_enter Tryz.func211, Tryz.ntmps211
 go_upto_region 1 with (fail)
 clear hW
 go_wp2_with fail
 refine hvy.mono ?_
 rintro e w1 ⟨rfl, rfl⟩
 have a0 := fun u => (arr7_law d0 d1 d2 d3 d4 d5 d6 u).1
 have a1 := fun u => (arr7_law d0 d1 d2 d3 d4 d5 d6 u).2.1
 have a2 := fun u => (arr7_law d0 d1 d2 d3 d4 d5 d6 u).2.2.1
 have a3 := fun u => (arr7_law d0 d1 d2 d3 d4 d5 d6 u).2.2.2.1
 have a4 := fun u => (arr7_law d0 d1 d2 d3 d4 d5 d6 u).2.2.2.2.1
 have a5 := fun u => (arr7_law d0 d1 d2 d3 d4 d5 d6 u).2.2.2.2.2.1
 have a6 := fun u => (arr7_law d0 d1 d2 d3 d4 d5 d6 u).2.2.2.2.2.2
 go_wp2_with fail
 refine wp_loop_rounds 8 ?_
 iterate 7
  rw [rounds_succ]
  go_wp2_with fail
 rw [rounds_succ]
 clear a0 a1 a2 a3 a4 a5 a6
 go_wp2_with fail
 refine (hvf _).mono ?_
 rintro e w2 ⟨rfl, b2'⟩
 clear f0 f1 f2 f3 f4 f5 f6 f7 f8 f9 f10 f11 f12
 obtain ⟨⟨f0, f1, f2⟩, ⟨f3, f4, f5, f6, f7, f8, f9⟩, f10, f11, f12⟩ := vwbox (v := ⟨ag, yr, ch, d0, d1, d2, d3, d4, d5, d6, bn, bd, A, n, c⟩) (HW.out _ b2')
 dsimp only at f10 f11
 go_wp2_with fail
 go_ret
 exact ⟨rfl, b.trans (b2'.mono b.size)⟩
end
section
abbrev vlBox (d : Int) (y : Bool) (n e : Int) : Obj := .cells #[.int .i64 d, .bool y, .int .i64 n, .int .i64 e] 263
theorem vl_new (w : World) (d : Int) (y : Bool) (n e : Int) : ∃ W, w.alloc (vlBox d y n e) = W /\ Below w.heap.size w W /\ W.heap[w.heap.size]? = some (vlBox d y n e) :=
 ⟨_, rfl, (Below.refl _ _).alloc (Nat.le_refl _) _, heap_alloc_new w _⟩
theorem vlbox {W : World} {g : Nat} {d : Int} {y : Bool} {n e : Int} (hr : W.heap[g]? = some (vlBox d y n e)) : (W.cell? ⟨g, 0, none⟩ = some (.int .i64 d) /\ W.cell? ⟨g, 1, none⟩ = some (.bool y) /\ W.cell? ⟨g, 2, none⟩ = some (.int .i64 n) /\ W.cell? ⟨g, 3, none⟩ = some (.int .i64 e)) ∧
  (W.frozen? ⟨g, 0, none⟩ = false /\ W.frozen? ⟨g, 1, none⟩ = false /\ W.frozen? ⟨g, 2, none⟩ = false /\ W.frozen? ⟨g, 3, none⟩ = false) := by
 refine ⟨⟨?_, ?_, ?_, ?_⟩, frozen_of_row W g 0 _ _ hr, frozen_of_row W g 1 _ _ hr, frozen_of_row W g 2 _ _ hr, frozen_of_row W g 3 _ _ hr⟩ <;> rw [cell_of_row _ _ _ _ _ _ hr] <;> rfl
abbrev four (b : World) (g : Nat) (v0 v1 v2 v3 : Value) : World := (((b.setCell ⟨g, 0, none⟩ v0).setCell ⟨g, 1, none⟩ v1).setCell ⟨g, 2, none⟩ v2).setCell ⟨g, 3, none⟩ v3
theorem four_below {n g : Nat} {a b : World} (h : Below n a b) (hg : n <= g) (v0 v1 v2 v3 : Value) : Below n a (four b g v0 v1 v2 v3) :=
 (((h.setCell (p := ⟨g, 0, none⟩) hg _).setCell (p := ⟨g, 1, none⟩) hg _).setCell (p := ⟨g, 2, none⟩) hg _).setCell (p := ⟨g, 3, none⟩) hg _
theorem four_vl {w : World} {g : Nat} {d : Int} {y : Bool} {n e : Int} (h : w.heap[g]? = some (vlBox d y n e)) (d' : Int) (y' : Bool) (n' e' : Int) : (four w g (.int .i64 d') (.bool y') (.int .i64 n') (.int .i64 e')).heap[g]? = some (vlBox d' y' n' e') :=
 heap_setCell_same _ g 3 _ _ _ (heap_setCell_same _ g 2 _ _ _ (heap_setCell_same _ g 1 _ _ _ (heap_setCell_same w g 0 _ _ _ h)))
theorem number_val (dim n e : Int) (w : World) : Calls Tryz.prog 266 #[.int .i64 dim, .agg #[.int .i64 n, .int .i64 e]] w fun r w' => r = .returned (.agg #[.int .i64 dim, .bool false, .int .i64 n, .int .i64 e]) /\ Below w.heap.size w w' := by
 obtain ⟨W, hW, b, r⟩ := fr_new w n e
 obtain ⟨V, hV, c, s⟩ := vl_new W 0 false 0 0
 have r2 := (c.block _ (gis r).1).trans r
 obtain ⟨f0, f1⟩ := fbox r2
 obtain ⟨⟨g0, g1, g2, g3⟩, y0, y1, y2, y3⟩ := vlbox s
 have hb := b.trans (c.mono b.size)
 have hfin := four_below (g := W.heap.size) hb b.size (.int .i64 dim) (.bool false) (.int .i64 n) (.int .i64 e)
 dsimp only [fBox, vlBox] at hW hV
 go_enter Tryz.func266, Tryz.ntmps266
 go_upto_region 1 with (fail)
 clear hW hV
 go_wp2_with fail
 exact bodyPost_ret (v := .agg #[.int .i64 dim, .bool false, .int .i64 n, .int .i64 e]) (by simp [results, Tryz.f266, go_sem, g0, g1, g2, g3]) rfl ⟨rfl, hfin⟩
theorem truth_val (y : Bool) (w : World) : Calls Tryz.prog 272 #[.bool y] w fun r w' => r = .returned (.agg #[.int .i64 1, .bool y, .int .i64 0, .int .i64 0]) /\ Below w.heap.size w w' := by
 obtain ⟨V, hV, c, s⟩ := vl_new w 0 false 0 0
 obtain ⟨⟨g0, g1, g2, g3⟩, y0, y1, y2, y3⟩ := vlbox s
 have hfin := four_below (g := w.heap.size) c (Nat.le_refl _) (.int .i64 1) (.bool y) (.int .i64 0) (.int .i64 0)
 have hfin2 := (Below.refl w.heap.size w).alloc (Nat.le_refl _) (vlBox 1 y 0 0)
 go_enter Tryz.func272, Tryz.ntmps272
 go_upto_region 1 with (fail)
 go_wp2_with fail
 exact bodyPost_ret (v := .agg #[.int .i64 1, .bool y, .int .i64 0, .int .i64 0]) (by simp [results, Tryz.f272, go_sem, g0, g1, g2, g3]) rfl ⟨rfl, by first | exact hfin2 | exact hfin⟩
theorem vinput_ins {v : Vw} {hi : Nat} {w : World} (h : VwOk w hi v) (hhi : hi <= w.heap.size) : Calls Tryz.prog 321 #[v.agg, .string ⟨#[105, 110, 115, 117, 114, 101, 100]⟩] w fun r w' => r = .returned (.tuple #[.agg #[.int .i64 3, .bool false, .int .i64 v.d0, .int .i64 1], .bool true]) /\ Below w.heap.size w w' := by
 obtain ⟨W, hW, b, r⟩ := vw_new w v
 obtain ⟨V, hV, c, s⟩ := vl_new W 0 false 0 0
 have hb := b.trans (c.mono b.size)
 have hvv := validview_ok (h.below (hb.mono hhi)) (Nat.le_trans hhi hb.size)
 have lW := (gis r).1
 have hrow : ∀ u, Below V.heap.size V u -> u.heap[w.heap.size]? = some (vwBox v) := fun u hu => (hu.block _ (Nat.lt_of_lt_of_le lW c.size)).trans ((c.block _ lW).trans r)
 have HW := Lib.hid hrow
 obtain ⟨⟨f0, f1, f2⟩, ⟨f3, f4, f5, f6, f7, f8, f9⟩, f10, f11, f12⟩ := vwbox (hrow V (Below.refl _ _))
 clear hrow h
 obtain ⟨ag, yr, ch, d0, d1, d2, d3, d4, d5, d6, bn, bd, A, n, cc⟩ := v
 unfold Vw.agg at hvv ⊢
 dsimp only [vwBox, vlBox] at hW hV f0 f1 f2 f3 f4 f5 f6 f7 f8 f9 f10 f11 f12 hvv
 go_enter Tryz.func321, Tryz.ntmps321
 go_upto_region 1 with (fail)
 clear hW hV
 go_wp2_with fail
 refine (input_ins _).mono ?_
 rintro e w1 ⟨rfl, rfl⟩
 go_wp2_with fail
 refine hvv.mono ?_
 rintro e w1 ⟨rfl, b1⟩
 clear f0 f1 f2 f3 f4 f5 f6 f7 f8 f9 f10 f11 f12
 obtain ⟨_, ⟨f3, _⟩, _⟩ := vwbox (HW.out _ b1)
 dsimp only at f3
 go_wp2_with fail
 refine (number_val 3 d0 1 _).mono ?_
 rintro e w2 ⟨rfl, b2⟩
 have hb2 := b1.trans (b2.mono b1.size)
 have s2 := (hb2.block _ (gis s).1).trans s
 obtain ⟨⟨g0, g1, g2, g3⟩, y0, y1, y2, y3⟩ := vlbox s2
 have hfin := four_below (g := W.heap.size) (hb.trans (hb2.mono hb.size)) b.size (.int .i64 3) (.bool false) (.int .i64 d0) (.int .i64 1)
 clear f3
 go_wp2_with fail
 exact bodyPost_ret (v := .tuple #[.agg #[.int .i64 3, .bool false, .int .i64 d0, .int .i64 1], .bool true]) (by simp [results, Tryz.f321, go_sem, g0, g1, g2, g3]) rfl ⟨rfl, hfin⟩
end
section
theorem sizeF_nn (n : Int) (h0 : 0 <= n) (h1 : n <= 9000000000000000000) (w : World) : Calls Tryz.prog 17 #[.int .i64 n] w fun e w' => e = .returned (.int .u64 n) /\ w' = w := by
 go_enter Tryz.func17, Tryz.ntmps17
 go_wp2_with fail
 go_ret
 exact ⟨rfl, rfl⟩
theorem gcdF_one (n : Nat) (hn : n <= 9000000000000000000) (w : World) : Calls Tryz.prog 22 #[.int .u64 (n : Int), .int .u64 1] w fun e w' => e = .returned (.int .u64 1) /\ ∃ q, w' = w.drewN q := by
 have d1 : (n : Int).tmod 1 = 0 := Int.tmod_one _
 have d2 : (n : Int) % 1 = 0 := Int.emod_one _
 go_enter Tryz.func22, Tryz.ntmps22
 go_wp2_with fail
 refine wp_loop_rounds 2 ?_
 rw [rounds_succ]
 go_wp2_with fail
 go_quiet (fail)
 go_wp2_with fail
 rw [rounds_succ]
 go_wp2_with fail
 go_ret
 exact ⟨rfl, _, rfl⟩
theorem validF_ok (x : Nat) (hx : x <= 1000000000000000) (w : World) :
  Calls Tryz.prog 15 #[.agg #[.int .i64 (x : Int), .int .i64 1]] w fun e w' => e = .returned (.bool true) /\ Below w.heap.size w w' := by
 have t3 : decide (-1000000000000000 <= (x : Int)) = true := decide_eq_true (by omega)
 have t4 : decide ((x : Int) <= 1000000000000000) = true := decide_eq_true (by omega)
 have hs1 := fun u => sizeF_nn (x : Int) (by omega) (by omega) u
 have hg1 := fun u => gcdF_one x (by omega) u
 go_enter Tryz.func15, Tryz.ntmps15
 go_upto_region 1 with (fail)
 go_quiet (first
  | (go_at_call 17; exact Calls.quiet_of_same (hs1 _))
  | (go_at_call 22; exact Calls.quiet_of (hg1 _)))
 go_wp2_with fail
 go_ret
 exact ⟨rfl, box_drewN _ _⟩
def DgI (n k : Nat) (D : By) : Prop := (dgl n = dgl k ++ D /\ (0 < k ∨ D = [])) ∨ (k = 0 /\ D = dgl n)
theorem ten_ext : ∀ r : Nat, r < 10 -> (ByteArray.mk #[48, 49, 50, 51, 52, 53, 54, 55, 56, 57]).extract r (r + 1) = bs [UInt8.ofNat (48 + r)]
 | 0, _ => rfl
 | 1, _ => rfl
 | 2, _ => rfl
 | 3, _ => rfl
 | 4, _ => rfl
 | 5, _ => rfl
 | 6, _ => rfl
 | 7, _ => rfl
 | 8, _ => rfl
 | 9, _ => rfl
 | n + 10, h => by omega
theorem dgi_step {n k : Nat} {D : By} (h : DgI n k D) (hk : 0 < k ∨ D = []) : DgI n (k / 10) (UInt8.ofNat (48 + k % 10) :: D) := by
 rcases h with ⟨h1, _⟩ | ⟨rfl, rfl⟩
 ·by_cases h10 : k < 10
  ·refine .inr ⟨by omega, ?_⟩
   rw [h1, dgl_lt h10, Nat.mod_eq_of_lt h10]
   rfl
  ·refine .inl ⟨?_, .inl (by omega)⟩
   rw [h1, dgl_ge h10, List.append_assoc]
   rfl
 ·rcases hk with h | h
  ·omega
  ·have := dgl_pos n
   rw [h] at this
   simp at this
theorem dgi_len {n k : Nat} {D : By} (h : DgI n k D) (hn : n < 1000000000) : D.length <= 9 := by
 have h9 := dgl_len 8 n hn
 rcases h with ⟨h1, _⟩ | ⟨_, rfl⟩
 ·rw [h1, List.length_append] at h9
  omega
 ·exact h9
theorem digitsF_ok (n : Nat) (hn : n < 1000000000) (w : World) : Calls Tryz.prog 16 #[.int .i64 (n : Int), .int .i64 1] w fun e w' => e = .returned (.string (bs (dgl n))) /\ w = w' := by
 obtain ⟨T, hT⟩ : ∃ T, T = bs (dgl n) := ⟨_, rfl⟩
 rw [<- hT]
 have HT := Lib.hid hT
 clear hT
 go_enter Tryz.func16, Tryz.ntmps16
 go_wp2_with fail
 go_loop [0, 5] (fun i v => ∃ (k : Nat) (D : By) (s : ByteArray), k <= n /\ i = .int .i64 (k : Int) /\ v = .string s /\ s.size = D.length /\ Hid (s = bs D /\ DgI n k D)) (fun i v => match v with | .string s => 2 * (intOf i).toNat + (1 - s.size) | _ => 0)
 case atStart => exact ⟨n, [], ⟨#[]⟩, by omega, rfl, rfl, rfl, Lib.hid ⟨rfl, .inl ⟨by simp, .inr rfl⟩⟩⟩
 case round =>
  obtain ⟨k, D, s, hk, rfl, rfl, hs, hI⟩ := hrel
  have h9 := dgi_len hI.out.2 hn
  have m0 : k % 10 < 10 := Nat.mod_lt _ (by omega)
  have m1 : k / 10 <= k := Nat.div_le_self _ _
  have m2 : (k : Int).tmod 10 = ((k % 10 : Nat) : Int) := by rw [Int.tmod_eq_emod_of_nonneg (by omega)]; omega
  have m3 : (k : Int).tdiv 10 = ((k / 10 : Nat) : Int) := by rw [Int.tdiv_eq_ediv_of_nonneg (by omega)]; omega
  have hx : (ByteArray.mk #[48, 49, 50, 51, 52, 53, 54, 55, 56, 57]).extract (k % 10) (k % 10 + 1) ++ s = bs (UInt8.ofNat (48 + k % 10) :: D) := by
   rw [ten_ext _ m0, hI.out.1]; exact bs_append _ D
  have HX := Lib.hid hx
  clear hx
  by_cases h0 : 0 < k
  ·have d0 : decide (0 < (k : Int)) = true := decide_eq_true (by omega)
   have m4 : k / 10 < k := Nat.div_lt_self h0 (by omega)
   go_wp2_with fail
   go_round
   case rel => exact ⟨k / 10, UInt8.ofNat (48 + k % 10) :: D, _, by omega, by go_num, rfl, by rw [HX.out, bs_size], Lib.hid ⟨HX.out, dgi_step hI.out.2 (.inl h0)⟩⟩
   case measure =>
    rw [HX.out]
    simp [intOf, bs_size]
    omega
  ·obtain rfl : k = 0 := by omega
   rcases hI.out.2 with ⟨h1, h2 | h2⟩ | ⟨_, h2⟩
   ·omega
   ·have hs0 : s.size = 0 := by rw [hs, h2]; rfl
    go_wp2_with fail
    go_round
    case rel => exact ⟨0 / 10, UInt8.ofNat (48 + 0 % 10) :: D, _, by omega, by go_num, rfl, by rw [HX.out, bs_size], Lib.hid ⟨HX.out, dgi_step hI.out.2 (.inr h2)⟩⟩
    case measure =>
     rw [HX.out]
     simp [intOf, bs_size, hs0]
   ·have hs1 : 1 <= s.size := by rw [hs, h2]; exact dgl_pos n
    have hs2 : decide ((s.size : Int) < 1) = false := decide_eq_false (by omega)
    have hs3 : ¬ s.size = 0 := by omega
    have H2 := Lib.hid h2
    clear m1 m2 m3 m0 hs h2 h9
    go_wp2_with fail
    go_ret
    have e : s = T := by rw [HT.out, hI.out.1, H2.out]
    exact ⟨congrArg (fun x => Ending.returned (.string x)) e, rfl⟩
theorem format_ok (n : Nat) (hn : n < 1000000000) (w : World) : Calls Tryz.prog 11 #[.agg #[.int .i64 (n : Int), .int .i64 1]] w fun e w' => e = .returned (.string (bs (dgl n))) /\ Below w.heap.size w w' := by
 obtain ⟨W, hW, b, r⟩ := box_new w (.cells #[.int .i64 (n : Int), .int .i64 1] 49)
 have f0 : W.cell? ⟨w.heap.size, 0, none⟩ = some (.int .i64 (n : Int)) := by rw [cell_of_row _ _ _ _ _ _ r]; rfl
 have f1 : W.cell? ⟨w.heap.size, 1, none⟩ = some (.int .i64 1) := by rw [cell_of_row _ _ _ _ _ _ r]; rfl
 have q1 : decide ((n : Int) < 0) = false := decide_eq_false (by omega)
 have hd := fun u => digitsF_ok n hn u
 have hs := fun u => sizeF_nn (n : Int) (by omega) (by omega) u
 generalize bs (dgl n) = D at *
 go_enter Tryz.func11, Tryz.ntmps11
 go_upto_region 1 with (fail)
 clear hW
 go_wp2_with fail
 refine (validF_ok n (by omega) _).mono ?_
 rintro e w1 ⟨rfl, b1⟩
 have hb1 := b.trans (b1.mono b.size)
 have r1 := (b1.block _ (gis r).1).trans r
 clear f0 f1
 have f0 : w1.cell? ⟨w.heap.size, 0, none⟩ = some (.int .i64 (n : Int)) := by rw [cell_of_row _ _ _ _ _ _ r1]; rfl
 have f1 : w1.cell? ⟨w.heap.size, 1, none⟩ = some (.int .i64 1) := by rw [cell_of_row _ _ _ _ _ _ r1]; rfl
 go_wp2_with fail
 refine (hs _).mono ?_
 rintro e w2 ⟨rfl, rfl⟩
 go_wp2_with fail
 refine (hd _).mono ?_
 rintro e w2 ⟨rfl, rfl⟩
 go_wp2_with fail
 go_ret
 exact ⟨rfl, hb1⟩
theorem tdigits_ok (n : Nat) (hn : n < 1000000000) (w : World) : Calls Tryz.prog 6 #[.int .i64 (n : Int)] w fun e w' => e = .returned (.string (bs (dgl n))) /\ Below w.heap.size w w' := by
 have hd := fun u => format_ok n hn u
 generalize bs (dgl n) = D at *
 go_enter Tryz.func6, Tryz.ntmps6
 go_wp2_with fail
 refine (hd _).mono ?_
 rintro e w1 ⟨rfl, b1⟩
 go_wp2_with fail
 go_ret
 exact ⟨rfl, b1⟩
end
end Go.Proofs.YtnlopdmhdiegnaaGreatDoor
