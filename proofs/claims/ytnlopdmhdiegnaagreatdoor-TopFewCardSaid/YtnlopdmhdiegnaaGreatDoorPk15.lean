/- Lemmas (no conditions): Prh, Pri, Prj, Prk -/
import Derived.Deep.RegionWith
import Derived.Test.YtnlopdmhdiegnaaGreatDoorPk14
set_option linter.unusedSimpArgs false
set_option linter.unusedVariables false
set_option maxRecDepth 100000
set_option maxHeartbeats 64000000
namespace Go.Proofs.YtnlopdmhdiegnaaGreatDoor
open Go.RowKit
section
structure Sx where
 o : Int
 n : Int
 d : Int
 m : Int
 s : ByteArray
 A : Option Addr
 k : Nat
 c : Nat
def Sx.agg (x : Sx) : Value := .agg #[.int .i64 x.o, .int .i64 x.n, .int .i64 x.d, .int .i64 x.m, .string x.s, .slice x.A x.k x.c]
abbrev sBox (x : Sx) : Obj := .cells #[.int .i64 x.o, .int .i64 x.n, .int .i64 x.d, .int .i64 x.m, .string x.s, .slice x.A x.k x.c] 144
inductive Tr where
 | leaf (v : Lf)
 | cmp (u v : Lf)
def TrX (t : Tr) (X : Sx) (lo : Nat) (w : World) : Prop :=
 match t with
 | .leaf v => X = ⟨v.o, v.n, v.d, v.m, v.s, none, 0, 0⟩
 | .cmp u v => ∃ g, X = ⟨16, 0, 0, 0, ⟨#[]⟩, some ⟨g, 0, none⟩, 2, 2⟩ /\ lo <= g /\ w.heap[g]? = some (.cells (u.cells ++ v.cells).toArray 144 (0, 0))
theorem TrX.mono {t : Tr} {X : Sx} {lo lo' : Nat} {w : World} (h : TrX t X lo w) (hl : lo' <= lo) : TrX t X lo' w := by
 cases t with
 | leaf v => exact h
 | cmp u v =>
  obtain ⟨g, h1, h2, h3⟩ := h
  exact ⟨g, h1, by omega, h3⟩
theorem TrX.keep {t : Tr} {X : Sx} {lo : Nat} {w w' : World} (h : TrX t X lo w) (hk : ∀ i, lo <= i -> i < w.heap.size -> w'.heap[i]? = w.heap[i]?) : TrX t X lo w' := by
 cases t with
 | leaf v => exact h
 | cmp u v =>
  obtain ⟨g, h1, h2, h3⟩ := h
  exact ⟨g, h1, h2, (hk g h2 (gis h3).1).trans h3⟩
def RetT (R : Nat) (L : List Tk) (t : Tr) (w : World) (e : Ending) (w' : World) : Prop := ∃ X : Sx, e = .returned X.agg /\ Prs w' R L /\ Kp R w w' /\ TrX t X w.heap.size w'
theorem six_old {g : Nat} (b : World) (v0 v1 v2 v3 v4 v5 : Value) (i : Nat) (hi : i ≠ g) : ((((((b.setCell ⟨g, 0, none⟩ v0).setCell ⟨g, 1, none⟩ v1).setCell ⟨g, 2, none⟩ v2).setCell ⟨g, 3, none⟩ v3).setCell ⟨g, 4, none⟩ v4).setCell ⟨g, 5, none⟩ v5).heap[i]? = b.heap[i]? := by
 rw [Below.heap_setCell _ _ _ _ hi, Below.heap_setCell _ _ _ _ hi, Below.heap_setCell _ _ _ _ hi, Below.heap_setCell _ _ _ _ hi, Below.heap_setCell _ _ _ _ hi, Below.heap_setCell _ _ _ _ hi]
theorem ret_box {R : Nat} {L : List Tk} {t : Tr} {X : Sx} {w W w1 : World} (hbel : Below w.heap.size w W) (hlt : R < w.heap.size) (hWlt : w.heap.size < W.heap.size) (hP : Prs w1 R L) (hk : Kp R W w1) (hT : TrX t X W.heap.size w1) :
  RetT R L t w (.returned X.agg) ((((((w1.setCell ⟨w.heap.size, 0, none⟩ (.int .i64 X.o)).setCell ⟨w.heap.size, 1, none⟩ (.int .i64 X.n)).setCell ⟨w.heap.size, 2, none⟩ (.int .i64 X.d)).setCell ⟨w.heap.size, 3, none⟩ (.int .i64 X.m)).setCell ⟨w.heap.size, 4, none⟩ (.string X.s)).setCell ⟨w.heap.size, 5, none⟩ (.slice X.A X.k X.c)) := by
 have hz := hk.size
 refine ⟨X, rfl, hP.low (six_below (Below.refl (R + 1) w1) (by omega) _ _ _ _ _ _), ((Kp.of hbel).trans hk).low (six_below (Below.refl w.heap.size w1) (Nat.le_refl _) _ _ _ _ _ _), ?_⟩
 exact (hT.keep (fun i hi _ => six_old w1 _ _ _ _ _ _ i (by omega))).mono (by omega)
theorem not_thru {R : Nat} {x : Tk} {L K : List Tk} {t : Tr} {w : World} (h : Prs w R (x :: L)) (hno : NoB x [[110, 111, 116]]) (hrel : ∀ u, Prs u R (x :: L) -> Calls Tryz.prog 334 #[.pointer (some ⟨R, 0, none⟩)] u (RetT R K t u)) :
  Calls Tryz.prog 277 #[.pointer (some ⟨R, 0, none⟩)] w (RetT R K t w) := by
 have n1 := hno [110, 111, 116] (by decide)
 have hlt := h.lt
 have hbel := (Below.refl w.heap.size w).alloc (Nat.le_refl _) eBox
 have hr := heap_alloc_new w eBox
 go_enter Tryz.func277, Tryz.ntmps277
 go_wp2_with fail
 obtain ⟨W, hW⟩ : ∃ W, w.alloc eBox = W := ⟨_, rfl⟩
 rw [hW] at hbel hr ⊢
 clear hW
 have hWlt := (gis hr).1
 refine (accept_no (h.to hbel) n1).mono ?_
 rintro e w1 ⟨rfl, b1⟩
 have hbel1 := hbel.trans (b1.mono hbel.size)
 have hr1 := (b1.block w.heap.size hWlt).trans hr
 have hWlt1 := (gis hr1).1
 go_wp2_with fail
 refine (hrel w1 (h.to hbel1)).mono ?_
 rintro e w2 ⟨X, rfl, hP2, k2, hT⟩
 have s2 := (k2.block w.heap.size hWlt1 (fun e => by injection e with e; omega)).trans hr1
 obtain ⟨⟨f0, f1, f2, f3, f4, f5⟩, y0, y1, y2, y3, y4, y5⟩ := ebox s2
 have hend := ret_box hbel1 hlt hWlt1 hP2 k2 hT
 obtain ⟨xo, xn, xd, xm, xs, xA, xk, xc⟩ := X
 unfold Sx.agg at hend ⊢
 clear s2 hr1 hr hrel hT
 go_wp2_with fail
 exact bodyPost_ret (v := Sx.agg ⟨xo, xn, xd, xm, xs, xA, xk, xc⟩) (by simp [results, Tryz.f277, go_sem, f0, f1, f2, f3, f4, f5, Sx.agg]) rfl hend
theorem expr_thru {R : Nat} {x : Tk} {L K : List Tk} {t : Tr} {w : World} (h : Prs w R (x :: L)) (hno : NoB x [[105, 102]]) (hrel : ∀ u, Prs u R (x :: L) -> Calls Tryz.prog 159 #[.pointer (some ⟨R, 0, none⟩)] u (RetT R K t u)) :
  Calls Tryz.prog 100 #[.pointer (some ⟨R, 0, none⟩)] w (RetT R K t w) := by
 have n1 := hno [105, 102] (by decide)
 have hlt := h.lt
 have hbel := (Below.refl w.heap.size w).alloc (Nat.le_refl _) eBox
 have hr := heap_alloc_new w eBox
 go_enter Tryz.func100, Tryz.ntmps100
 go_wp2_with fail
 obtain ⟨W, hW⟩ : ∃ W, w.alloc eBox = W := ⟨_, rfl⟩
 rw [hW] at hbel hr ⊢
 clear hW
 have hWlt := (gis hr).1
 refine (accept_no (h.to hbel) n1).mono ?_
 rintro e w1 ⟨rfl, b1⟩
 have hbel1 := hbel.trans (b1.mono hbel.size)
 have hr1 := (b1.block w.heap.size hWlt).trans hr
 have hWlt1 := (gis hr1).1
 go_wp2_with fail
 refine (hrel w1 (h.to hbel1)).mono ?_
 rintro e w2 ⟨X, rfl, hP2, k2, hT⟩
 have s2 := (k2.block w.heap.size hWlt1 (fun e => by injection e with e; omega)).trans hr1
 obtain ⟨⟨f0, f1, f2, f3, f4, f5⟩, y0, y1, y2, y3, y4, y5⟩ := ebox s2
 have hend := ret_box hbel1 hlt hWlt1 hP2 k2 hT
 obtain ⟨xo, xn, xd, xm, xs, xA, xk, xc⟩ := X
 unfold Sx.agg at hend ⊢
 clear s2 hr1 hr hrel hT
 go_wp2_with fail
 exact bodyPost_ret (v := Sx.agg ⟨xo, xn, xd, xm, xs, xA, xk, xc⟩) (by simp [results, Tryz.f100, go_sem, f0, f1, f2, f3, f4, f5, Sx.agg]) rfl hend
theorem sbox {W : World} {g : Nat} {v : Sx} (hr : W.heap[g]? = some (sBox v)) : W.cell? ⟨g, 0, none⟩ = some (.int .i64 v.o) /\ W.cell? ⟨g, 1, none⟩ = some (.int .i64 v.n) /\ W.cell? ⟨g, 2, none⟩ = some (.int .i64 v.d) /\ W.cell? ⟨g, 3, none⟩ = some (.int .i64 v.m) /\ W.cell? ⟨g, 4, none⟩ = some (.string v.s) /\ W.cell? ⟨g, 5, none⟩ = some (.slice v.A v.k v.c) := by
 refine ⟨?_, ?_, ?_, ?_, ?_, ?_⟩ <;> rw [cell_of_row _ _ _ _ _ _ hr] <;> rfl
theorem and_thru {R : Nat} {y : Tk} {L K : List Tk} {t : Tr} {w : World} (h : Prs w R L) (hno : NoB y [[97, 110, 100]]) (hrel : ∀ u, Prs u R L -> Calls Tryz.prog 277 #[.pointer (some ⟨R, 0, none⟩)] u (RetT R (y :: K) t u)) :
  Calls Tryz.prog 218 #[.pointer (some ⟨R, 0, none⟩)] w (RetT R (y :: K) t w) := by
 have n1 := hno [97, 110, 100] (by decide)
 have hlt := h.lt
 have hbel := (Below.refl w.heap.size w).alloc (Nat.le_refl _) eBox
 have hr := heap_alloc_new w eBox
 go_enter Tryz.func218, Tryz.ntmps218
 go_wp2_with fail
 obtain ⟨W, hW⟩ : ∃ W, w.alloc eBox = W := ⟨_, rfl⟩
 rw [hW] at hbel hr ⊢
 clear hW
 have hWlt := (gis hr).1
 refine (hrel W (h.to hbel)).mono ?_
 rintro e w1 ⟨X, rfl, hP1, k1, hT⟩
 clear hrel
 obtain ⟨xo, xn, xd, xm, xs, xA, xk, xc⟩ := X
 unfold Sx.agg
 obtain ⟨w2, hw2, b2, r2⟩ := box_new w1 (sBox ⟨xo, xn, xd, xm, xs, xA, xk, xc⟩)
 dsimp only [sBox] at hw2
 go_upto_block 0 with (fail)
 clear hw2
 go_wp2_with fail
 refine wp_loop_rounds 1 ?_
 rw [rounds_succ]
 go_wp2_with fail
 refine (accept_no (hP1.to b2) n1).mono ?_
 rintro e w3 ⟨rfl, b3⟩
 have z1 := k1.size
 have c3 := b2.trans (b3.mono b2.size)
 have r3 := (b3.block w1.heap.size (gis r2).1).trans r2
 obtain ⟨g0, g1, g2, g3, g4, g5⟩ := sbox r3
 have s3 := (c3.block w.heap.size (by omega)).trans ((k1.block w.heap.size hWlt (fun e => by injection e with e; omega)).trans hr)
 obtain ⟨⟨f0, f1, f2, f3, f4, f5⟩, y0, y1, y2, y3, y4, y5⟩ := ebox s3
 dsimp only at g0 g1 g2 g3 g4 g5
 have hend := ret_box hbel hlt hWlt (hP1.to c3) (k1.trans (Kp.of c3)) (hT.keep (fun i _ hi => c3.block i hi))
 clear r3 s3 r2 hT b2 b3
 go_wp2_with fail
 exact bodyPost_ret (v := Sx.agg ⟨xo, xn, xd, xm, xs, xA, xk, xc⟩) (by simp [results, Tryz.f218, go_sem, f0, f1, f2, f3, f4, f5, Sx.agg]) rfl hend
theorem or_thru {R : Nat} {y : Tk} {L K : List Tk} {t : Tr} {w : World} (h : Prs w R L) (hno : NoB y [[111, 114]]) (hrel : ∀ u, Prs u R L -> Calls Tryz.prog 218 #[.pointer (some ⟨R, 0, none⟩)] u (RetT R (y :: K) t u)) :
  Calls Tryz.prog 159 #[.pointer (some ⟨R, 0, none⟩)] w (RetT R (y :: K) t w) := by
 have n1 := hno [111, 114] (by decide)
 have hlt := h.lt
 have hbel := (Below.refl w.heap.size w).alloc (Nat.le_refl _) eBox
 have hr := heap_alloc_new w eBox
 go_enter Tryz.func159, Tryz.ntmps159
 go_wp2_with fail
 obtain ⟨W, hW⟩ : ∃ W, w.alloc eBox = W := ⟨_, rfl⟩
 rw [hW] at hbel hr ⊢
 clear hW
 have hWlt := (gis hr).1
 refine (hrel W (h.to hbel)).mono ?_
 rintro e w1 ⟨X, rfl, hP1, k1, hT⟩
 clear hrel
 obtain ⟨xo, xn, xd, xm, xs, xA, xk, xc⟩ := X
 unfold Sx.agg
 obtain ⟨w2, hw2, b2, r2⟩ := box_new w1 (sBox ⟨xo, xn, xd, xm, xs, xA, xk, xc⟩)
 dsimp only [sBox] at hw2
 go_upto_block 0 with (fail)
 clear hw2
 go_wp2_with fail
 refine wp_loop_rounds 1 ?_
 rw [rounds_succ]
 go_wp2_with fail
 refine (accept_no (hP1.to b2) n1).mono ?_
 rintro e w3 ⟨rfl, b3⟩
 have z1 := k1.size
 have c3 := b2.trans (b3.mono b2.size)
 have r3 := (b3.block w1.heap.size (gis r2).1).trans r2
 obtain ⟨g0, g1, g2, g3, g4, g5⟩ := sbox r3
 have s3 := (c3.block w.heap.size (by omega)).trans ((k1.block w.heap.size hWlt (fun e => by injection e with e; omega)).trans hr)
 obtain ⟨⟨f0, f1, f2, f3, f4, f5⟩, y0, y1, y2, y3, y4, y5⟩ := ebox s3
 dsimp only at g0 g1 g2 g3 g4 g5
 have hend := ret_box hbel hlt hWlt (hP1.to c3) (k1.trans (Kp.of c3)) (hT.keep (fun i _ hi => c3.block i hi))
 clear r3 s3 r2 hT b2 b3
 go_wp2_with fail
 exact bodyPost_ret (v := Sx.agg ⟨xo, xn, xd, xm, xs, xA, xk, xc⟩) (by simp [results, Tryz.f159, go_sem, f0, f1, f2, f3, f4, f5, Sx.agg]) rfl hend
end
section
structure GeTk (y : Tk) : Prop where
 yes : isB y ⟨#[62, 61]⟩ = true
 no : NoB y [[60], [60, 61], [61], [60, 62], [62], [42], [47], [43], [45]]
abbrev six (b : World) (g : Nat) (v0 v1 v2 v3 v4 v5 : Value) : World := (((((b.setCell ⟨g, 0, none⟩ v0).setCell ⟨g, 1, none⟩ v1).setCell ⟨g, 2, none⟩ v2).setCell ⟨g, 3, none⟩ v3).setCell ⟨g, 4, none⟩ v4).setCell ⟨g, 5, none⟩ v5
theorem six_row {W : World} {g : Nat} {t : TypeId} {a0 a1 a2 a3 a4 a5 : Value} (hr : W.heap[g]? = some (.cells #[a0, a1, a2, a3, a4, a5] t (0, 0))) (v0 v1 v2 v3 v4 v5 : Value) : (six W g v0 v1 v2 v3 v4 v5).heap[g]? = some (.cells #[v0, v1, v2, v3, v4, v5] t (0, 0)) := by
 have h0 := heap_setCell_same W g 0 _ _ v0 hr
 have h1 := heap_setCell_same _ g 1 _ _ v1 h0
 have h2 := heap_setCell_same _ g 2 _ _ v2 h1
 have h3 := heap_setCell_same _ g 3 _ _ v3 h2
 have h4 := heap_setCell_same _ g 4 _ _ v4 h3
 have h5 := heap_setCell_same _ g 5 _ _ v5 h4
 exact h5
theorem six_size (b : World) (g : Nat) (v0 v1 v2 v3 v4 v5 : Value) : (six b g v0 v1 v2 v3 v4 v5).heap.size = b.heap.size := by simp [six]
def CmpDone (R : Nat) (K : List Tk) (w w1 : World) (u v : Lf) (wx : World) : Prop :=
 ∃ g, Prs wx R K /\ Kp R w1 wx /\ w1.heap.size < g /\ wx.heap[g]? = some (.cells (u.cells ++ v.cells).toArray 144 (0, 0)) /\ wx.heap[w1.heap.size]? = some (sBox ⟨16, 0, 0, 0, ⟨#[]⟩, some ⟨g, 0, none⟩, 2, 2⟩) /\ wx.heap[w.heap.size]? = some eBox
theorem cmp_done {R : Nat} {K : List Tk} {w w1 w5 : World} {u v : Lf} (hR : R < w.heap.size) (hw : w.heap.size < w1.heap.size) (hP : Prs w5 R K) (hk : Kp R w1 w5) (hr : w5.heap[w1.heap.size]? = some (lBox u)) (hs : w5.heap[w.heap.size]? = some eBox) :
  CmpDone R K w w1 u v ((six w5 w1.heap.size (.int .i64 16) (.int .i64 0) (.int .i64 0) (.int .i64 0) (.string ⟨#[]⟩) (.slice (some ⟨w5.heap.size, 0, none⟩) 2 2)).alloc (.cells (u.cells ++ v.cells).toArray 144)) := by
 have h5 := (gis hr).1
 have hsix := six_size w5 w1.heap.size (.int .i64 16) (.int .i64 0) (.int .i64 0) (.int .i64 0) (.string ⟨#[]⟩) (.slice (some ⟨w5.heap.size, 0, none⟩) 2 2)
 have hrow := six_row hr (.int .i64 16) (.int .i64 0) (.int .i64 0) (.int .i64 0) (.string ⟨#[]⟩) (.slice (some ⟨w5.heap.size, 0, none⟩) 2 2)
 have hold := fun i hi => six_old (g := w1.heap.size) w5 (.int .i64 16) (.int .i64 0) (.int .i64 0) (.int .i64 0) (.string ⟨#[]⟩) (.slice (some ⟨w5.heap.size, 0, none⟩) 2 2) i hi
 have hbl : ∀ n, n <= w1.heap.size -> Below n w5 (six w5 w1.heap.size (.int .i64 16) (.int .i64 0) (.int .i64 0) (.int .i64 0) (.string ⟨#[]⟩) (.slice (some ⟨w5.heap.size, 0, none⟩) 2 2)) := fun n hn => six_below (Below.refl n w5) hn _ _ _ _ _ _
 generalize hS : six w5 w1.heap.size (.int .i64 16) (.int .i64 0) (.int .i64 0) (.int .i64 0) (.string ⟨#[]⟩) (.slice (some ⟨w5.heap.size, 0, none⟩) 2 2) = S at *
 have hal := Go.MapKept.heap_alloc S (.cells (u.cells ++ v.cells).toArray 144)
 have hb1 := (hbl (R + 1) (by omega)).alloc (o := .cells (u.cells ++ v.cells).toArray 144) (by omega)
 have hb2 := (hbl w1.heap.size (Nat.le_refl _)).alloc (o := .cells (u.cells ++ v.cells).toArray 144) (by omega)
 refine ⟨w5.heap.size, hP.low hb1, hk.low hb2, by omega, ?_, ?_, ?_⟩
 ·rw [<- hsix]
  exact hal.1
 ·rw [hal.2 _ (by omega), hrow]
 ·rw [hal.2 _ (by omega)]
  have := hold w.heap.size (by omega)
  rw [show S.heap[w.heap.size]? = w5.heap[w.heap.size]? from by rw [<- hS]; exact this]
  exact hs
theorem rel_cmp {R : Nat} {x y z q : Tk} {L : List Tk} {w : World} (h : Prs w R (x :: y :: z :: q :: L)) {u v : Lf} (hx : LeafTk x u) (hz : LeafTk z v) (hnx : NoB x fw) (hnz : NoB z fw) (hy : GeTk y) (hq1 : NoB q [[42], [47]]) (hq2 : NoB q [[43], [45]]) :
  Calls Tryz.prog 334 #[.pointer (some ⟨R, 0, none⟩)] w (RetT R (q :: L) (.cmp u v) w) := by
 have hy1 : NoB y [[42], [47]] := fun t ht => hy.no t (by revert ht; simp; rintro (rfl | rfl) <;> simp)
 have hy2 : NoB y [[43], [45]] := fun t ht => hy.no t (by revert ht; simp; rintro (rfl | rfl) <;> simp)
 have hlt := h.lt
 have hbel := (Below.refl w.heap.size w).alloc (Nat.le_refl _) eBox
 have hr := heap_alloc_new w eBox
 go_enter Tryz.func334, Tryz.ntmps334
 go_wp2_with fail
 obtain ⟨W, hW⟩ : ∃ W, w.alloc eBox = W := ⟨_, rfl⟩
 rw [hW] at hbel hr ⊢
 clear hW
 have hWlt := (gis hr).1
 refine (sum_leaf (h.to hbel) hx hnx hy1 hy2).mono ?_
 rintro e w1 ⟨rfl, hP1, k1⟩
 clear hx hnx hy1 hy2
 obtain ⟨uo, un, ud, um, us⟩ := u
 unfold Lf.agg
 go_upto_region 2 with (fail)
 obtain ⟨w2, hw2, b2, r2⟩ := box_new w1 (lBox ⟨uo, un, ud, um, us⟩)
 dsimp only [lBox] at hw2
 rw [hw2]
 clear hw2
 go_wp2_with fail
 obtain ⟨w3, hw3, b3, hT⟩ := tab_rel w2
 rw [hw3]
 clear hw3
 have c3 := b2.trans (b3.mono b2.size)
 refine (binary_yes (hP1.to c3) (B := w3.heap.size) (T := rwT) (j := 5) (z := ⟨⟨#[62, 61]⟩, 16⟩) (Nat.le_refl _) hT (by decide) rfl hy.yes (fun i e hi he => ?_)).mono ?_
 ·match i, hi with
  | 0, _ => obtain rfl := Option.some.inj he; exact hy.no [60] (by decide)
  | 1, _ => obtain rfl := Option.some.inj he; exact hy.no [60, 61] (by decide)
  | 2, _ => obtain rfl := Option.some.inj he; exact hy.no [61] (by decide)
  | 3, _ => obtain rfl := Option.some.inj he; exact hy.no [60, 62] (by decide)
  | 4, _ => obtain rfl := Option.some.inj he; exact hy.no [62] (by decide)
 rintro e w4 ⟨rfl, hP4, k4⟩
 have z1 := k1.size
 have zR := hP1.lt
 have r3 := (b3.block w1.heap.size (gis r2).1).trans r2
 have l3 := (gis r3).1
 have r4 := (k4.block w1.heap.size l3 (fun e => by injection e with e; omega)).trans r3
 have z3 := c3.size
 have z4 := k4.size
 have s4 := (k4.block w.heap.size (by omega) (fun e => by injection e with e; omega)).trans ((c3.block w.heap.size (by omega)).trans ((k1.block w.heap.size hWlt (fun e => by injection e with e; omega)).trans hr))
 obtain ⟨g0, g1, g2, g3, g4, g5⟩ := lbox r4
 dsimp only at g0 g1 g2 g3 g4 g5
 clear hT r2 r3 hy b3 b2
 go_upto_region 4 with (fail)
 go_cut [] from 21 to 26 (fun wx => CmpDone R (q :: L) w w1 ⟨uo, un, ud, um, us⟩ v wx)
 case first =>
  obtain ⟨vo, vn, vd, vm, vs⟩ := v
  have hP4d : Prs w4.drew R (z :: q :: L) := hP4.to (Below.refl _ _).drew
  go_region_with (first
   | (go_at_call 358; refine (sum_leaf hP4d hz hnz hq1 hq2).mono ?_; rintro e w5 ⟨rfl, hP5, k5⟩; dsimp only [Lf.agg]
      have r5 := (k5.block w1.heap.size (by exact (gis r4).1) (fun e => by injection e with e; omega)).trans r4
      obtain ⟨k0, k1', k2, k3, k4', k5'⟩ := lbox r5
      have z0 := frozen_of_row w5 w1.heap.size 0 _ _ r5
      have z1 := frozen_of_row w5 w1.heap.size 1 _ _ r5
      have z2 := frozen_of_row w5 w1.heap.size 2 _ _ r5
      have z3 := frozen_of_row w5 w1.heap.size 3 _ _ r5
      have z4 := frozen_of_row w5 w1.heap.size 4 _ _ r5
      have z5 := frozen_of_row w5 w1.heap.size 5 _ _ r5
      have hE5 : w1.heap.size < w5.heap.size := (gis r5).1))
  all_goals
   go_wp2_with fail
   go_meet
   have k15 : Kp R w1 w5 := (Kp.of c3).trans ((grownBy_trans k4 (Kp.of (Below.refl _ _).drew)).trans k5)
   have s5 := (k5.block w.heap.size (by show _ < w4.heap.size; omega) (fun e => by injection e with e; omega)).trans s4
   exact cmp_done hlt (by omega) hP5 k15 r5 s5
 case rest =>
  obtain ⟨g, hPx, hkx, hg, hrow, hbox, hres⟩ := hcut
  obtain ⟨p0, p1, p2, p3, p4, p5⟩ := sbox hbox
  obtain ⟨⟨f0, f1, f2, f3, f4, f5⟩, y0, y1, y2, y3, y4, y5⟩ := ebox hres
  dsimp only at p0 p1 p2 p3 p4 p5
  have hend := ret_box (X := ⟨16, 0, 0, 0, ⟨#[]⟩, some ⟨g, 0, none⟩, 2, 2⟩) (t := .cmp ⟨uo, un, ud, um, us⟩ v) hbel hlt hWlt hPx (k1.trans hkx) ⟨g, rfl, by omega, hrow⟩
  clear hrow hbox hres
  go_wp2_with fail
  exact bodyPost_ret (v := Sx.agg ⟨16, 0, 0, 0, ⟨#[]⟩, some ⟨g, 0, none⟩, 2, 2⟩) (by simp [results, Tryz.f334, go_sem, f0, f1, f2, f3, f4, f5, Sx.agg]) rfl hend
end
section
theorem rel_leafT {R : Nat} {x y : Tk} {L : List Tk} {w : World} (h : Prs w R (x :: y :: L)) {v : Lf} (hx : LeafTk x v) (hno : NoB x fw) (hy : NoB y [[42], [47]]) (hs : NoB y [[43], [45]]) (hr2 : NoB y rw) : Calls Tryz.prog 334 #[.pointer (some ⟨R, 0, none⟩)] w (RetT R (y :: L) (.leaf v) w) := by
 refine (rel_leaf h hx hno hy hs hr2).mono ?_
 rintro e w' ⟨h1, h2, h3⟩
 exact ⟨⟨v.o, v.n, v.d, v.m, v.s, none, 0, 0⟩, h1, h2, h3, rfl⟩
structure EndTk (y : Tk) : Prop where
 no : NoB y [[42], [47], [43], [45], [60], [60, 61], [61], [60, 62], [62], [62, 61], [97, 110, 100], [111, 114]]
theorem NoB.sub {y : Tk} {l m : List By} (h : NoB y m) (hs : l ⊆ m) : NoB y l := fun t ht => h t (hs ht)
theorem expr_leaf {R : Nat} {x y : Tk} {L : List Tk} {w : World} (h : Prs w R (x :: y :: L)) {v : Lf} (hx : LeafTk x v) (hno : NoB x fw) (hn2 : NoB x [[110, 111, 116]]) (hn3 : NoB x [[105, 102]]) (hy : EndTk y) : Calls Tryz.prog 100 #[.pointer (some ⟨R, 0, none⟩)] w (RetT R (y :: L) (.leaf v) w) :=
 expr_thru h hn3 fun _ h => or_thru h (hy.no.sub (by decide)) fun _ h => and_thru h (hy.no.sub (by decide)) fun _ h => not_thru h hn2 fun _ h => rel_leafT h hx hno (hy.no.sub (by decide)) (hy.no.sub (by decide)) (hy.no.sub (by decide))
theorem expr_cmp {R : Nat} {x y z q : Tk} {L : List Tk} {w : World} (h : Prs w R (x :: y :: z :: q :: L)) {u v : Lf} (hx : LeafTk x u) (hz : LeafTk z v) (hnx : NoB x fw) (hnz : NoB z fw) (hn2 : NoB x [[110, 111, 116]]) (hn3 : NoB x [[105, 102]]) (hy : GeTk y) (hq : EndTk q) : Calls Tryz.prog 100 #[.pointer (some ⟨R, 0, none⟩)] w (RetT R (q :: L) (.cmp u v) w) :=
 expr_thru h hn3 fun _ h => or_thru h (hq.no.sub (by decide)) fun _ h => and_thru h (hq.no.sub (by decide)) fun _ h => not_thru h hn2 fun _ h => rel_cmp h hx hz hnx hnz hy (hq.no.sub (by decide)) (hq.no.sub (by decide))
end
section
theorem pce_pos {r t : By} {kd : Int} (h : Pce r t kd) : 1 <= t.length := by
 cases h with
 | word => simp
 | @num k dim hk hd h3 =>
  have := dgl_pos k
  rw [List.length_append]
  omega
 | date => simp
 | sign hj ht =>
  subst ht
  rcases hj with rfl | rfl | rfl | rfl <;> decide
theorem lxl_len {q : By} {ts : List (Int × By)} (h : LxL q ts) : ts.length <= q.length := by
 induction h with
 | nil h => simp
 | cons h hp hr ih =>
  have := pce_pos hp
  simp only [List.length_cons, List.length_append]
  omega
theorem start_ok {q : By} {ts : List (Int × By)} (h : LxL q ts) (hq : q.length <= 8000) (w : World) (hw : Ml w) :
  Calls Tryz.prog 23 #[.string (bs q)] w fun e w' => ∃ (R : Nat) (L : List Tk), Toks L ts /\ e = .returned (.tuple #[.pointer (some ⟨R, 0, none⟩), .int .i64 0, .int .i64 0]) /\ w.heap.size <= R /\ Prs w' R L /\ Below w.heap.size w w' := by
 have hall := all_text h hq w hw
 have hsz := bs_size q
 go_enter Tryz.func23, Tryz.ntmps23
 go_wp2_with fail
 refine hall.mono ?_
 rintro e w1 ⟨A, c, L, hT, rfl, hown, hb⟩
 have hz := hb.size
 have hlen : L.length <= 8000 := by
  have h1 := congrArg List.length hT
  rw [List.length_map, List.length_map] at h1
  have := lxl_len h
  omega
 obtain ⟨A2, c2, e2, hc1, hc2, _⟩ := own_form hown
 injection e2 with e2 _ e3
 subst e2 e3
 have hrd := Rd.ofOwn hown
 have hml := hw.kp hb
 have hb2 := hb.alloc hb.size (.cells #[.slice A L.length c, .int .i64 (q.length : Int), .bool false, .int .i64 0] 122)
 have hr := heap_alloc_new w1 (.cells #[.slice A L.length c, .int .i64 (q.length : Int), .bool false, .int .i64 0] 122)
 have hbz := (Below.refl w1.heap.size w1).alloc (Nat.le_refl _) (.cells #[.slice A L.length c, .int .i64 (q.length : Int), .bool false, .int .i64 0] 122)
 have h3 := hw.1
 have hP : Prs (w1.alloc (.cells #[.slice A L.length c, .int .i64 (q.length : Int), .bool false, .int .i64 0] 122)) w1.heap.size L :=
  ⟨⟨A, c, _, _, hc1, by unfold maxLen at hc2; exact hc2, hr, hrd.below hbz⟩, hlen, hml.kp hbz, by omega⟩
 clear hr hrd hown hall
 go_wp2_with fail
 exact bodyPost_ret (v := .tuple #[.pointer (some ⟨w1.heap.size, 0, none⟩), .int .i64 0, .int .i64 0]) (by simp [results, Tryz.f23, go_sem]) rfl ⟨w1.heap.size, L, hT, rfl, hz, hP, hb2⟩
theorem finish_ok {R : Nat} {w : World} (h : Prs w R []) : Calls Tryz.prog 29 #[.pointer (some ⟨R, 0, none⟩)] w fun e w' => ∃ p : Int, e = .returned (.tuple #[.int .i64 p, .bool true]) /\ Below w.heap.size w w' := by
 obtain ⟨B, c, z, p, h1, h2, h3, h4⟩ := h.ex
 have c0 : w.cell? ⟨R, 0, none⟩ = some (.slice B 0 c) := by rw [cell_of_row _ _ _ _ _ _ h3]; rfl
 have c2 : w.cell? ⟨R, 2, none⟩ = some (.bool false) := by rw [cell_of_row _ _ _ _ _ _ h3]; rfl
 have c3 : w.cell? ⟨R, 3, none⟩ = some (.int .i64 p) := by rw [cell_of_row _ _ _ _ _ _ h3]; rfl
 clear h4 h3
 go_enter Tryz.func29, Tryz.ntmps29
 go_upto_region 3 with (fail)
 go_quiet (fail)
 go_wp2_with fail
 go_ret2
 exact ⟨p, rfl, below_to_drewN (Below.refl _ _) _⟩
end
end Go.Proofs.YtnlopdmhdiegnaaGreatDoor
