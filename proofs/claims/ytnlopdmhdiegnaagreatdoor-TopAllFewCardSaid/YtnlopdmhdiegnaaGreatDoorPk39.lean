/- Lemmas (no conditions): Clc -/
import Derived.Test.YtnlopdmhdiegnaaGreatDoorPk38
import Derived.Test.YtnlopdmhdiegnaaGreatDoorSx
set_option linter.unusedSimpArgs false
set_option linter.unusedVariables false
set_option maxRecDepth 100000
set_option maxHeartbeats 64000000
namespace Go.Proofs.YtnlopdmhdiegnaaGreatDoor
open Go.RowKit
section
structure VerO (w : World) (lo hi : Nat) (cr : Bool) (a b py : Lf) (x : Vs) : Prop where
 cr : CrX cr x.cA x.cn x.cc lo hi w
 gr : ∃ g gx kx, x.gA = some ⟨g, 0, none⟩ /\ 1 <= x.gc /\ lo <= g /\ lo <= gx /\ 2 <= kx /\ Rz w hi g (grCells ⟨16, 0, 0, 0, ⟨#[]⟩, some ⟨gx, 0, none⟩, 2, kx⟩ py) /\ Rz w hi gx (a.cells ++ b.cells)
theorem VerO.rd {w : World} {lo hi : Nat} {cr : Bool} {a b py : Lf} {x : Vs} (h : VerO w lo hi cr a b py x) : VerR w hi ⟨cr, .cmp a b, py⟩ x := by
 obtain ⟨g, gx, kx, h1, h2, _, _, h5, h6, h7⟩ := h.gr
 refine ⟨?_, g, _, h1, h2, h6, gx, kx, rfl, h5, h7⟩
 rcases h.cr with ⟨h1, b', h2, h3, h4, _, h5⟩ | h1
 ·exact .inl ⟨h1, b', h2, h3, h4, h5⟩
 ·exact .inr h1
theorem VerO.kp {w w' : World} {lo hi P : Nat} {cr : Bool} {a b py : Lf} {x : Vs} (h : VerO w lo hi cr a b py x) (hk : Kp P w w') (hP : P < lo) (hh : hi <= w.heap.size) : VerO w' lo w'.heap.size cr a b py x := by
 obtain ⟨g, gx, kx, h1, h2, h3, h4, h5, h6, h7⟩ := h.gr
 refine ⟨?_, g, gx, kx, h1, h2, h3, h4, h5, h6.kp hk (by omega) hh, h7.kp hk (by omega) hh⟩
 rcases h.cr with ⟨h1, b', h8, h9, h3, h4, h5⟩ | h1
 ·exact .inl ⟨h1, b', h8, h9, h3, h4, h5.kp hk (by omega) hh⟩
 ·exact .inr h1
abbrev vzBox : Obj := .cells #[.int .i64 0, .int .i64 0, .int .i64 0, .slice none 0 0, .slice none 0 0, .slice none 0 0, .slice none 0 0, .slice none 0 0] 87
theorem vz_new (w : World) : ∃ W, w.alloc vzBox = W /\ Below w.heap.size w W /\ W.heap[w.heap.size]? = some vzBox :=
 ⟨_, rfl, (bRf).alloc (lRf) _, hAn w _⟩
theorem verfrz {W : World} {g : Nat} {x : Vs} (hr : W.heap[g]? = some (verBox x)) : W.frozen? ⟨g, 3, none⟩ = false /\ W.frozen? ⟨g, 4, none⟩ = false /\ W.frozen? ⟨g, 5, none⟩ = false /\ W.frozen? ⟨g, 6, none⟩ = false /\ W.frozen? ⟨g, 7, none⟩ = false :=
 ⟨fZr 3 hr, fZr 4 hr, fZr 5 hr, fZr 6 hr, fZr 7 hr⟩
theorem vzbox {W : World} {g : Nat} (hr : W.heap[g]? = some vzBox) : (W.cell? ⟨g, 0, none⟩ = some (.int .i64 0) /\ W.cell? ⟨g, 1, none⟩ = some (.int .i64 0) /\ W.cell? ⟨g, 2, none⟩ = some (.int .i64 0) /\ W.cell? ⟨g, 3, none⟩ = some (.slice none 0 0) /\ W.cell? ⟨g, 4, none⟩ = some (.slice none 0 0) /\ W.cell? ⟨g, 5, none⟩ = some (.slice none 0 0) /\ W.cell? ⟨g, 6, none⟩ = some (.slice none 0 0) /\ W.cell? ⟨g, 7, none⟩ = some (.slice none 0 0)) ∧
  (W.frozen? ⟨g, 0, none⟩ = false /\ W.frozen? ⟨g, 1, none⟩ = false /\ W.frozen? ⟨g, 2, none⟩ = false /\ W.frozen? ⟨g, 3, none⟩ = false /\ W.frozen? ⟨g, 4, none⟩ = false /\ W.frozen? ⟨g, 5, none⟩ = false /\ W.frozen? ⟨g, 6, none⟩ = false /\ W.frozen? ⟨g, 7, none⟩ = false) := by
 refine ⟨⟨?_, ?_, ?_, ?_, ?_, ?_, ?_, ?_⟩, fZr 0 hr, fZr 1 hr, fZr 2 hr, fZr 3 hr, fZr 4 hr, fZr 5 hr, fZr 6 hr, fZr 7 hr⟩ <;> rw [cOr hr] <;> rfl
theorem CrX.to {cr : Bool} {A : Option Addr} {n c lo lo' hi P : Nat} {w w' : World} (h : CrX cr A n c lo hi w) (hk : Kp P w w') (hP : P < lo) (hh : hi <= w.heap.size) (hl : lo' <= lo) : CrX cr A n c lo' w'.heap.size w' := by
 rcases h with ⟨h1, b, rfl, rfl, h3, h4, h5⟩ | h1
 ·exact .inl ⟨h1, b, rfl, rfl, h3, lTr hl h4, h5.kp hk (by omega) hh⟩
 ·exact .inr h1
theorem eight_below {n g : Nat} {a b : World} (h : Below n a b) (hg : n <= g) (v0 v1 v2 v3 v4 v5 v6 v7 : Value) : Below n a ((((((((b.setCell ⟨g, 0, none⟩ v0).setCell ⟨g, 1, none⟩ v1).setCell ⟨g, 2, none⟩ v2).setCell ⟨g, 3, none⟩ v3).setCell ⟨g, 4, none⟩ v4).setCell ⟨g, 5, none⟩ v5).setCell ⟨g, 6, none⟩ v6).setCell ⟨g, 7, none⟩ v7) :=
 (((((((h.setCell (p := ⟨g, 0, none⟩) hg _).setCell (p := ⟨g, 1, none⟩) hg _).setCell (p := ⟨g, 2, none⟩) hg _).setCell (p := ⟨g, 3, none⟩) hg _).setCell (p := ⟨g, 4, none⟩) hg _).setCell (p := ⟨g, 5, none⟩) hg _).setCell (p := ⟨g, 6, none⟩) hg _).setCell (p := ⟨g, 7, none⟩) hg _
theorem gr_set_if {w : World} {lo g c : Nat} {X : Sx} {v : Lf} (ho : w.ownsRow lo 146 13 (.slice (some ⟨g, 0, none⟩) 1 c) 1 (grCells X v)) (Y : Sx) :
  ((((((w.setCell ⟨g, 1, none⟩ (.int .i64 Y.o)).setCell ⟨g, 2, none⟩ (.int .i64 Y.n)).setCell ⟨g, 3, none⟩ (.int .i64 Y.d)).setCell ⟨g, 4, none⟩ (.int .i64 Y.m)).setCell ⟨g, 5, none⟩ (.string Y.s)).setCell ⟨g, 6, none⟩ (.slice Y.A Y.k Y.c)).ownsRow lo 146 13 (.slice (some ⟨g, 0, none⟩) 1 c) 1 (grCells Y v) :=
 ((((((ho.stored 1 (.int .i64 Y.o)).1.stored 2 (.int .i64 Y.n)).1.stored 3 (.int .i64 Y.d)).1.stored 4 (.int .i64 Y.m)).1.stored 5 (.string Y.s)).1.stored 6 (.slice Y.A Y.k Y.c)).1
theorem gr_set_pay {w : World} {lo g c : Nat} {X : Sx} {v : Lf} (ho : w.ownsRow lo 146 13 (.slice (some ⟨g, 0, none⟩) 1 c) 1 (grCells X v)) (y : Lf) :
  ((((((w.setCell ⟨g, 7, none⟩ (.int .i64 y.o)).setCell ⟨g, 8, none⟩ (.int .i64 y.n)).setCell ⟨g, 9, none⟩ (.int .i64 y.d)).setCell ⟨g, 10, none⟩ (.int .i64 y.m)).setCell ⟨g, 11, none⟩ (.string y.s)).setCell ⟨g, 12, none⟩ (.slice none 0 0)).ownsRow lo 146 13 (.slice (some ⟨g, 0, none⟩) 1 c) 1 (grCells X y) :=
 ((((((ho.stored 7 (.int .i64 y.o)).1.stored 8 (.int .i64 y.n)).1.stored 9 (.int .i64 y.d)).1.stored 10 (.int .i64 y.m)).1.stored 11 (.string y.s)).1.stored 12 (.slice none 0 0)).1
theorem cv_ok {cr : Bool} {a b py : Lf} {x : Vs} {hi : Nat} {w : World} (h : VerR w hi ⟨cr, .cmp a b, py⟩ x) (hhi : hi <= w.heap.size) : Calls Tryz.prog 119 #[x.agg] w fun r w' => ∃ y : Vs, r = .returned y.agg /\ VerO w' w.heap.size w'.heap.size cr a b py y /\ Below w.heap.size w w' := by
 obtain ⟨W, hW, b1, r1⟩ := ver_new w x
 obtain ⟨V, hV, b2, r2⟩ := vz_new W
 have l1 := (gis r1).1
 have l2 := (gis r2).1
 have p2 := (b2.block _ l1).trans r1
 have hb := b1.trans (b2.mono b1.size)
 have hcr : CrX cr x.cA x.cn x.cc 0 hi w := by
  rcases h.cr with ⟨h1, b, h2, h3, h4, h5⟩ | h1
  ·exact .inl ⟨h1, b, h2, h3, h4, Nat.zero_le _, h5⟩
  ·exact .inr h1
 have hg := h.gr
 have hccr : ∀ u, Below V.heap.size V u -> Calls Tryz.prog 172 #[.slice x.cA x.cn x.cc] u fun r w' => ∃ A' n' c', r = .returned (.slice A' n' c') /\ CrX cr A' n' c' u.heap.size w'.heap.size w' /\ Below u.heap.size u w' := fun u hu =>
  clcr_ok (hcr.below ((hb.trans (hu.mono hb.size)).mono hhi)) (lTr hhi (lTr hb.size hu.size))
 have HC := hID hccr
 have hix := fun u => clix_nil u
 have hle := fun u => clle_nil u
 have hre := fun u => clre_nil u
 obtain ⟨c0, c1, c2, c3, c4, c5, c6, c7⟩ := verbox p2
 obtain ⟨y3, y4, y5, y6, y7⟩ := verfrz p2
 have hne : W.heap.size ≠ w.heap.size := by omega
 obtain ⟨cA, cn, cc, gA, gc⟩ := x
 unfold Vs.agg
 clear h hcr hccr
 dsimp only [verBox, vzBox] at hW hV c3 c6 HC hg
 go_enter Tryz.func119, Tryz.ntmps119
 go_upto_region 1 with (fail)
 clear hW hV
 go_cut [] from 6 to 13 (fun wx => ∃ A n c, wx.heap[w.heap.size]? = some (verBox ⟨A, n, c, gA, gc⟩) /\ wx.heap[W.heap.size]? = some vzBox /\ CrX cr A n c V.heap.size wx.heap.size wx /\ Below w.heap.size w wx)
 case first =>
  go_region_with (first
   | (go_at_call 172; (with_reducible refine (HC.out _ (bRf).drew).mono ?_); rintro e w3 ⟨A3, n3, c3', rfl, hx3, b3⟩
      have p3 : w3.heap[w.heap.size]? = some (verBox ⟨cA, cn, cc, gA, gc⟩) := (b3.block _ (by show w.heap.size < V.heap.size; omega)).trans p2
      have q3 : w3.heap[W.heap.size]? = some vzBox := (b3.block _ l2).trans r2
      obtain ⟨k0, k1, k2, k3, k4, k5, k6, k7⟩ := verbox p3
      obtain ⟨z3, z4, z5, z6, z7⟩ := verfrz p3
      dsimp only at k3 k6)
   | (go_at_call 173; (with_reducible refine (hix _).mono ?_); rintro e w4 ⟨rfl, rfl⟩))
  all_goals
   go_wp2_with fail
   go_meet
  all_goals
   have b3' : Below V.heap.size V _ := ((Below.refl V.heap.size V).drew).trans b3
   exact ⟨A3, n3, c3', hSs _ w.heap.size 4 _ _ _ (hSs _ w.heap.size 3 _ _ _ p3), (Below.heap_setCell _ _ _ _ (by show W.heap.size ≠ w.heap.size; omega)).trans ((Below.heap_setCell _ _ _ _ (by show W.heap.size ≠ w.heap.size; omega)).trans q3), hx3.to ((Kp.set _ 3 _).trans (Kp.set _ 4 _)) (by show w.heap.size < V.heap.size; omega) (lRf) (lRf), ((hb.trans (b3'.mono hb.size)).setCell (p := ⟨w.heap.size, 3, none⟩) (lRf) _).setCell (p := ⟨w.heap.size, 4, none⟩) (lRf) _⟩
 case rest =>
  obtain ⟨A3, n3, c3', p3, q3, hx3, hb3⟩ := hcut
  generalize wc = wA at *
  clear c0 c1 c2 c3 c4 c5 c6 c7 y3 y4 y5 y6 y7 HC hix p2
  obtain ⟨c0, c1, c2, c3, c4, c5, c6, c7⟩ := verbox p3
  obtain ⟨y3, y4, y5, y6, y7⟩ := verfrz p3
  obtain ⟨g0, ⟨so, sn, sd, sm, ss, sA, sk, kx⟩, rfl, hg2, hg3, gx, kx0, hX, hg4, hg5⟩ := hg
  obtain ⟨rfl, rfl, rfl, rfl, rfl, rfl, rfl, rfl⟩ : so = 16 /\ sn = 0 /\ sd = 0 /\ sm = 0 /\ ss = ⟨#[]⟩ /\ sA = some ⟨gx, 0, none⟩ /\ sk = 2 /\ kx = kx0 := by injection hX with e1 e2 e3 e4 e5 e6 e7 e8; exact ⟨e1, e2, e3, e4, e5, e6, e7, e8⟩
  clear hX
  have lA := (gis p3).1
  have lB := (gis q3).1
  have hcgr : ∀ u, Below wA.heap.size wA u -> Calls Tryz.prog 175 #[.slice (some ⟨g0, 0, none⟩) 1 gc] u fun r w' => ∃ g' c', r = .returned (.slice (some ⟨g', 0, none⟩) 1 c') /\ 1 <= c' /\ w'.ownsRow u.heap.size 146 13 (.slice (some ⟨g', 0, none⟩) 1 c') 1 (grCells ⟨16, 0, 0, 0, ⟨#[]⟩, some ⟨gx, 0, none⟩, 2, kx⟩ py) /\ u.heap.size <= g' /\ Below u.heap.size u w' := fun u hu =>
   clgr_one (hg3.below ((hb3.trans (hu.mono hb3.size)).mono hhi)) hg2 (lTr hhi (lTr hb3.size hu.size))
  have HG := hID hcgr
  dsimp only at c3 c6
  clear hcgr hg3
  go_upto_region 2 with (fail)
  go_cut [] from 14 to 25 (fun wx => ∃ g' c', wx.heap[w.heap.size]? = some (verBox ⟨A3, n3, c3', some ⟨g', 0, none⟩, c'⟩) /\ wx.heap[W.heap.size]? = some vzBox /\ CrX cr A3 n3 c3' V.heap.size wA.heap.size wx /\ 1 <= c' /\ wx.ownsRow wA.heap.size 146 13 (.slice (some ⟨g', 0, none⟩) 1 c') 1 (grCells ⟨16, 0, 0, 0, ⟨#[]⟩, some ⟨gx, 0, none⟩, 2, kx⟩ py) /\ Below w.heap.size w wx)
  case first =>
   go_region_with (first
    | (go_at_call 175; (with_reducible refine (HG.out _ (bRf).drew).mono ?_); rintro e w4 ⟨g4, c4', rfl, hc4, ho4, hg4', b4⟩
       have p4 : w4.heap[w.heap.size]? = some (verBox ⟨A3, n3, c3', some ⟨g0, 0, none⟩, gc⟩) := (b4.block _ (by show w.heap.size < wA.heap.size; exact lA)).trans p3
       have q4 : w4.heap[W.heap.size]? = some vzBox := (b4.block _ (by show W.heap.size < wA.heap.size; exact lB)).trans q3
       obtain ⟨k0, k1, k2, k3, k4, k5, k6, k7⟩ := verbox p4
       obtain ⟨z3, z4, z5, z6, z7⟩ := verfrz p4
       dsimp only at k3 k6)
    | (go_at_call 174; (with_reducible refine (hle _).mono ?_); rintro e w5 ⟨rfl, rfl⟩)
    | (go_at_call 176; (with_reducible refine (hre _).mono ?_); rintro e w6 ⟨rfl, rfl⟩))
   all_goals
    go_wp2_with fail
    go_meet
   all_goals
    have b4' : Below wA.heap.size wA _ := ((Below.refl wA.heap.size wA).drew).trans b4
    have hoa := hb3.size
    exact ⟨g4, c4', hSs _ w.heap.size 7 _ _ _ (hSs _ w.heap.size 6 _ _ _ (hSs _ w.heap.size 5 _ _ _ p4)), (Below.heap_setCell _ _ _ _ (by show W.heap.size ≠ w.heap.size; omega)).trans ((Below.heap_setCell _ _ _ _ (by show W.heap.size ≠ w.heap.size; omega)).trans ((Below.heap_setCell _ _ _ _ (by show W.heap.size ≠ w.heap.size; omega)).trans q4)),
     (hx3.below b4').kp (((Kp.set _ 5 _).trans (Kp.set _ 6 _)).trans (Kp.set _ 7 _)) (by show w.heap.size < V.heap.size; omega) b4'.size, hc4,
     ownsRow_setCell_ne (ownsRow_setCell_ne (ownsRow_setCell_ne ho4 (p := ⟨w.heap.size, 5, none⟩) (fun e => by have := (ho4.lt w.heap.size e).1; change wA.heap.size <= _ at this; omega) _) (p := ⟨w.heap.size, 6, none⟩) (fun e => by have := (ho4.lt w.heap.size e).1; change wA.heap.size <= _ at this; omega) _) (p := ⟨w.heap.size, 7, none⟩) (fun e => by have := (ho4.lt w.heap.size e).1; change wA.heap.size <= _ at this; omega) _,
     (((hb3.trans (b4'.mono hb3.size)).setCell (p := ⟨w.heap.size, 5, none⟩) (lRf) _).setCell (p := ⟨w.heap.size, 6, none⟩) (lRf) _).setCell (p := ⟨w.heap.size, 7, none⟩) (lRf) _⟩
  case rest =>
   obtain ⟨g4, c4', p4, q4, hx4, hc4, ho4, hb4⟩ := hcut
   generalize wc = wB at *
   clear c0 c1 c2 c3 c4 c5 c6 c7 y3 y4 y5 y6 y7 HG hle hre p3 q3 hx3
   obtain ⟨c0, c1, c2, c3, c4, c5, c6, c7⟩ := verbox p4
   have lC := (gis p4).1
   have lD := (gis q4).1
   dsimp only at c3 c6
   go_wp2_with fail
   refine wp_loop_rounds 1 ?_
   rw [rounds_succ]
   go_wp2_with fail
   refine wp_loop_rounds 2 ?_
   rw [rounds_succ]
   go_upto_block 3 with (fail)
   have hB5 := hb4.size
   obtain ⟨po, pn, pd, pm, ps⟩ := py
   have hgB := (ho4.lt g4 rfl)
   have hat : ∀ u, Below wB.heap.size wB u -> u.heap[w.heap.size]? = some (verBox ⟨A3, n3, c3', some ⟨g4, 0, none⟩, c4'⟩) /\ u.ownsRow wA.heap.size 146 13 (.slice (some ⟨g4, 0, none⟩) 1 c4') 1 (grCells ⟨16, 0, 0, 0, ⟨#[]⟩, some ⟨gx, 0, none⟩, 2, kx⟩ ⟨po, pn, pd, pm, ps⟩) := fun u hu =>
    ⟨(hu.block _ lC).trans p4, own_underP ho4 hu⟩
   have hsx : ∀ (u : World) (Y : Sx), u.heap[w.heap.size]? = some (verBox ⟨A3, n3, c3', some ⟨g4, 0, none⟩, c4'⟩) -> u.ownsRow wA.heap.size 146 13 (.slice (some ⟨g4, 0, none⟩) 1 c4') 1 (grCells Y ⟨po, pn, pd, pm, ps⟩) -> u.cell? ⟨w.heap.size, 6, none⟩ = some (.slice (some ⟨g4, 0, none⟩) 1 c4') /\ u.cell? ⟨g4, 7, none⟩ = some (.int .i64 po) /\ u.cell? ⟨g4, 8, none⟩ = some (.int .i64 pn) /\ u.cell? ⟨g4, 9, none⟩ = some (.int .i64 pd) /\ u.cell? ⟨g4, 10, none⟩ = some (.int .i64 pm) /\ u.cell? ⟨g4, 11, none⟩ = some (.string ps) /\ u.cell? ⟨g4, 12, none⟩ = some (.slice none 0 0) := fun u Y h1 h2 => by
    obtain ⟨_, _, _, _, _, _, c6, _⟩ := verbox h1
    exact ⟨c6, (h2.cellAt 7 (by omega)), (h2.cellAt 8 (by omega)), (h2.cellAt 9 (by omega)), (h2.cellAt 10 (by omega)), (h2.cellAt 11 (by omega)), (h2.cellAt 12 (by omega))⟩
   have HAT := hID hat
   have HSX := hID hsx
   have e1 : wB.cell? ⟨g4, 1, none⟩ = some (.int .i64 16) := ho4.cellAt 1 (by omega)
   have e2 : wB.cell? ⟨g4, 2, none⟩ = some (.int .i64 0) := ho4.cellAt 2 (by omega)
   have e3 : wB.cell? ⟨g4, 3, none⟩ = some (.int .i64 0) := ho4.cellAt 3 (by omega)
   have e4 : wB.cell? ⟨g4, 4, none⟩ = some (.int .i64 0) := ho4.cellAt 4 (by omega)
   have e5 : wB.cell? ⟨g4, 5, none⟩ = some (.string ⟨#[]⟩) := ho4.cellAt 5 (by omega)
   have e6 : wB.cell? ⟨g4, 6, none⟩ = some (.slice (some ⟨gx, 0, none⟩) 2 kx) := ho4.cellAt 6 (by omega)
   have hc1 : ∀ u, Below wB.heap.size wB u -> Calls Tryz.prog 177 #[.agg #[.int .i64 16, .int .i64 0, .int .i64 0, .int .i64 0, .string ⟨#[]⟩, .slice (some ⟨gx, 0, none⟩) 2 kx]] u fun r w' => ∃ g' c', r = .returned (.agg #[.int .i64 16, .int .i64 0, .int .i64 0, .int .i64 0, .string ⟨#[]⟩, .slice (some ⟨g', 0, none⟩) 2 c']) /\ 2 <= c' /\ Rz w' w'.heap.size g' (a.cells ++ b.cells) /\ u.heap.size <= g' /\ Below u.heap.size u w' := fun u hu =>
    clexpr_cmp (hg5.below ((hb4.trans (hu.mono hb4.size)).mono hhi)) hg4 (lTr hhi (lTr hb4.size hu.size))
   have hc2 : ∀ u, Calls Tryz.prog 177 #[.agg #[.int .i64 po, .int .i64 pn, .int .i64 pd, .int .i64 pm, .string ps, .slice none 0 0]] u fun r w' => r = .returned (.agg #[.int .i64 po, .int .i64 pn, .int .i64 pd, .int .i64 pm, .string ps, .slice none 0 0]) /\ Below u.heap.size u w' := fun u => clexpr_leaf ⟨po, pn, pd, pm, ps⟩ u
   have HC1 := hID hc1
   clear hat hsx hc1 hg5
   go_cut [4] from 50 to 74 (fun z wx => ∃ gx' kx', wx.ownsRow wA.heap.size 146 13 (.slice (some ⟨g4, 0, none⟩) 1 c4') 1 (grCells ⟨16, 0, 0, 0, ⟨#[]⟩, some ⟨gx', 0, none⟩, 2, kx'⟩ ⟨po, pn, pd, pm, ps⟩) /\ 2 <= kx' /\ wB.heap.size <= gx' /\ Rz wx wx.heap.size gx' (a.cells ++ b.cells) /\ Below wA.heap.size wB wx)
   case first =>
    go_upto_region 11 with (fail)
    refine wp_region_held_drew (S := fun u => u.cell? ⟨w.heap.size, 6, none⟩ = some (.slice (some ⟨g4, 0, none⟩) 1 c4') /\ u.cell? ⟨g4, 7, none⟩ = some (.int .i64 po) /\ u.cell? ⟨g4, 8, none⟩ = some (.int .i64 pn) /\ u.cell? ⟨g4, 9, none⟩ = some (.int .i64 pd) /\ u.cell? ⟨g4, 10, none⟩ = some (.int .i64 pm) /\ u.cell? ⟨g4, 11, none⟩ = some (.string ps) /\ u.cell? ⟨g4, 12, none⟩ = some (.slice none 0 0)) (by kernel_rfl) (HSX.out _ _ (HAT.out _ (bRf)).1 (HAT.out _ (bRf)).2) (fun hHeld => ?_)
    refine wpAnyH_take (i := 0) (oi := _) (v := ?_) rfl (by kernel_rfl) (by kernel_rfl) (by kernel_rfl) (fun _ _ _ h => h) (Or.inl ⟨by rfl, ?_⟩) (by assumption) ?_
    rotate_left 1
    focus
     intro w' hSw
     try dsimp only at hSw
     try simp only [List.getElem_toArray, List.getElem_cons_succ, List.getElem_cons_zero]
     go_simp
     try with_reducible rfl
    try simp only [Act.put, List.getElem_toArray, List.getElem_cons_succ, List.getElem_cons_zero, List.setIfInBounds_toArray, List.set_cons_zero, List.set_cons_succ]
    refine wpAnyH_take (i := 1) (oi := _) (v := ?_) rfl (by kernel_rfl) (by kernel_rfl) (by kernel_rfl) (fun _ _ _ h => h) (Or.inl ⟨by rfl, ?_⟩) (by assumption) ?_
    rotate_left 1
    focus
     intro w' hSw
     try dsimp only at hSw
     try simp only [List.getElem_toArray, List.getElem_cons_succ, List.getElem_cons_zero]
     go_simp
     try with_reducible rfl
    try simp only [Act.put, List.getElem_toArray, List.getElem_cons_succ, List.getElem_cons_zero, List.setIfInBounds_toArray, List.set_cons_zero, List.set_cons_succ]
    refine wpAnyH_take (i := 2) (oi := _) (v := ?_) rfl (by kernel_rfl) (by kernel_rfl) (by kernel_rfl) (fun _ _ _ h => h) (Or.inl ⟨by rfl, ?_⟩) (by assumption) ?_
    rotate_left 1
    focus
     intro w' hSw
     try dsimp only at hSw
     try simp only [List.getElem_toArray, List.getElem_cons_succ, List.getElem_cons_zero]
     go_simp
     try with_reducible rfl
    try simp only [Act.put, List.getElem_toArray, List.getElem_cons_succ, List.getElem_cons_zero, List.setIfInBounds_toArray, List.set_cons_zero, List.set_cons_succ]
    refine wpAnyH_take (i := 3) (oi := _) (v := ?_) rfl (by kernel_rfl) (by kernel_rfl) (by kernel_rfl) (fun _ _ _ h => h) (Or.inl ⟨by rfl, ?_⟩) (by assumption) ?_
    rotate_left 1
    focus
     intro w' hSw
     try dsimp only at hSw
     try simp only [List.getElem_toArray, List.getElem_cons_succ, List.getElem_cons_zero]
     go_simp
     try with_reducible rfl
    try simp only [Act.put, List.getElem_toArray, List.getElem_cons_succ, List.getElem_cons_zero, List.setIfInBounds_toArray, List.set_cons_zero, List.set_cons_succ]
    refine wpAnyH_take (i := 4) (oi := _) (v := ?_) rfl (by kernel_rfl) (by kernel_rfl) (by kernel_rfl) (fun _ _ _ h => h) (Or.inl ⟨by rfl, ?_⟩) (by assumption) ?_
    rotate_left 1
    focus
     intro w' hSw
     try dsimp only at hSw
     try simp only [List.getElem_toArray, List.getElem_cons_succ, List.getElem_cons_zero]
     go_simp
     try with_reducible rfl
    try simp only [Act.put, List.getElem_toArray, List.getElem_cons_succ, List.getElem_cons_zero, List.setIfInBounds_toArray, List.set_cons_zero, List.set_cons_succ]
    refine wpAnyH_take (i := 5) (oi := _) (v := ?_) rfl (by kernel_rfl) (by kernel_rfl) (by kernel_rfl) (fun _ _ _ h => h) (Or.inl ⟨by rfl, ?_⟩) (by assumption) ?_
    rotate_left 1
    focus
     intro w' hSw
     try dsimp only at hSw
     try simp only [List.getElem_toArray, List.getElem_cons_succ, List.getElem_cons_zero]
     go_simp
     try with_reducible rfl
    try simp only [Act.put, List.getElem_toArray, List.getElem_cons_succ, List.getElem_cons_zero, List.setIfInBounds_toArray, List.set_cons_zero, List.set_cons_succ]
    refine wpAnyH_take (i := 6) (oi := _) (v := ?_) rfl (by kernel_rfl) (by kernel_rfl) (by kernel_rfl) (fun _ _ _ h => h) (Or.inl ⟨by rfl, ?_⟩) (by assumption) ?_
    rotate_left 1
    focus
     intro w' hSw
     try dsimp only at hSw
     try simp only [List.getElem_toArray, List.getElem_cons_succ, List.getElem_cons_zero]
     go_simp
     try with_reducible rfl
    try simp only [Act.put, List.getElem_toArray, List.getElem_cons_succ, List.getElem_cons_zero, List.setIfInBounds_toArray, List.set_cons_zero, List.set_cons_succ]
    refine wpAnyH_take (i := 7) (oi := _) (v := ?_) rfl (by kernel_rfl) (by kernel_rfl) (by kernel_rfl) (fun _ _ _ h => h) (Or.inl ⟨by rfl, ?_⟩) (by assumption) ?_
    rotate_left 1
    focus
     intro w' hSw
     try dsimp only at hSw
     try simp only [List.getElem_toArray, List.getElem_cons_succ, List.getElem_cons_zero]
     go_simp
     try with_reducible rfl
    try simp only [Act.put, List.getElem_toArray, List.getElem_cons_succ, List.getElem_cons_zero, List.setIfInBounds_toArray, List.set_cons_zero, List.set_cons_succ]
    refine wpAnyH_take (i := 8) (oi := _) (v := ?_) rfl (by kernel_rfl) (by kernel_rfl) (by kernel_rfl) (fun _ _ _ h => h) (Or.inl ⟨by rfl, ?_⟩) (by assumption) ?_
    rotate_left 1
    focus
     intro w' hSw
     try dsimp only at hSw
     try simp only [List.getElem_toArray, List.getElem_cons_succ, List.getElem_cons_zero]
     go_simp
     try with_reducible rfl
    try simp only [Act.put, List.getElem_toArray, List.getElem_cons_succ, List.getElem_cons_zero, List.setIfInBounds_toArray, List.set_cons_zero, List.set_cons_succ]
    refine wpAnyH_take (i := 9) (oi := _) (v := ?_) rfl (by kernel_rfl) (by kernel_rfl) (by kernel_rfl) (fun _ _ _ h => h) (Or.inl ⟨by rfl, ?_⟩) (by assumption) ?_
    rotate_left 1
    focus
     intro w' hSw
     try dsimp only at hSw
     try simp only [List.getElem_toArray, List.getElem_cons_succ, List.getElem_cons_zero]
     go_simp
     try with_reducible rfl
    try simp only [Act.put, List.getElem_toArray, List.getElem_cons_succ, List.getElem_cons_zero, List.setIfInBounds_toArray, List.set_cons_zero, List.set_cons_succ]
    refine wpAnyH_take (i := 10) (oi := _) (v := ?_) rfl (by kernel_rfl) (by kernel_rfl) (by kernel_rfl) (fun _ _ _ h => h) (Or.inl ⟨by rfl, ?_⟩) (by assumption) ?_
    rotate_left 1
    focus
     intro w' hSw
     try dsimp only at hSw
     try simp only [List.getElem_toArray, List.getElem_cons_succ, List.getElem_cons_zero]
     go_simp
     try with_reducible rfl
    try simp only [Act.put, List.getElem_toArray, List.getElem_cons_succ, List.getElem_cons_zero, List.setIfInBounds_toArray, List.set_cons_zero, List.set_cons_succ]
    refine wpAnyH_take (i := 13) (oi := _) (v := ?_) rfl (by kernel_rfl) (by kernel_rfl) (by kernel_rfl) (fun _ _ _ h => h) (Or.inl ⟨by rfl, ?_⟩) (by assumption) ?_
    rotate_left 1
    focus
     intro w' hSw
     try dsimp only at hSw
     try simp only [List.getElem_toArray, List.getElem_cons_succ, List.getElem_cons_zero]
     go_simp
     try with_reducible rfl
    try simp only [Act.put, List.getElem_toArray, List.getElem_cons_succ, List.getElem_cons_zero, List.setIfInBounds_toArray, List.set_cons_zero, List.set_cons_succ]
    refine wpAnyH_take (i := 14) (oi := _) (v := ?_) rfl (by kernel_rfl) (by kernel_rfl) (by kernel_rfl) (fun _ _ _ h => h) (Or.inl ⟨by rfl, ?_⟩) (by assumption) ?_
    rotate_left 1
    focus
     intro w' hSw
     try dsimp only at hSw
     try simp only [List.getElem_toArray, List.getElem_cons_succ, List.getElem_cons_zero]
     go_simp
     try with_reducible rfl
    try simp only [Act.put, List.getElem_toArray, List.getElem_cons_succ, List.getElem_cons_zero, List.setIfInBounds_toArray, List.set_cons_zero, List.set_cons_succ]
    refine wpAnyH_take (i := 15) (oi := _) (v := ?_) rfl (by kernel_rfl) (by kernel_rfl) (by kernel_rfl) (fun _ _ _ h => h) (Or.inl ⟨by rfl, ?_⟩) (by assumption) ?_
    rotate_left 1
    focus
     intro w' hSw
     try dsimp only at hSw
     try simp only [List.getElem_toArray, List.getElem_cons_succ, List.getElem_cons_zero]
     go_simp
     try with_reducible rfl
    try simp only [Act.put, List.getElem_toArray, List.getElem_cons_succ, List.getElem_cons_zero, List.setIfInBounds_toArray, List.set_cons_zero, List.set_cons_succ]
    refine wpAnyH_take (i := 16) (oi := _) (v := ?_) rfl (by kernel_rfl) (by kernel_rfl) (by kernel_rfl) (fun _ _ _ h => h) (Or.inl ⟨by rfl, ?_⟩) (by assumption) ?_
    rotate_left 1
    focus
     intro w' hSw
     try dsimp only at hSw
     try simp only [List.getElem_toArray, List.getElem_cons_succ, List.getElem_cons_zero]
     go_simp
     try with_reducible rfl
    try simp only [Act.put, List.getElem_toArray, List.getElem_cons_succ, List.getElem_cons_zero, List.setIfInBounds_toArray, List.set_cons_zero, List.set_cons_succ]
    refine wpAnyH_take (i := 17) (oi := _) (v := ?_) rfl (by kernel_rfl) (by kernel_rfl) (by kernel_rfl) (fun _ _ _ h => h) (Or.inl ⟨by rfl, ?_⟩) (by assumption) ?_
    rotate_left 1
    focus
     intro w' hSw
     try dsimp only at hSw
     try simp only [List.getElem_toArray, List.getElem_cons_succ, List.getElem_cons_zero]
     go_simp
     try with_reducible rfl
    try simp only [Act.put, List.getElem_toArray, List.getElem_cons_succ, List.getElem_cons_zero, List.setIfInBounds_toArray, List.set_cons_zero, List.set_cons_succ]
    refine wpAnyH_take (i := 18) (oi := _) (v := ?_) rfl (by kernel_rfl) (by kernel_rfl) (by kernel_rfl) (fun _ _ _ h => h) (Or.inl ⟨by rfl, ?_⟩) (by assumption) ?_
    rotate_left 1
    focus
     intro w' hSw
     try dsimp only at hSw
     try simp only [List.getElem_toArray, List.getElem_cons_succ, List.getElem_cons_zero]
     go_simp
     try with_reducible rfl
    try simp only [Act.put, List.getElem_toArray, List.getElem_cons_succ, List.getElem_cons_zero, List.setIfInBounds_toArray, List.set_cons_zero, List.set_cons_succ]
    refine wpAnyH_ready (rs := [11]) (by kernel_rfl) (by simp) ?_
    refine AllReadyH.cons (o := _) rfl (fun K hK => ?_) AllReadyH.nil
    try simp only [List.getElem_toArray, List.getElem_cons_succ, List.getElem_cons_zero]
    go_simp
    refine hK.out _ _ hHeld (fun hHeld2 => ?_)
    clear hHeld
    clear hK K
    try simp only [Act.put, List.getElem_toArray, List.getElem_cons_succ, List.getElem_cons_zero, List.setIfInBounds_toArray, List.set_cons_zero, List.set_cons_succ]
    refine wpAnyH_ready (rs := [12]) (by kernel_rfl) (by simp) ?_
    refine AllReadyH.cons (o := _) rfl (fun K hK => ?_) AllReadyH.nil
    refine step_calleeP (by rfl) 177 Tryz.func177 (by rfl) (by rfl) [.tmp 62] _ (by rfl) [.agg #[.int .i64 16, .int .i64 0, .int .i64 0, .int .i64 0, .string ⟨#[]⟩, .slice (some ⟨gx, 0, none⟩) 2 kx]] (by rfl) (HC1.out _ (bRf).drew) ?_
    rintro e w7 ⟨gx', kx', rfl, hk7, hr7, hgx7, b7⟩
    refine ⟨_, rfl, ?_⟩
    have hb7 : Below wB.heap.size wB w7 := ((bRf).drew).trans b7
    have hz7 : wB.heap.size <= gx' := hgx7
    refine hK.out _ _ (HSX.out _ _ (HAT.out _ hb7).1 (HAT.out _ hb7).2) (fun hHeld => ?_)
    clear hHeld2
    clear hK K
    try simp only [Act.put, List.getElem_toArray, List.getElem_cons_succ, List.getElem_cons_zero, List.setIfInBounds_toArray, List.set_cons_zero, List.set_cons_succ]
    refine wpAnyH_ready (rs := [19]) (by kernel_rfl) (by simp) ?_
    refine AllReadyH.cons (o := _) rfl (fun K hK => ?_) AllReadyH.nil
    refine step_calleeP (by rfl) 177 Tryz.func177 (by rfl) (by rfl) [.tmp 69] _ (by rfl) [.agg #[.int .i64 po, .int .i64 pn, .int .i64 pd, .int .i64 pm, .string ps, .slice none 0 0]] (by rfl) (hc2 _) ?_
    rintro e w8 ⟨rfl, b8⟩
    refine ⟨_, rfl, ?_⟩
    have hb8 := hb7.trans (b8.mono hb7.size)
    have hr8 := hr7.below b8
    have p8 := (HAT.out _ hb8).1
    have o8 := (HAT.out _ hb8).2
    refine hK.out _ _ (HSX.out _ _ p8 o8) (fun hHeld2 => ?_)
    clear hHeld
    clear hK K
    try simp only [Act.put, List.getElem_toArray, List.getElem_cons_succ, List.getElem_cons_zero, List.setIfInBounds_toArray, List.set_cons_zero, List.set_cons_succ]
    refine wpAnyH_take (i := 20) (oi := _) (v := ?_) rfl (by kernel_rfl) (by kernel_rfl) (by kernel_rfl) (fun _ _ _ h => h) (Or.inl ⟨by rfl, ?_⟩) (by assumption) ?_
    rotate_left 1
    focus
     intro w' hSw
     try dsimp only at hSw
     try simp only [List.getElem_toArray, List.getElem_cons_succ, List.getElem_cons_zero]
     go_simp
     try with_reducible rfl
    try simp only [Act.put, List.getElem_toArray, List.getElem_cons_succ, List.getElem_cons_zero, List.setIfInBounds_toArray, List.set_cons_zero, List.set_cons_succ]
    refine wpAnyH_take (i := 21) (oi := _) (v := ?_) rfl (by kernel_rfl) (by kernel_rfl) (by kernel_rfl) (fun _ _ _ h => h) (Or.inl ⟨by rfl, ?_⟩) (by assumption) ?_
    rotate_left 1
    focus
     intro w' hSw
     try dsimp only at hSw
     try simp only [List.getElem_toArray, List.getElem_cons_succ, List.getElem_cons_zero]
     go_simp
     try with_reducible rfl
    try simp only [Act.put, List.getElem_toArray, List.getElem_cons_succ, List.getElem_cons_zero, List.setIfInBounds_toArray, List.set_cons_zero, List.set_cons_succ]
    have i1 : w8.cell? ⟨g4, 1, none⟩ = some (.int .i64 16) := o8.cellAt 1 (by omega)
    have z1 := o8.frozenAt 1
    have i2 : w8.cell? ⟨g4, 2, none⟩ = some (.int .i64 0) := o8.cellAt 2 (by omega)
    have z2 := o8.frozenAt 2
    have i3 : w8.cell? ⟨g4, 3, none⟩ = some (.int .i64 0) := o8.cellAt 3 (by omega)
    have z3 := o8.frozenAt 3
    have i4 : w8.cell? ⟨g4, 4, none⟩ = some (.int .i64 0) := o8.cellAt 4 (by omega)
    have z4 := o8.frozenAt 4
    have i5 : w8.cell? ⟨g4, 5, none⟩ = some (.string ⟨#[]⟩) := o8.cellAt 5 (by omega)
    have z5 := o8.frozenAt 5
    have i6 : w8.cell? ⟨g4, 6, none⟩ = some (.slice (some ⟨gx, 0, none⟩) 2 kx) := o8.cellAt 6 (by omega)
    have z6 := o8.frozenAt 6
    refine wpAnyH_ready (rs := [22]) (by kernel_rfl) (by simp) ?_
    refine AllReadyH.cons (o := _) rfl (fun K hK => ?_) AllReadyH.nil
    try simp only [List.getElem_toArray, List.getElem_cons_succ, List.getElem_cons_zero]
    go_simp
    have o9 := gr_set_if o8 ⟨16, 0, 0, 0, ⟨#[]⟩, some ⟨gx', 0, none⟩, 2, kx'⟩
    dsimp only at o9
    have b9 := ((((((Below.refl g4 w8).setCell (p := ⟨g4, 1, none⟩) (lRf) (.int .i64 16)).setCell (p := ⟨g4, 2, none⟩) (lRf) (.int .i64 0)).setCell (p := ⟨g4, 3, none⟩) (lRf) (.int .i64 0)).setCell (p := ⟨g4, 4, none⟩) (lRf) (.int .i64 0)).setCell (p := ⟨g4, 5, none⟩) (lRf) (.string ⟨#[]⟩)).setCell (p := ⟨g4, 6, none⟩) (lRf) (.slice (some ⟨gx', 0, none⟩) 2 kx')
    have k9 := (((((Kp.set (R := g4) w8 1 (.int .i64 16)).trans (Kp.set _ 2 (.int .i64 0))).trans (Kp.set _ 3 (.int .i64 0))).trans (Kp.set _ 4 (.int .i64 0))).trans (Kp.set _ 5 (.string ⟨#[]⟩))).trans (Kp.set _ 6 (.slice (some ⟨gx', 0, none⟩) 2 kx'))
    obtain ⟨w9, hw9⟩ : ∃ u, ((((((w8.setCell ⟨g4, 1, none⟩ (.int .i64 16)).setCell ⟨g4, 2, none⟩ (.int .i64 0)).setCell ⟨g4, 3, none⟩ (.int .i64 0)).setCell ⟨g4, 4, none⟩ (.int .i64 0)).setCell ⟨g4, 5, none⟩ (.string ⟨#[]⟩)).setCell ⟨g4, 6, none⟩ (.slice (some ⟨gx', 0, none⟩) 2 kx')) = u := ⟨_, rfl⟩
    rw [hw9] at o9 b9 k9 ⊢
    clear hw9 i1 i2 i3 i4 i5 i6 z1 z2 z3 z4 z5 z6
    have p9 := (b9.block w.heap.size (by omega)).trans p8
    refine hK.out _ _ (HSX.out _ _ p9 o9) (fun hHeld => ?_)
    clear hHeld2
    clear hK K
    try simp only [Act.put, List.getElem_toArray, List.getElem_cons_succ, List.getElem_cons_zero, List.setIfInBounds_toArray, List.set_cons_zero, List.set_cons_succ]
    refine wpAnyH_take (i := 23) (oi := _) (v := ?_) rfl (by kernel_rfl) (by kernel_rfl) (by kernel_rfl) (fun _ _ _ h => h) (Or.inl ⟨by rfl, ?_⟩) (by assumption) ?_
    rotate_left 1
    focus
     intro w' hSw
     try dsimp only at hSw
     try simp only [List.getElem_toArray, List.getElem_cons_succ, List.getElem_cons_zero]
     go_simp
     try with_reducible rfl
    try simp only [Act.put, List.getElem_toArray, List.getElem_cons_succ, List.getElem_cons_zero, List.setIfInBounds_toArray, List.set_cons_zero, List.set_cons_succ]
    refine wpAnyH_take (i := 24) (oi := _) (v := ?_) rfl (by kernel_rfl) (by kernel_rfl) (by kernel_rfl) (fun _ _ _ h => h) (Or.inl ⟨by rfl, ?_⟩) (by assumption) ?_
    rotate_left 1
    focus
     intro w' hSw
     try dsimp only at hSw
     try simp only [List.getElem_toArray, List.getElem_cons_succ, List.getElem_cons_zero]
     go_simp
     try with_reducible rfl
    try simp only [Act.put, List.getElem_toArray, List.getElem_cons_succ, List.getElem_cons_zero, List.setIfInBounds_toArray, List.set_cons_zero, List.set_cons_succ]
    have i1 : w9.cell? ⟨g4, 7, none⟩ = some (.int .i64 po) := o9.cellAt 7 (by omega)
    have z1 := o9.frozenAt 7
    have i2 : w9.cell? ⟨g4, 8, none⟩ = some (.int .i64 pn) := o9.cellAt 8 (by omega)
    have z2 := o9.frozenAt 8
    have i3 : w9.cell? ⟨g4, 9, none⟩ = some (.int .i64 pd) := o9.cellAt 9 (by omega)
    have z3 := o9.frozenAt 9
    have i4 : w9.cell? ⟨g4, 10, none⟩ = some (.int .i64 pm) := o9.cellAt 10 (by omega)
    have z4 := o9.frozenAt 10
    have i5 : w9.cell? ⟨g4, 11, none⟩ = some (.string ps) := o9.cellAt 11 (by omega)
    have z5 := o9.frozenAt 11
    have i6 : w9.cell? ⟨g4, 12, none⟩ = some (.slice none 0 0) := o9.cellAt 12 (by omega)
    have z6 := o9.frozenAt 12
    refine wpAnyH_ready (rs := [25]) (by kernel_rfl) (by simp) ?_
    refine AllReadyH.cons (o := _) rfl (fun K hK => ?_) AllReadyH.nil
    try simp only [List.getElem_toArray, List.getElem_cons_succ, List.getElem_cons_zero]
    go_simp
    have o10 := gr_set_pay o9 ⟨po, pn, pd, pm, ps⟩
    dsimp only at o10
    have b10 := ((((((Below.refl g4 w9).setCell (p := ⟨g4, 7, none⟩) (lRf) (.int .i64 po)).setCell (p := ⟨g4, 8, none⟩) (lRf) (.int .i64 pn)).setCell (p := ⟨g4, 9, none⟩) (lRf) (.int .i64 pd)).setCell (p := ⟨g4, 10, none⟩) (lRf) (.int .i64 pm)).setCell (p := ⟨g4, 11, none⟩) (lRf) (.string ps)).setCell (p := ⟨g4, 12, none⟩) (lRf) (.slice none 0 0)
    have k10 := (((((Kp.set (R := g4) w9 7 (.int .i64 po)).trans (Kp.set _ 8 (.int .i64 pn))).trans (Kp.set _ 9 (.int .i64 pd))).trans (Kp.set _ 10 (.int .i64 pm))).trans (Kp.set _ 11 (.string ps))).trans (Kp.set _ 12 (.slice none 0 0))
    obtain ⟨w10, hw10⟩ : ∃ u, ((((((w9.setCell ⟨g4, 7, none⟩ (.int .i64 po)).setCell ⟨g4, 8, none⟩ (.int .i64 pn)).setCell ⟨g4, 9, none⟩ (.int .i64 pd)).setCell ⟨g4, 10, none⟩ (.int .i64 pm)).setCell ⟨g4, 11, none⟩ (.string ps)).setCell ⟨g4, 12, none⟩ (.slice none 0 0)) = u := ⟨_, rfl⟩
    rw [hw10] at o10 b10 k10 ⊢
    clear hw10 i1 i2 i3 i4 i5 i6 z1 z2 z3 z4 z5 z6
    have p10 := (b10.block w.heap.size (by omega)).trans p9
    refine hK.out _ _ (HSX.out _ _ p10 o10) (fun hHeld2 => ?_)
    clear hHeld
    clear hK K
    try simp only [Act.put, List.getElem_toArray, List.getElem_cons_succ, List.getElem_cons_zero, List.setIfInBounds_toArray, List.set_cons_zero, List.set_cons_succ]
    refine wpAnyH_done (by kernel_rfl) ?_ _
    go_wp2_with fail
    go_meet
    exact ⟨gx', kx', o10, hk7, hz7, hr8.kp (k9.trans k10) (by omega) b8.size, (hb8.mono (by omega)).trans ((b9.mono hgB.1).trans (b10.mono hgB.1))⟩
   case rest =>
    obtain ⟨gx', kx', o9, hk9, hz9, hr9, hb9⟩ := hcut
    have p9 := (hb9.block _ lA).trans p4
    have q9 := (hb9.block _ lB).trans q4
    have hx9 := hx4.below hb9
    have hb10 : Below w.heap.size w wc := hb4.trans (hb9.mono (by omega))
    generalize wc = w9 at *
    clear c0 c1 c2 c3 c4 c5 c6 c7 hx4 p4 q4 HAT HSX HC1 hc2 e1 e2 e3 e4 e5 e6
    obtain ⟨c0, c1, c2, c3, c4, c5, c6, c7⟩ := verbox p9
    obtain ⟨⟨f0, f1, f2, f3, f4, f5, f6, f7⟩, ⟨z0, z1, z2, z3, z4, z5, z6, z7⟩⟩ := vzbox q9
    have hR9 : Rz w9 w9.heap.size g4 (grCells ⟨16, 0, 0, 0, ⟨#[]⟩, some ⟨gx', 0, none⟩, 2, kx'⟩ ⟨po, pn, pd, pm, ps⟩) := by
     obtain ⟨g9, hg9, hRz, _, _⟩ := Rz.ofOwn o9 (by omega)
     have e9 : g4 = g9 := by injection hg9 with e; injection e
     rw [e9]
     exact hRz
    have hzl := hb9.size
    have hz10 := hb10.size
    have hz3 := hb3.size
    have hkp := eight_kp w9 W.heap.size (.int .i64 0) (.int .i64 1) (.int .i64 1) (.slice A3 n3 c3') (.slice none 0 0) (.slice none 0 0) (.slice (some ⟨g4, 0, none⟩) 1 c4') (.slice none 0 0)
    have hbel := eight_below (g := W.heap.size) hb10 (by omega) (.int .i64 0) (.int .i64 1) (.int .i64 1) (.slice A3 n3 c3') (.slice none 0 0) (.slice none 0 0) (.slice (some ⟨g4, 0, none⟩) 1 c4') (.slice none 0 0)
    dsimp only at c3 c6
    go_wp2_with fail
    rw [rounds_succ]
    go_wp2_with fail
    refine wp_loop_rounds 1 ?_
    rw [rounds_succ]
    go_wp2_with fail
    refine bodyPost_ret (v := .agg #[.int .i64 0, .int .i64 1, .int .i64 1, .slice A3 n3 c3', .slice none 0 0, .slice none 0 0, .slice (some ⟨g4, 0, none⟩) 1 c4', .slice none 0 0]) (by simp [results, Tryz.f119, go_sem, f0, f1, f2, f3, f4, f5, f6, f7]) rfl ?_
    refine ⟨⟨A3, n3, c3', some ⟨g4, 0, none⟩, c4'⟩, rfl, ⟨?_, ?_⟩, hbel⟩
    ·exact hx9.to hkp (by omega) (by omega) (by omega)
    ·exact ⟨g4, gx', kx', rfl, hc4, by omega, by omega, hk9, hR9.kp hkp (by omega) (lRf), hr9.kp hkp (by omega) (lRf)⟩
end
end Go.Proofs.YtnlopdmhdiegnaaGreatDoor
