/- Lemmas (no conditions): Bna, Tyb, Tyc, Stc, Mna -/
import Derived.Test.YtnlopdmhdiegnaaGreatDoorPk21
import Derived.Test.YtnlopdmhdiegnaaGreatDoorPk24
import Derived.Test.YtnlopdmhdiegnaaGreatDoorPk25
set_option linter.unusedSimpArgs false
set_option linter.unusedVariables false
set_option maxRecDepth 100000
set_option maxHeartbeats 64000000
namespace Go.Proofs.YtnlopdmhdiegnaaGreatDoor
open Go.RowKit
section
def sts (k : Nat) : List Int := (List.range k).map Int.ofNat
theorem sts_len (k : Nat) : (sts k).length = k := by unfold sts; simp
theorem mem_sts (k i : Nat) : decide ((i : Int) ∈ sts k) = decide (i < k) := by
 unfold sts
 congr 1
 rw [eq_iff_iff, List.mem_map]
 constructor
 ·rintro ⟨j, hj, e⟩
  have h1 := List.mem_range.1 hj
  have h2 : (j : Int) = (i : Int) := e
  omega
 ·intro h
  exact ⟨i, List.mem_range.2 h, rfl⟩
structure Bn where
 SA : Option Addr
 k : Nat
 sc : Nat
 RA : Option Addr
 rc : Nat
 d : Int
 md : Int
 MA : Option Addr
 mc : Nat
def Bn.agg (b : Bn) : Value := .agg #[.slice b.SA b.k b.sc, .slice b.RA 1 b.rc, .slice none 0 0, .int .i64 b.d, .int .i64 0, .int .i64 b.md, .int .i64 730, .int .i64 25, .slice b.MA b.k b.mc]
abbrev bnBox (b : Bn) : Obj := .cells #[.slice b.SA b.k b.sc, .slice b.RA 1 b.rc, .slice none 0 0, .int .i64 b.d, .int .i64 0, .int .i64 b.md, .int .i64 730, .int .i64 25, .slice b.MA b.k b.mc] 68
theorem bn_new (w : World) (b : Bn) : ∃ W, w.alloc (bnBox b) = W /\ Below w.heap.size w W /\ W.heap[w.heap.size]? = some (bnBox b) :=
 ⟨_, rfl, (Below.refl _ _).alloc (Nat.le_refl _) _, heap_alloc_new w _⟩
theorem bnbox {W : World} {g : Nat} {b : Bn} (hr : W.heap[g]? = some (bnBox b)) :
  W.cell? ⟨g, 0, none⟩ = some (.slice b.SA b.k b.sc) /\ W.cell? ⟨g, 1, none⟩ = some (.slice b.RA 1 b.rc) /\ W.cell? ⟨g, 2, none⟩ = some (.slice none 0 0) /\ W.cell? ⟨g, 3, none⟩ = some (.int .i64 b.d) /\ W.cell? ⟨g, 4, none⟩ = some (.int .i64 0) /\ W.cell? ⟨g, 5, none⟩ = some (.int .i64 b.md) /\ W.cell? ⟨g, 6, none⟩ = some (.int .i64 730) /\ W.cell? ⟨g, 7, none⟩ = some (.int .i64 25) /\ W.cell? ⟨g, 8, none⟩ = some (.slice b.MA b.k b.mc) := by
 refine ⟨?_, ?_, ?_, ?_, ?_, ?_, ?_, ?_, ?_⟩ <;> rw [cell_of_row _ _ _ _ _ _ hr] <;> rfl
theorem member_ok {b : Bn} {w : World} (s : Int) (hM : Rd w w.heap.size 1 b.MA b.k (ints (sts b.k))) (h0 : 0 < b.k) (h6 : b.k <= 6) :
  Calls Tryz.prog 37 #[b.agg, .int .i64 s] w fun e w' => e = .returned (.bool (decide (s ∈ sts b.k))) /\ Below w.heap.size w w' := by
 obtain ⟨W, hW, bW, rW⟩ := bn_new w b
 obtain ⟨c0, c1, c2, c3, c4, c5, c6, c7, c8⟩ := bnbox rW
 have hh := has_int (c := b.mc) s ((hM.below bW).mono bW.size) h0 (by omega)
 obtain ⟨SA, k, sc, RA, rc, d, md, MA, mc⟩ := b
 unfold Bn.agg
 dsimp only [bnBox] at hW c0 c1 c3 c5 c8 hh h0 h6
 clear rW hM
 go_enter Tryz.func37, Tryz.ntmps37
 go_upto_region 1 with (fail)
 clear hW
 go_wp2_with fail
 refine hh.mono ?_
 rintro e w1 ⟨rfl, rfl⟩
 go_wp2_with fail
 go_ret
 exact ⟨rfl, bW⟩
def saCells (nm : By) (x : St) (i : Nat) : List Value := [.int .i64 (i : Int), .string (bs nm), .int .i64 1, .slice (some ⟨x.b, 0, none⟩) 1 x.c]
theorem sa_len (nm : By) (x : St) (i : Nat) : (saCells nm x i).length = 4 := rfl
theorem sa_cells {w : World} {B k : Nat} {A : Option Addr} {nm : By} {x : St} (h : Rd w B 4 A k (flat (saCells nm x) (List.range k))) {i : Nat} (hi : i < k) :
  ∃ b o, A = some ⟨b, o, none⟩ /\ b < B /\ w.cell? ⟨b, o + i * 4, none⟩ = some (.int .i64 (i : Int)) /\ w.cell? ⟨b, o + i * 4 + 1, none⟩ = some (.string (bs nm)) /\ w.cell? ⟨b, o + i * 4 + 2, none⟩ = some (.int .i64 1) /\ w.cell? ⟨b, o + i * 4 + 3, none⟩ = some (.slice (some ⟨x.b, 0, none⟩) 1 x.c) := by
 obtain ⟨_, b, o, e, hb, hc⟩ := h.elem (sa_len nm x) (k := i) (x := i) (by rw [List.getElem?_range hi]) (by omega)
 exact ⟨b, o, e, hb, by simpa using hc 0 _ rfl, hc 1 _ rfl, hc 2 _ rfl, hc 3 _ rfl⟩
theorem bstatute_ok {b : Bn} {nm : By} {x : St} {s : Nat} {w : World} (hS : Rd w w.heap.size 4 b.SA b.k (flat (saCells nm x) (List.range b.k))) (hs : s < b.k) (h6 : b.k <= 6) :
  Calls Tryz.prog 67 #[b.agg, .int .i64 (s : Int)] w fun e w' => e = .returned (.tuple #[x.agg nm, .bool true]) /\ Below w.heap.size w w' := by
 obtain ⟨W, hW, bW, rW⟩ := bn_new w b
 obtain ⟨V, hV, bV, rV⟩ := box_new W (.cells #[.string ⟨#[]⟩, .int .i64 0, .slice none 0 0] 52)
 have lW := (gis rW).1
 have lV := (gis rV).1
 obtain ⟨c0, c1, c2, c3, c4, c5, c6, c7, c8⟩ := bnbox ((bV.block _ lW).trans rW)
 have hbV := bW.trans (bV.mono bW.size)
 have hSu := fun (u : World) (hu : Below V.heap.size V u) => hS.below (hbV.trans (hu.mono hbV.size))
 have hres : ∀ u, Below V.heap.size V u -> u.heap[W.heap.size]? = some (.cells #[.string ⟨#[]⟩, .int .i64 0, .slice none 0 0] 52 (0, 0)) := fun u hu => (hu.block _ lV).trans rV
 have HS := Lib.hid hSu
 have HR := Lib.hid hres
 have hzW := bW.size
 obtain ⟨SA, k, sc, RA, rc, d, md, MA, mc⟩ := b
 unfold Bn.agg
 dsimp only [bnBox] at hW c0 c1 c3 c5 c8 hs h6
 dsimp only at HS
 clear rW rV hS hSu hres
 go_enter Tryz.func67, Tryz.ntmps67
 go_upto_region 1 with (fail)
 clear hW hV
 generalize hQ : W.heap.size = Q at *
 clear hQ
 go_wp2_with fail
 go_loopw [12] (fun i wr => ∃ j : Nat, j <= s /\ i = .int .i64 (j : Int) /\ Below V.heap.size V wr) (fun i _ => s - (intOf i).toNat)
 case atStart => exact ⟨0, by omega, rfl, Below.refl _ _⟩
 case round =>
  obtain ⟨j, hj, rfl, hb⟩ := hrel
  have hwsz := hb.size
  have HS2 := HS.out wr hb
  obtain ⟨b, o, rfl, hgb, e0, e1, e2, e3⟩ := sa_cells HS2 (show j < k by omega)
  have hlo : (0 : Int) <= (j : Int) := by omega
  have hhi : (j : Int) < (k : Int) := by omega
  go_upto_region 4 with (fail)
  obtain ⟨V2, hV2, b2, r2⟩ : ∃ V2, V2 = wr.alloc (.cells #[.int .i64 (j : Int), .string (bs nm), .int .i64 1, .slice (some ⟨x.b, 0, none⟩) 1 x.c] 58) /\ Below wr.heap.size wr V2 /\ V2.heap[wr.heap.size]? = some (.cells #[.int .i64 (j : Int), .string (bs nm), .int .i64 1, .slice (some ⟨x.b, 0, none⟩) 1 x.c] 58) :=
   ⟨_, rfl, (Below.refl _ _).alloc (Nat.le_refl _) _, heap_alloc_new wr _⟩
  rw [<- hV2]
  clear hV2
  have t0 : V2.cell? ⟨wr.heap.size, 0, none⟩ = some (.int .i64 (j : Int)) := by rw [cell_of_row _ _ _ _ _ _ r2]; rfl
  have t1 : V2.cell? ⟨wr.heap.size, 1, none⟩ = some (.string (bs nm)) := by rw [cell_of_row _ _ _ _ _ _ r2]; rfl
  have t2 : V2.cell? ⟨wr.heap.size, 2, none⟩ = some (.int .i64 1) := by rw [cell_of_row _ _ _ _ _ _ r2]; rfl
  have t3 : V2.cell? ⟨wr.heap.size, 3, none⟩ = some (.slice (some ⟨x.b, 0, none⟩) 1 x.c) := by rw [cell_of_row _ _ _ _ _ _ r2]; rfl
  have hb2 := hb.trans (b2.mono hwsz)
  have rq := HR.out V2 hb2
  have y0 := frozen_of_row V2 Q 0 _ _ rq
  have y1 := frozen_of_row V2 Q 1 _ _ rq
  have y2 := frozen_of_row V2 Q 2 _ _ rq
  have s0 : V2.cell? ⟨Q, 0, none⟩ = some (.string ⟨#[]⟩) := by rw [cell_of_row _ _ _ _ _ _ rq]; rfl
  have s1 : V2.cell? ⟨Q, 1, none⟩ = some (.int .i64 0) := by rw [cell_of_row _ _ _ _ _ _ rq]; rfl
  have s2 : V2.cell? ⟨Q, 2, none⟩ = some (.slice none 0 0) := by rw [cell_of_row _ _ _ _ _ _ rq]; rfl
  clear e0 e1 e2 e3 r2 rq
  by_cases hjs : j = s
  ·subst hjs
   have hfin := (((hbV.trans (hb2.mono hbV.size)).setCell (p := ⟨Q, 0, none⟩) hzW (.string (bs nm))).setCell (p := ⟨Q, 1, none⟩) hzW (.int .i64 1)).setCell (p := ⟨Q, 2, none⟩) hzW (.slice (some ⟨x.b, 0, none⟩) 1 x.c)
   go_wp2_with fail
   exact bodyPost_ret (v := .tuple #[x.agg nm, .bool true]) (by simp [results, Tryz.f67, go_sem, St.agg, s0, s1, s2]) rfl ⟨rfl, hfin⟩
  ·have hne : decide ((j : Int) = (s : Int)) = false := by simp; omega
   go_wp2_with fail
   go_roundw
   case rel => exact ⟨j + 1, by omega, by go_num, hb2⟩
   case measure => simp [intOf]; omega
end
section
theorem cidx_none (A : Option Addr) (c : Nat) (q w) : Calls Tryz.prog 110 #[.slice A 0 c, .func (.func 56) #[] #[q]] w fun e w' => e = .returned (.int .i64 (-1)) /\ Below w.heap.size w w' := by
 go_enter Tryz.func110, Tryz.ntmps110
 go_wp2_with fail
 refine wp_loop_rounds 1 ?_
 rw [rounds_succ]
 go_wp2_with fail
 go_ret
 exact ⟨rfl, Below.refl _ _⟩
theorem ccon_none (A : Option Addr) (c : Nat) (q w) : Calls Tryz.prog 55 #[.slice A 0 c, .func (.func 56) #[] #[q]] w fun e w' => e = .returned (.bool false) /\ Below w.heap.size w w' := by
 go_enter Tryz.func55, Tryz.ntmps55
 go_wp2_with fail
 refine (cidx_none A c q _).mono ?_
 rintro e w1 ⟨rfl, b1⟩
 go_wp2_with fail
 go_ret
 exact ⟨rfl, b1⟩
theorem gidx_none (A : Option Addr) (c : Nat) (q w) : Calls Tryz.prog 111 #[.slice A 0 c, .func (.func 58) #[] #[q]] w fun e w' => e = .returned (.int .i64 (-1)) /\ Below w.heap.size w w' := by
 go_enter Tryz.func111, Tryz.ntmps111
 go_wp2_with fail
 refine wp_loop_rounds 1 ?_
 rw [rounds_succ]
 go_wp2_with fail
 go_ret
 exact ⟨rfl, Below.refl _ _⟩
theorem gcon_none (A : Option Addr) (c : Nat) (q w) : Calls Tryz.prog 57 #[.slice A 0 c, .func (.func 58) #[] #[q]] w fun e w' => e = .returned (.bool false) /\ Below w.heap.size w w' := by
 go_enter Tryz.func57, Tryz.ntmps57
 go_wp2_with fail
 refine (gidx_none A c q _).mono ?_
 rintro e w1 ⟨rfl, b1⟩
 go_wp2_with fail
 go_ret
 exact ⟨rfl, b1⟩
theorem lets_nil (w : World) : Calls Tryz.prog 54 #[.slice none 0 0] w fun e w' => e = .returned (.tuple #[.slice none 0 0, .int .i64 0]) /\ Below w.heap.size w w' := by
 go_enter Tryz.func54, Tryz.ntmps54
 go_wp2_with fail
 refine wp_loop_rounds 1 ?_
 rw [rounds_succ]
 go_wp2_with fail
 go_ret2
 exact ⟨rfl, Below.refl _ _⟩
theorem version_ty {D : Sd} {x : Vs} {hi : Nat} {w : World} (h : VerR w hi D x) (hhi : hi <= w.heap.size) (h1 : Dim D.ci 1) (h4 : Dim (.leaf D.py) 4) (hw : Mt w) : Calls Tryz.prog 31 #[x.agg] w fun e w' => e = .returned (.int .i64 0) /\ Below w.heap.size w w' := by
 obtain ⟨W, hW, b, r⟩ := ver_new w x
 have hz := b.size
 have hWl := (gis r).1
 have row : ∀ (u : World), Below W.heap.size W u -> u.heap[w.heap.size]? = some (verBox x) := fun u hb => (hb.block _ hWl).trans r
 have rd : ∀ (u : World), Below W.heap.size W u -> VerR u hi D x := fun u hb => h.below ((b.trans (hb.mono hz)).mono hhi)
 have HR := Lib.hid row
 have HD := Lib.hid rd
 have H1 := Lib.hid h1
 have H4 := Lib.hid h4
 clear row rd h h1 h4
 obtain ⟨cA, cn, cc, gA, gc⟩ := x
 unfold Vs.agg
 dsimp only [verBox] at hW
 go_enter Tryz.func31, Tryz.ntmps31
 go_upto_region 1 with (fail)
 clear hW
 obtain ⟨c0, c1, c2, c3, c4, c5, c6, c7⟩ := verbox (x := ⟨cA, cn, cc, gA, gc⟩) r
 dsimp only at c3 c6
 go_wp2_with fail
 refine (lets_nil _).mono ?_
 rintro e w1 ⟨rfl, hb1⟩
 clear c0 c1 c2 c3 c4 c5 c6 c7
 obtain ⟨c0, c1, c2, c3, c4, c5, c6, c7⟩ := verbox (x := ⟨cA, cn, cc, gA, gc⟩) (HR.out _ hb1)
 dsimp only at c3 c6
 have hz1 := hb1.size
 go_upto_block 0 with (fail)
 go_cut [] from 29 to 39 (fun wx => Below W.heap.size W wx)
 case first =>
  rcases (HD.out _ hb1).cr with ⟨_, bc, rfl, rfl, h4, h5⟩ | ⟨_, rfl, rfl, rfl⟩
  ·dsimp only at h4 h5
   have hbl := h5.1
   have y0 := h5.2 0 _ rfl
   have y1 := h5.2 1 _ rfl
   go_wp2_with fail
   refine wp_loop_rounds 2 ?_
   rw [rounds_succ]
   go_upto_region 7 with (fail)
   obtain ⟨W2, hW2, b2, r2⟩ := box_new w1 (.cells #[.int .i64 6, .int .i64 0] 137)
   have hb2 := hb1.trans (b2.mono hb1.size)
   rw [hW2]
   clear hW2 c0 c1 c2 c3 c4 c5 c6 c7
   obtain ⟨_, _, _, c3, _⟩ := verbox (HR.out _ hb2)
   dsimp only at c3
   go_wp2_with fail
   refine (ccon_none _ _ _ _).mono ?_
   rintro e w3 ⟨rfl, b3⟩
   go_wp2_with fail
   rw [rounds_succ]
   go_wp2_with fail
   go_meet
   exact hb2.trans (b3.mono hb2.size)
  ·go_wp2_with fail
   refine wp_loop_rounds 1 ?_
   rw [rounds_succ]
   go_wp2_with fail
   go_meet
   exact hb1
 case rest =>
  have hb2 := hcut
  clear hcut c0 c1 c2 c3 c4 c5 c6 c7
  obtain ⟨c0, c1, c2, c3, c4, c5, c6, c7⟩ := verbox (x := ⟨cA, cn, cc, gA, gc⟩) (HR.out _ hb2)
  dsimp only at c3 c6
  go_wp2_with fail
  refine wp_loop_rounds 1 ?_
  rw [rounds_succ]
  go_wp2_with fail
  obtain ⟨gb, X, rfl, hgc, hgr, hX⟩ := (HD.out _ hb2).gr
  dsimp only at hgc
  have hgl := hgr.1
  have HX := Lib.hid hX
  obtain ⟨e0, ⟨e1, e2, e3, e4, e5, e6⟩, e7, e8, e9, e10, e11, e12⟩ := rz_gr hgr
  have hz2 := hb2.size
  obtain ⟨py, hpy⟩ : ∃ p, p = D.py := ⟨_, rfl⟩
  have HP := Lib.hid hpy
  rw [<- hpy] at e7 e8 e9 e10 e11
  clear hpy hgr hX
  obtain ⟨xo, xn, xd, xm, xs, xA, xk, xc⟩ := X
  obtain ⟨po, pn, pd, pm, ps⟩ := py
  dsimp only at e1 e2 e3 e4 e5 e6 e7 e8 e9 e10 e11
  refine wp_loop_rounds 2 ?_
  rw [rounds_succ]
  go_upto_region 19 with (fail)
  obtain ⟨W2, hW2, b2, r2⟩ := gr_new wc ⟨xo, xn, xd, xm, xs, xA, xk, xc⟩ ⟨po, pn, pd, pm, ps⟩
  dsimp only [grBox] at hW2
  rw [hW2]
  clear hW2
  have hbW2 : Below W.heap.size W W2 := hb2.trans (b2.mono hz2)
  have l2 := (gis r2).1
  have hgi : ∀ (u : World), Below W2.heap.size W2 u -> GrAt u wc.heap.size ⟨xo, xn, xd, xm, xs, xA, xk, xc⟩ ⟨po, pn, pd, pm, ps⟩ := fun u hb => grbox ((hb.block _ l2).trans r2)
  have hle : ∀ (u : World), Below W2.heap.size W2 u -> Below w.heap.size w u := fun u hb => b.trans ((hbW2.trans (hb.mono hbW2.size)).mono hz)
  have hxi : ∀ (u : World), Below W2.heap.size W2 u -> Calls Tryz.prog 59 #[.agg #[.int .i64 xo, .int .i64 xn, .int .i64 xd, .int .i64 xm, .string xs, .slice xA xk xc], .slice none 0 0, .int .i64 1] u fun e w' => e = .returned (.int .i64 0) /\ Below u.heap.size u w' := fun u hb =>
   of_ok (X := ⟨xo, xn, xd, xm, xs, xA, xk, xc⟩) H1.out (HX.out.below ((b2.trans (hb.mono b2.size)).mono (Nat.le_trans hhi (Nat.le_trans hz hz2)))) (Nat.le_trans hhi (hle _ hb).size) (hw.kp (hle _ hb))
  have hpi : ∀ (u : World), Below W2.heap.size W2 u -> Calls Tryz.prog 59 #[.agg #[.int .i64 po, .int .i64 pn, .int .i64 pd, .int .i64 pm, .string ps, .slice none 0 0], .slice none 0 0, .int .i64 4] u fun e w' => e = .returned (.int .i64 0) /\ Below u.heap.size u w' := fun u hb =>
   of_ok (t := .leaf ⟨po, pn, pd, pm, ps⟩) (X := ⟨po, pn, pd, pm, ps, none, 0, 0⟩) (hi := u.heap.size) (by rw [HP.out]; exact H4.out) rfl (Nat.le_refl _) (hw.kp (hle _ hb))
  have HGI := Lib.hid hgi
  have HXI := Lib.hid hxi
  have HPI := Lib.hid hpi
  clear hgi hxi hpi c0 c1 c2 c3 c4 c5 c6 c7 e0 e1 e2 e3 e4 e5 e6 e7 e8 e9 e10 e11 e12
  obtain ⟨_, _, _, _, _, _, c6, _⟩ := verbox (HR.out _ hbW2)
  dsimp only at c6
  go_wp2_with fail
  refine (gcon_none _ _ _ _).mono ?_
  rintro e w3 ⟨rfl, b3⟩
  obtain ⟨_, ⟨k1, k2, k3, k4, k5, k6⟩, _⟩ := HGI.out _ b3
  dsimp only at k1 k2 k3 k4 k5 k6
  go_wp2_with fail
  refine (HXI.out _ b3).mono ?_
  rintro e w4 ⟨rfl, b4⟩
  have bK4 := b3.trans (b4.mono b3.size)
  obtain ⟨_, _, n7, n8, n9, n10, n11, n12⟩ := HGI.out _ bK4
  dsimp only at n7 n8 n9 n10 n11
  go_wp2_with fail
  refine (HPI.out _ bK4).mono ?_
  rintro e w5 ⟨rfl, b5⟩
  have bK5 := bK4.trans (b5.mono bK4.size)
  have hb5 := hbW2.trans (bK5.mono hbW2.size)
  clear k1 k2 k3 k4 k5 k6 n7 n8 n9 n10 n11 n12 c6
  obtain ⟨_, _, _, _, _, _, _, c7⟩ := verbox (HR.out _ hb5)
  go_wp2_with fail
  rw [rounds_succ]
  go_wp2_with fail
  refine wp_loop_rounds 1 ?_
  rw [rounds_succ]
  go_wp2_with fail
  go_ret
  exact ⟨rfl, b.trans (hb5.mono hz)⟩
end
section
theorem stat_valid {D : Sd} {nm : By} (hn : Nm nm) {x : St} {hi : Nat} {w : World} (h : StR w hi D x) (hhi : hi <= w.heap.size) (hD : D.Ok) (hw : Mt w) : Calls Tryz.prog 30 #[x.agg nm] w fun e w' => e = .returned (.bool true) /\ Below w.heap.size w w' := by
 obtain ⟨W, hW, b, r⟩ := st_new w nm x
 have hz := b.size
 obtain ⟨hc1, v, hr, hv⟩ := h.below (b.mono hhi)
 obtain ⟨e0, e1, e2, e3, e4, e5, e6, e7⟩ := rz_ver hr
 have hbl := hr.1
 have hin := fun u => isname_ok (bs nm) nm rfl hn u
 have hV := fun W2 (b2 : Below W.heap.size W W2) => version_valid (hv.below (b2.mono (Nat.le_trans hhi hz))) (Nat.le_trans hhi (Nat.le_trans hz b2.size)) hD (hw.kp (b.trans (b2.mono hz)))
 have HV := Lib.hid hV
 clear hV hv hr h
 obtain ⟨g0, g1, g2⟩ := stbox r
 obtain ⟨xb, xc⟩ := x
 obtain ⟨cA, cn, cc, gA, gc⟩ := v
 unfold St.agg
 dsimp only [stBox] at hW g0 g1 g2 e3 e6 hc1
 generalize bs nm = S at *
 go_enter Tryz.func30, Tryz.ntmps30
 go_upto_region 1 with (fail)
 clear hW
 go_wp2_with fail
 refine (hin _).mono ?_
 rintro e w1 ⟨rfl, rfl⟩
 go_wp2_with fail
 refine wp_loop_rounds 2 ?_
 rw [rounds_succ]
 go_upto_region 6 with (fail)
 obtain ⟨W2, hW2, b2, r2⟩ := ver_new W ⟨cA, cn, cc, gA, gc⟩
 obtain ⟨k0, k1, k2, k3, k4, k5, k6, k7⟩ := verbox (x := ⟨cA, cn, cc, gA, gc⟩) r2
 dsimp only [verBox] at hW2 k3 k6
 rw [hW2]
 clear hW2 g0 g1 g2 e0 e1 e2 e3 e4 e5 e6 e7
 have hV := HV.out W2 b2
 unfold Vs.agg at hV
 go_wp2_with fail
 refine hV.mono ?_
 rintro e w3 ⟨rfl, b3⟩
 go_wp2_with fail
 rw [rounds_succ]
 go_wp2_with fail
 go_ret
 exact ⟨rfl, b.trans ((b2.trans (b3.mono b2.size)).mono hz)⟩
theorem statute_ty {D : Sd} {nm : By} (hn : Nm nm) {x : St} {hi : Nat} {w : World} (h : StR w hi D x) (hhi : hi <= w.heap.size) (h1 : Dim D.ci 1) (h4 : Dim (.leaf D.py) 4) (hw : Mt w) : Calls Tryz.prog 19 #[x.agg nm] w fun e w' => e = .returned (.tuple #[.int .i64 0, .int .i64 0]) /\ Below w.heap.size w w' := by
 obtain ⟨W, hW, b, r⟩ := st_new w nm x
 have hz := b.size
 have hV0 := stat_valid hn (h.below (b.mono hhi)) (Nat.le_trans hhi hz) ⟨h1.ok, h4.ok⟩ (hw.kp b)
 have hh := fun u (hb : Below w.heap.size w u) => h.below (hb.mono hhi)
 have HH := Lib.hid hh
 have H1 := Lib.hid h1
 have H4 := Lib.hid h4
 clear hh h h1 h4
 obtain ⟨g0, g1, g2⟩ := stbox r
 obtain ⟨xb, xc⟩ := x
 unfold St.agg at hV0 ⊢
 dsimp only [stBox] at hW g0 g1 g2 hV0
 generalize bs nm = S at *
 go_enter Tryz.func19, Tryz.ntmps19
 go_upto_region 1 with (fail)
 clear hW
 go_wp2_with fail
 refine hV0.mono ?_
 rintro e w1 ⟨rfl, b1⟩
 have hb1 := b.trans (b1.mono hz)
 have hz1 := hb1.size
 have r1 := (b1.block w.heap.size (gis r).1).trans r
 clear g0 g1 g2
 have g2 : w1.cell? ⟨w.heap.size, 2, none⟩ = some (.slice (some ⟨xb, 0, none⟩) 1 xc) := by rw [cell_of_row _ _ _ _ _ _ r1]; rfl
 obtain ⟨hc1, v, hr, hv⟩ := HH.out w1 hb1
 obtain ⟨e0, e1, e2, e3, e4, e5, e6, e7⟩ := rz_ver hr
 have hbl := hr.1
 have hV := fun W2 (b2 : Below w1.heap.size w1 W2) k => version_ty (w := W2.drewN k) ((hv.below (b2.mono (Nat.le_trans hhi hz1))).below (below_to_drewN (Below.refl _ _) k)) (Nat.le_trans hhi (Nat.le_trans hz1 b2.size)) H1.out H4.out ((hw.kp (hb1.trans (b2.mono hz1))).kp (below_to_drewN (Below.refl _ _) k))
 have HV := Lib.hid hV
 clear hV hv hr
 obtain ⟨cA, cn, cc, gA, gc⟩ := v
 dsimp only at hc1 e3 e6 hbl
 go_wp2_with fail
 refine wp_loop_rounds 2 ?_
 rw [rounds_succ]
 go_upto_region 6 with (fail)
 obtain ⟨W2, hW2, b2, r2⟩ := ver_new w1 ⟨cA, cn, cc, gA, gc⟩
 obtain ⟨k0, k1, k2, k3, k4, k5, k6, k7⟩ := verbox (x := ⟨cA, cn, cc, gA, gc⟩) r2
 dsimp only [verBox] at hW2 k3 k6
 rw [hW2]
 clear hW2 g2 e0 e1 e2 e3 e4 e5 e6 e7
 have hV := HV.out W2 b2
 unfold Vs.agg at hV
 go_quiet (fail)
 go_wp2_with fail
 refine (hV _).mono ?_
 rintro e w3 ⟨rfl, b3⟩
 go_wp2_with fail
 rw [rounds_succ]
 go_wp2_with fail
 go_ret2
 exact ⟨rfl, hb1.trans (((below_to_drewN b2 _).trans (b3.mono b2.size)).mono hz1)⟩
end
section
abbrev crBox : Obj := .cells #[.int .i64 6, .int .i64 0] 137
theorem crd1_ok {k : Int} {q : Nat} {w : World} (hq : w.cell? ⟨q, 0, none⟩ = some (.int .i64 k)) (hl : q < w.heap.size) : Calls Tryz.prog 226 #[.agg #[.int .i64 6, .int .i64 0], .pointer (some ⟨q, 0, none⟩)] w fun r w' => r = .returned (.bool (decide (6 = k))) /\ Below w.heap.size w w' := by
 obtain ⟨W, hW, b, r⟩ := box_new w crBox
 have s0 : W.cell? ⟨w.heap.size, 0, none⟩ = some (.int .i64 6) := by rw [cell_of_row _ _ _ _ _ _ r]; rfl
 have hq2 : W.cell? ⟨q, 0, none⟩ = some (.int .i64 k) := by rw [b.cell (by exact hl)]; exact hq
 go_enter Tryz.func226, Tryz.ntmps226
 dsimp only [crBox] at hW
 go_upto_region 1 with (fail)
 clear hW
 go_wp2_with fail
 go_ret
 exact ⟨rfl, b⟩
theorem crx_none (q : Nat) (w : World) : Calls Tryz.prog 110 #[.slice none 0 0, .func (.func 226) #[] #[.pointer (some ⟨q, 0, none⟩)]] w fun r w' => r = .returned (.int .i64 (-1)) /\ Below w.heap.size w w' := by
 go_enter Tryz.func110, Tryz.ntmps110
 go_wp2_with fail
 refine wp_loop_rounds 1 ?_
 rw [rounds_succ]
 go_wp2_with fail
 go_ret
 exact ⟨rfl, Below.refl _ _⟩
theorem cidx_one {k : Int} {q g c hi : Nat} {w : World} (hq : w.cell? ⟨q, 0, none⟩ = some (.int .i64 k)) (hl : q < w.heap.size) (hc : 1 <= c) (hR : Rz w hi g [.int .i64 6, .int .i64 0]) : Calls Tryz.prog 110 #[.slice (some ⟨g, 0, none⟩) 1 c, .func (.func 226) #[] #[.pointer (some ⟨q, 0, none⟩)]] w fun r w' => r = .returned (.int .i64 (if 6 = k then 0 else -1)) /\ Below w.heap.size w w' := by
 have hg1 := crd1_ok hq hl
 have e0 := hR.2 0 _ rfl
 have e1 := hR.2 1 _ rfl
 clear hR
 obtain ⟨q2, hq2⟩ : ∃ b, decide (6 = k) = b := ⟨_, rfl⟩
 rw [hq2] at hg1
 go_enter Tryz.func110, Tryz.ntmps110
 go_wp2_with fail
 refine wp_loop_rounds 2 ?_
 rw [rounds_succ]
 go_wp2_with fail
 refine hg1.mono ?_
 rintro e w1 ⟨rfl, b1⟩
 cases q2
 ·have h6 : ¬ (6 = k) := of_decide_eq_false hq2
  go_wp2_with fail
  rw [rounds_succ]
  go_wp2_with fail
  go_ret
  exact ⟨by first | rfl | (rw [if_neg h6]; rfl), b1⟩
 ·have h6 : 6 = k := of_decide_eq_true hq2
  go_wp2_with fail
  go_ret
  exact ⟨by first | rfl | (rw [if_pos h6]; rfl), b1⟩
theorem credit_ok {D : Sd} {x : Vs} {hi : Nat} {w : World} (h : VerR w hi D x) (hhi : hi <= w.heap.size) (k : Int) : Calls Tryz.prog 181 #[x.agg, .int .i64 k] w fun r w' => r = .returned (.tuple #[.int .i64 0, .bool (D.cr && decide (6 = k))]) /\ Below w.heap.size w w' := by
 obtain ⟨W, hW, b, r⟩ := ver_new w x
 obtain ⟨V, hV, c, s⟩ := box_new W (.cells #[.int .i64 k] 3)
 have lW := (gis r).1
 have lV := (gis s).1
 have hb := b.trans (c.mono b.size)
 have r2 := (c.block _ lW).trans r
 have hbx : ∀ u, Below V.heap.size V u -> u.heap[w.heap.size]? = some (verBox x) := fun u hu => (hu.block _ (by omega)).trans r2
 have hq : V.cell? ⟨W.heap.size, 0, none⟩ = some (.int .i64 k) := by rw [cell_of_row _ _ _ _ _ _ s]; rfl
 have hcr := (h.below (hb.mono hhi)).cr
 have HB := Lib.hid hbx
 obtain ⟨c0, c1, c2, c3, c4, c5, c6, c7⟩ := verbox (hbx V (Below.refl _ _))
 clear hbx h
 obtain ⟨cA, cn, cc, gA, gc⟩ := x
 unfold Vs.agg
 dsimp only [verBox] at hW c3 c6 hcr
 obtain ⟨dc, hdc⟩ : ∃ b, D.cr = b := ⟨_, rfl⟩
 rw [hdc] at hcr ⊢
 clear hdc
 go_enter Tryz.func181, Tryz.ntmps181
 go_upto_region 1 with (fail)
 clear hW hV
 rcases hcr with ⟨rfl, b', rfl, rfl, h3, h5⟩ | ⟨rfl, rfl, rfl, rfl⟩
 ·have hi1 := cidx_one hq (by omega) h3 h5
  have hgl := h5.1
  go_wp2_with fail
  refine hi1.mono ?_
  rintro e w1 ⟨rfl, b1⟩
  clear hi1 c0 c1 c2 c3 c4 c5 c6 c7
  have e1 := (h5.below (b1.mono (Nat.le_trans hhi hb.size))).2 1 _ rfl
  obtain ⟨c0, c1, c2, c3, c4, c5, c6, c7⟩ := verbox (HB.out _ b1)
  dsimp only at c3
  by_cases h6 : 6 = k
  ·rw [if_pos h6]
   go_wp2_with fail
   go_ret2
   exact ⟨by first | rfl | simp [h6], hb.trans (b1.mono hb.size)⟩
  ·rw [if_neg h6]
   go_wp2_with fail
   go_ret2
   exact ⟨by first | rfl | simp [h6], hb.trans (b1.mono hb.size)⟩
 ·go_wp2_with fail
  refine (crx_none _ _).mono ?_
  rintro e w1 ⟨rfl, b1⟩
  go_wp2_with fail
  go_ret2
  exact ⟨by first | rfl | simp, hb.trans (b1.mono hb.size)⟩
end
section
theorem div64_ok (x y : Nat) (hx : x < 18446744073709551616) (hy : 1 <= y) (hy2 : y < 18446744073709551616) (w : World) : Calls Tryz.prog 150 #[.int .u64 0, .int .u64 (x : Int), .int .u64 (y : Int)] w fun e w' => e = .returned (.tuple #[.int .u64 ((x / y : Nat) : Int), .int .u64 ((x % y : Nat) : Int)]) /\ Below w.heap.size w w' := by
 have d1 : ((y : Int) == 0) = false := beq_eq_false_iff_ne.2 (by omega)
 have d2 : decide ((y : Int) <= 0) = false := decide_eq_false (by omega)
 have m1 : x / y <= x := Nat.div_le_self _ _
 have m2 : x % y < y := Nat.mod_lt _ (by omega)
 have m3 : (x : Int) / (y : Int) <= (x : Int) := Int.ediv_le_self _ (by omega)
 have m4 : 0 <= (x : Int) / (y : Int) := Int.ediv_nonneg (by omega) (by omega)
 have m5 : IntKind.u64.wrap ((x : Int) / (y : Int)) = (x : Int) / (y : Int) := by
  unfold IntKind.wrap
  simp [go_sem, IntKind.signed]
  omega
 go_enter Tryz.func150, Tryz.ntmps150
 go_upto_region 6 with (fail)
 go_quiet (fail)
 go_wp2_with fail
 go_ret2
 exact ⟨rfl, below_to_drewN (Below.refl _ _) _⟩
abbrev rdBox : Obj := .cells #[.int .i64 1, .int .i64 1] 80
theorem rd_new (w : World) : ∃ W, w.alloc rdBox = W /\ Below w.heap.size w W /\ W.heap[w.heap.size]? = some rdBox :=
 ⟨_, rfl, (Below.refl _ _).alloc (Nat.le_refl _) _, heap_alloc_new w _⟩
theorem rdbox {W : World} {g : Nat} (hr : W.heap[g]? = some rdBox) : W.cell? ⟨g, 0, none⟩ = some (.int .i64 1) /\ W.cell? ⟨g, 1, none⟩ = some (.int .i64 1) := by
 refine ⟨?_, ?_⟩ <;> rw [cell_of_row _ _ _ _ _ _ hr] <;> rfl
theorem divide_ok (x y : Nat) (hx : x <= 1000000000000000) (hy : 1 <= y) (hy2 : y <= 1000000000) (hq : x / y <= 1000000000000) (w : World) : Calls Tryz.prog 89 #[.bool false, .int .u64 0, .int .u64 (x : Int), .int .u64 (y : Int), .agg #[.int .i64 1, .int .i64 1]] w fun e w' => e = .returned (.tuple #[.int .i64 ((x / y : Nat) : Int), .int .i64 0]) /\ Below w.heap.size w w' := by
 obtain ⟨W, hW, b, r⟩ := rd_new w
 obtain ⟨f0, f1⟩ := rdbox r
 dsimp only [rdBox] at hW
 have hd := fun u => div64_ok x y (by omega) hy (by omega) u
 have d2 : decide ((y : Int) <= 0) = false := decide_eq_false (by omega)
 obtain ⟨q, hq2⟩ : ∃ q, x / y = q := ⟨_, rfl⟩
 obtain ⟨t, ht⟩ : ∃ t, x % y = t := ⟨_, rfl⟩
 rw [hq2] at hd hq ⊢
 rw [ht] at hd
 have d3 : decide ((2000000000000 : Int) < (q : Int)) = false := decide_eq_false (by omega)
 have d4 : decide ((1000000000000 : Int) < (q : Int)) = false := decide_eq_false (by omega)
 have d5 : decide ((q : Int) < -1000000000000) = false := decide_eq_false (by omega)
 clear hq2 ht
 go_enter Tryz.func89, Tryz.ntmps89
 go_upto_region 1 with (fail)
 clear hW
 go_wp2_with fail
 refine (hd _).mono ?_
 rintro e w1 ⟨rfl, b1⟩
 have r1 := (b1.block _ (gis r).1).trans r
 clear f0 f1
 obtain ⟨f0, f1⟩ := rdbox r1
 go_wp2_with fail
 go_ret2
 exact ⟨rfl, b.trans (b1.mono b.size)⟩
theorem validrd_ok (w : World) : Calls Tryz.prog 86 #[.agg #[.int .i64 1, .int .i64 1]] w fun e w' => e = .returned (.bool true) /\ Below w.heap.size w w' := by
 obtain ⟨W, hW, b, r⟩ := rd_new w
 obtain ⟨f0, f1⟩ := rdbox r
 dsimp only [rdBox] at hW
 go_enter Tryz.func86, Tryz.ntmps86
 go_upto_region 1 with (fail)
 clear hW
 go_wp2_with fail
 go_ret
 exact ⟨rfl, b⟩
theorem msize_ok (n : Int) (h0 : 0 <= n) (h1 : n <= 1000000000000000) (w : World) : Calls Tryz.prog 88 #[.int .i64 n] w fun e w' => e = .returned (.int .u64 n) /\ w' = w := by
 have d1 : decide (n < 0) = false := decide_eq_false (by omega)
 go_enter Tryz.func88, Tryz.ntmps88
 go_wp2_with fail
 go_ret
 exact ⟨rfl, rfl⟩
theorem round_ok (x : Nat) (hx : x <= 1000000000) (w : World) : Calls Tryz.prog 84 #[.agg #[.int .i64 (x : Int), .int .i64 1], .agg #[.int .i64 1, .int .i64 1]] w fun e w' => e = .returned (.tuple #[.int .i64 (x : Int), .int .i64 0]) /\ Below w.heap.size w w' := by
 obtain ⟨W, hW, b, r⟩ := fr_new w (x : Int) 1
 obtain ⟨V, hV, c, s⟩ := rd_new W
 have lw := (gis r).1
 have lW := (gis s).1
 have hb := b.trans (c.mono b.size)
 have row : ∀ (u : World), Below V.heap.size V u -> (u.cell? ⟨w.heap.size, 0, none⟩ = some (.int .i64 (x : Int)) /\ u.cell? ⟨w.heap.size, 1, none⟩ = some (.int .i64 1)) /\ u.cell? ⟨W.heap.size, 0, none⟩ = some (.int .i64 1) /\ u.cell? ⟨W.heap.size, 1, none⟩ = some (.int .i64 1) := fun u hu =>
  ⟨fbox ((hu.block _ (Nat.lt_of_lt_of_le lw c.size)).trans ((c.block _ lw).trans r)), rdbox ((hu.block _ lW).trans s)⟩
 have HR := Lib.hid row
 have hv1 := fun u => validP_ok x 1 (by omega) (by omega) (by omega) (Nat.gcd_one_right x) u
 have hs1 := fun u => msize_ok (x : Int) (by omega) (by omega) u
 have hd1 : ∀ u, Calls Tryz.prog 89 #[.bool false, .int .u64 0, .int .u64 (x : Int), .int .u64 (IntKind.u64.wrap 1), .agg #[.int .i64 1, .int .i64 1]] u fun e w' => e = .returned (.tuple #[.int .i64 (x : Int), .int .i64 0]) /\ Below u.heap.size u w' := fun u => by
  have := divide_ok x 1 (by omega) (by omega) (by omega) (by rw [Nat.div_one]; omega) u
  rwa [Nat.div_one] at this
 have q1 : decide ((x : Int) < 0) = false := decide_eq_false (by omega)
 obtain ⟨⟨f0, f1⟩, g0, g1⟩ := row V (Below.refl _ _)
 clear row
 dsimp only [fBox, rdBox] at hW hV
 go_enter Tryz.func84, Tryz.ntmps84
 go_upto_region 1 with (fail)
 clear hW hV
 go_wp2_with fail
 refine (hv1 _).mono ?_
 rintro e w1 ⟨rfl, b1⟩
 clear f0 f1 g0 g1
 obtain ⟨⟨f0, f1⟩, g0, g1⟩ := HR.out w1 b1
 go_wp2_with fail
 refine (validrd_ok _).mono ?_
 rintro e w2 ⟨rfl, b2⟩
 have hb2 := b1.trans (b2.mono b1.size)
 clear f0 f1 g0 g1
 obtain ⟨⟨f0, f1⟩, g0, g1⟩ := HR.out w2 hb2
 go_upto_region 3 with (fail)
 go_region_held3 (fun w' => (w'.cell? ⟨w.heap.size, 0, none⟩ = some (.int .i64 (x : Int)) /\ w'.cell? ⟨w.heap.size, 1, none⟩ = some (.int .i64 1)) /\ w'.cell? ⟨W.heap.size, 0, none⟩ = some (.int .i64 1) /\ w'.cell? ⟨W.heap.size, 1, none⟩ = some (.int .i64 1)) (exact HR.out _ (by first | exact hb2 | exact hb2.drew | exact hb3)) (first
  | (go_at_call 88; (with_reducible refine (hs1 _).mono ?_); rintro e w3 ⟨rfl, rfl⟩)
  | (go_at_call 89; (with_reducible refine (hd1 _).mono ?_); rintro e w3 ⟨rfl, b3⟩
     have hb3 : Below V.heap.size V w3 := hb2.drew.trans (b3.mono hb2.size)))
 all_goals
  go_wp2_with fail
  go_ret2
  exact ⟨rfl, hb.trans (hb3.mono hb.size)⟩
theorem share_ok (x n d : Nat) (hx : x <= 1000000) (hn : n <= 73049) (hd : 1 <= d) (hd2 : d <= 73049) (hnd : n <= d) (w : World) : Calls Tryz.prog 41 #[.agg #[.int .i64 (x : Int), .int .i64 1], .int .i64 (n : Int), .int .i64 (d : Int), .agg #[.int .i64 1, .int .i64 1]] w fun e w' => e = .returned (.tuple #[.int .i64 ((x * n / d : Nat) : Int), .int .i64 0]) /\ Below w.heap.size w w' := by
 obtain ⟨W, hW, b, r⟩ := fr_new w (x : Int) 1
 obtain ⟨V, hV, c, s⟩ := rd_new W
 have lw := (gis r).1
 have lW := (gis s).1
 have hb := b.trans (c.mono b.size)
 have row : ∀ (u : World), Below V.heap.size V u -> (u.cell? ⟨w.heap.size, 0, none⟩ = some (.int .i64 (x : Int)) /\ u.cell? ⟨w.heap.size, 1, none⟩ = some (.int .i64 1)) /\ u.cell? ⟨W.heap.size, 0, none⟩ = some (.int .i64 1) /\ u.cell? ⟨W.heap.size, 1, none⟩ = some (.int .i64 1) := fun u hu =>
  ⟨fbox ((hu.block _ (Nat.lt_of_lt_of_le lw c.size)).trans ((c.block _ lw).trans r)), rdbox ((hu.block _ lW).trans s)⟩
 have HR := Lib.hid row
 have hxn : x * n <= 1000000 * 73049 := Nat.mul_le_mul hx hn
 have hv1 := fun u => validP_ok x 1 (by omega) (by omega) (by omega) (Nat.gcd_one_right x) u
 have hs1 := fun u => msize_ok (x : Int) (by omega) (by omega) u
 have hm := fun u => Tryz.bits_Mul64 x n (by omega) (by omega) u
 rw [Nat.div_eq_of_lt (by omega), Nat.mod_eq_of_lt (by omega)] at hm
 have hdv := fun u => divide_ok (x * n) d (by omega) hd (by omega) (Nat.le_trans (Nat.div_le_self _ _) (by omega)) u
 obtain ⟨p, hp⟩ : ∃ p, x * n = p := ⟨_, rfl⟩
 rw [hp] at hm hdv ⊢
 obtain ⟨q, hq⟩ : ∃ q, p / d = q := ⟨_, rfl⟩
 rw [hq] at hdv ⊢
 clear hp hq hxn
 have q1 : decide ((x : Int) < 0) = false := decide_eq_false (by omega)
 have q2 : decide ((n : Int) < 0) = false := decide_eq_false (by omega)
 have q3 : decide ((73049 : Int) < (n : Int)) = false := decide_eq_false (by omega)
 have q4 : decide ((d : Int) < 1) = false := decide_eq_false (by omega)
 have q5 : decide ((73049 : Int) < (d : Int)) = false := decide_eq_false (by omega)
 obtain ⟨⟨f0, f1⟩, g0, g1⟩ := row V (Below.refl _ _)
 clear row
 dsimp only [fBox, rdBox] at hW hV
 go_enter Tryz.func41, Tryz.ntmps41
 go_upto_region 1 with (fail)
 clear hW hV
 go_wp2_with fail
 refine (hv1 _).mono ?_
 rintro e w1 ⟨rfl, b1⟩
 clear f0 f1 g0 g1
 obtain ⟨⟨f0, f1⟩, g0, g1⟩ := HR.out w1 b1
 go_wp2_with fail
 refine (validrd_ok _).mono ?_
 rintro e w2 ⟨rfl, b2⟩
 have hb2 := b1.trans (b2.mono b1.size)
 clear f0 f1 g0 g1
 obtain ⟨⟨f0, f1⟩, g0, g1⟩ := HR.out w2 hb2
 go_wp2_with fail
 refine (hs1 _).mono ?_
 rintro e w3 ⟨rfl, rfl⟩
 go_wp2_with fail
 refine (hm _).mono ?_
 rintro e w3 ⟨rfl, rfl⟩
 go_wp2_with fail
 refine (hdv _).mono ?_
 rintro e w3 ⟨rfl, b3⟩
 go_wp2_with fail
 go_ret2
 exact ⟨rfl, hb.trans ((hb2.trans (b3.mono hb2.size)).mono hb.size)⟩
end
end Go.Proofs.YtnlopdmhdiegnaaGreatDoor
