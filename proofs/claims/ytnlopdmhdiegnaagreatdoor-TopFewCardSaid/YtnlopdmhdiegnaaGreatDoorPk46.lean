/- Lemmas (no conditions): Bng -/
import Derived.Test.YtnlopdmhdiegnaaGreatDoorPk45
import Derived.Test.YtnlopdmhdiegnaaGreatDoorSx
set_option linter.unusedSimpArgs false
set_option linter.unusedVariables false
set_option maxRecDepth 100000
set_option maxHeartbeats 64000000
namespace Go.Proofs.YtnlopdmhdiegnaaGreatDoor
open Go.RowKit
section
theorem info_award : (Tryz.prog.info? 43).map (fun i => (i.zero, i.size, i.bytes)) = some (some (.agg #[.int .i64 0, .int .i64 0, .int .i64 0, .int .i64 0, .bool false, .int .i64 0, .int .i64 0, .int .i64 0, .int .i64 0, .int .i64 0, .int .i64 0, .slice none 0 0]), 12, 112) := by kernel_rfl
theorem of_award {b : Bn} {x : St} {nm : By} {cr : Bool} {N M n c d s : Nat} {rv : Rv} {A : Option Addr} {L : List Fc} {ws : List Sp} {w : World} (hP : Pur b nm N M n L ws rv d) (hI : Inp w w.heap.size b x nm cr N M rv A n L) (hs : s < b.k) (hw : Mt w) :
  Calls Tryz.prog 13 #[.agg #[.slice b.SA b.k b.sc, .slice b.RA 1 b.rc, .slice none 0 0], .slice A n c, .int .i64 (s : Int), .int .i64 1, .int .i64 (d : Int)] w fun e w' => (∃ XA xc, e = .returned (.agg (awdC ws b.md N M d (s, XA, xc)).toArray)) /\ Below w.heap.size w w' := by
 obtain ⟨W, hW, bW, rW⟩ := lw_new w b.SA b.k b.sc b.RA b.rc
 obtain ⟨V, hV, bV, rV⟩ := box_new W (awBox 0 0 0 false 0 0 0 0 0 0 none 0 0)
 obtain ⟨U, hU, bU, rU⟩ := box_new V (awBox s 1 d false 0 0 0 0 0 0 none 0 0)
 have lW := (gis rW).1
 have lV := (gis rV).1
 have lU := (gis rU).1
 have hzW := bW.size
 have hzV := bV.size
 have hzU := bU.size
 have bWV := bW.trans (bV.mono hzW)
 have bWU := bWV.trans (bU.mono (lTr hzW hzV))
 have rWU := (bU.block _ (lLt lW hzV)).trans ((bV.block _ lW).trans rW)
 have rVU := (bU.block _ lV).trans rV
 have hop := open_ok hP (hI.to bWU) (hw.kp bWU)
 have h4 : 4 <= w.heap.size := hw.four
 have HF := hID (fun (u : World) (hu : Below w.heap.size w u) (MA : Option Addr) (mc : Nat) (hM : u.ownsRow (V.heap.size + 1) 3 1 (.slice MA b.k mc) b.k (ints (sts b.k))) (hR : u.heap[V.heap.size]? = some (awBox s 1 d false 0 0 0 0 0 0 none 0 0)) =>
  fill_ok (b := ⟨b.SA, b.k, b.sc, b.RA, b.rc, (d : Int), b.md, MA, mc⟩) (R := V.heap.size) (c := c) (w := u)
   (⟨hP.k0, hP.k6, hP.nm, hP.hN, hP.hM, hP.ru, hP.rm, hP.rd, rfl, hP.d3, hP.hl, hP.hW, hP.hw, hP.hk, hP.hwd⟩ : Pur ⟨b.SA, b.k, b.sc, b.RA, b.rc, (d : Int), b.md, MA, mc⟩ nm N M n L ws rv d)
   (⟨(hI.S.below hu).mono (lTr hzW hzV), (hI.T.below hu).mono (lTr hzW hzV), (hI.R.below hu).mono (lTr hzW hzV), (hI.L.below hu).mono (lTr hzW hzV)⟩ : Inp u V.heap.size ⟨b.SA, b.k, b.sc, b.RA, b.rc, (d : Int), b.md, MA, mc⟩ x nm cr N M rv A n L)
   hM hs (hw.kp hu) hR (by omega))
 clear hI hP hw
 obtain ⟨SA, k, sc, RA, rc, d0, md, MA0, mc0⟩ := b
 dsimp only [lwBox, awBox] at hW hV hU hop HF hs ⊢
 unfold Bn.agg at hop HF
 dsimp only at hop HF
 have HU := hID hU
 clear hU
 go_enter Tryz.func13, Tryz.ntmps13
 go_upto_region 2 with (fail)
 rw [HU.out]
 clear hW hV HU
 obtain ⟨c0, c1, c2⟩ := lwbox rWU
 go_wp2_with fail
 refine hop.mono ?_
 rintro e w1 ⟨MA, mc, rfl, ho1, b1⟩
 clear hop c0 c1 c2
 have hb1 := bWU.trans (b1.mono (lTr hzW (lTr hzV hzU)))
 have rR1 := (b1.block _ lU).trans rU
 have rZ1 := (b1.block _ (lLt lV hzU)).trans rVU
 have hz1 := b1.size
 go_upto_region 3 with (fail)
 obtain ⟨X, hX, pX, rX⟩ := bn_new w1 ⟨SA, k, sc, RA, rc, (d : Int), md, MA, mc⟩
 dsimp only [bnBox] at hX
 rw [hX]
 clear hX
 have lX := (gis rX).1
 obtain ⟨c0, c1, c2, c3, c4, c5, c6, c7, c8⟩ := bnbox rX
 have hbX := hb1.trans (pX.mono hb1.size)
 have hoX : X.ownsRow (V.heap.size + 1) 3 1 (.slice MA k mc) k (ints (sts k)) := own_baseI (own_underF ho1 pX) (by omega)
 have rRX := (pX.block _ (lLt lU hz1)).trans rR1
 have rZX := (pX.block _ (lLt lV (lTr hzU hz1))).trans rZ1
 have hfi := HF.out X hbX MA mc hoX rRX
 go_wp2_with fail
 refine hfi.mono ?_
 rintro e w2 ⟨rfl, ⟨XA, xc, rR2⟩, k2⟩
 clear hfi c0 c1 c2 c3 c4 c5 c6 c7 c8
 have rZ2 := k2.at rZX (by omega)
 have hb2 : Below w.heap.size w w2 := hbX.trans (k2.bel (by omega) (gis rRX).1)
 obtain ⟨⟨v0, v1, v2, v3⟩, ⟨v4, v5, v6, v7⟩, v8, v9, v10, v11⟩ := awbox rR2
 have HR2 := hID k2
 obtain ⟨F, hF⟩ : ∃ F, ((((((((((((w2.setCell ⟨W.heap.size, 0, none⟩ (.int .i64 (s : Int))).setCell ⟨W.heap.size, 1, none⟩ (.int .i64 1)).setCell ⟨W.heap.size, 2, none⟩ (.int .i64 (d : Int))).setCell ⟨W.heap.size, 3, none⟩ (.int .i64 0)).setCell ⟨W.heap.size, 4, none⟩ (.bool (fW ws md s))).setCell ⟨W.heap.size, 5, none⟩ (.int .i64 (aI ws md N M s))).setCell ⟨W.heap.size, 6, none⟩ (.int .i64 (aT ws md N M s))).setCell ⟨W.heap.size, 7, none⟩ (.int .i64 (aP ws md N M s))).setCell ⟨W.heap.size, 8, none⟩ (.int .i64 (frW ws md s).1)).setCell ⟨W.heap.size, 9, none⟩ (.int .i64 (frW ws md s).2)).setCell ⟨W.heap.size, 10, none⟩ (.int .i64 (aA ws md N M s))).setCell ⟨W.heap.size, 11, none⟩ (.slice XA (aS ws md N M s) xc)) = F := ⟨_, rfl⟩
 obtain ⟨rF, kF⟩ := setCells_at (vs := [.int .i64 (s : Int), .int .i64 1, .int .i64 (d : Int), .int .i64 0, .bool (fW ws md s), .int .i64 (aI ws md N M s), .int .i64 (aT ws md N M s), .int .i64 (aP ws md N M s), .int .i64 (frW ws md s).1, .int .i64 (frW ws md s).2, .int .i64 (aA ws md N M s), .slice XA (aS ws md N M s) xc]) rZ2 rfl
 have hFF : w2.setCells W.heap.size 0 [.int .i64 (s : Int), .int .i64 1, .int .i64 (d : Int), .int .i64 0, .bool (fW ws md s), .int .i64 (aI ws md N M s), .int .i64 (aT ws md N M s), .int .i64 (aP ws md N M s), .int .i64 (frW ws md s).1, .int .i64 (frW ws md s).2, .int .i64 (aA ws md N M s), .slice XA (aS ws md N M s) xc] = F := hF
 rw [hFF] at rF kF
 have hbF : Below w.heap.size w F := hb2.trans (kF.bel hzW (gis rZ2).1)
 have HFIN := hID (And.intro rF hbF)
 clear rF kF hFF hbF
 obtain ⟨⟨x0, x1, x2, x3⟩, ⟨x4, x5, x6, x7⟩, x8, x9, x10, x11⟩ := awbox rZ2
 have z0 := fZr 0 rZ2
 have z1 := fZr 1 rZ2
 have z2 := fZr 2 rZ2
 have z3 := fZr 3 rZ2
 have z4 := fZr 4 rZ2
 have z5 := fZr 5 rZ2
 have z6 := fZr 6 rZ2
 have z7 := fZr 7 rZ2
 have z8 := fZr 8 rZ2
 have z9 := fZr 9 rZ2
 have z10 := fZr 10 rZ2
 have z11 := fZr 11 rZ2
 go_wp2_with fail
 clear hF
 obtain ⟨rF, hbF⟩ := HFIN.out
 obtain ⟨⟨s0, s1, s2, s3⟩, ⟨s4, s5, s6, s7⟩, s8, s9, s10, s11⟩ := awbox rF
 exact bodyPost_ret (v := .agg #[.int .i64 (s : Int), .int .i64 1, .int .i64 (d : Int), .int .i64 0, .bool (fW ws md s), .int .i64 (aI ws md N M s), .int .i64 (aT ws md N M s), .int .i64 (aP ws md N M s), .int .i64 (frW ws md s).1, .int .i64 (frW ws md s).2, .int .i64 (aA ws md N M s), .slice XA (aS ws md N M s) xc]) (by simp [results, Tryz.f13, go_sem, s0, s1, s2, s3, s4, s5, s6, s7, s8, s9, s10, s11]) rfl ⟨⟨XA, xc, rfl⟩, hbF⟩
def RetAw (w : World) (ws : List Sp) (md : Int) (N M d k : Nat) (e : Ending) (w' : World) : Prop := ∃ A c Y, e = .returned (.slice A k c) /\ List.length Y = k /\ (∀ (i : Nat) (x : Nat × Option Addr × Nat), Y[i]? = some x -> x.1 = i) /\ w'.ownsRow w.heap.size 43 12 (.slice A k c) k (flat (awdC ws md N M d) Y) /\ Below w.heap.size w w'
theorem all_award {b : Bn} {x : St} {nm : By} {cr : Bool} {N M n c d : Nat} {rv : Rv} {A : Option Addr} {L : List Fc} {ws : List Sp} {w : World} (hP : Pur b nm N M n L ws rv d) (hI : Inp w w.heap.size b x nm cr N M rv A n L) (hw : Mt w) :
  Calls Tryz.prog 9 #[.agg #[.slice b.SA b.k b.sc, .slice b.RA 1 b.rc, .slice none 0 0], .slice A n c, .int .i64 1, .int .i64 (d : Int)] w (RetAw w ws b.md N M d b.k) := by
 obtain ⟨i1, hi1, hy0, hy1, hy2⟩ := info_parts info_award
 obtain ⟨W, hW, bW, rW⟩ := lw_new w b.SA b.k b.sc b.RA b.rc
 have lW := (gis rW).1
 have hzW := bW.size
 have HS := hID (fun (u : World) (hu : Below W.heap.size W u) => hI.S.below (bW.trans (hu.mono hzW)))
 have HBX := hID (fun (u : World) (hu : Below W.heap.size W u) => lwbox ((hu.block _ lW).trans rW))
 have HOF := hID (fun (u : World) (hu : Below W.heap.size W u) (s : Nat) (hs : s < b.k) => of_award (c := c) (w := u) hP (hI.to (bW.trans (hu.mono hzW))) hs (hw.kp (bW.trans (hu.mono hzW))))
 have hk6 := hP.k6
 clear hI hP hw
 obtain ⟨SA, k, sc, RA, rc, d0, md, MA, mc⟩ := b
 dsimp only [lwBox] at hW HS HBX HOF hk6 ⊢
 go_enter Tryz.func9, Tryz.ntmps9
 go_upto_region 1 with (fail)
 clear hW
 obtain ⟨c0, c1, c2⟩ := HBX.out W (bRf)
 go_wp2_with fail
 go_loopw [9, 15] (fun v i wr => ∃ (j c1 : Nat) (A1 : Option Addr) (Y : List (Nat × Option Addr × Nat)), j <= k /\ v = .slice A1 j c1 /\ i = .int .i64 (j : Int) /\ Hid (Y.length = j /\ ∀ (i : Nat) (x : Nat × Option Addr × Nat), Y[i]? = some x -> x.1 = i) /\ wr.ownsRow W.heap.size 43 12 (.slice A1 j c1) j (flat (awdC ws md N M d) Y) /\ Below W.heap.size W wr) (fun _ i _ => k - (intOf i).toNat)
 case atStart => exact ⟨0, 0, none, [], by omega, rfl, rfl, hID ⟨rfl, fun i x h => by simp at h⟩, World.ownsRow_nil _ _ _ _, bRf⟩
 case round =>
  obtain ⟨j, c1, A1, Y, hj, rfl, rfl, hY, hown, hb⟩ := hrel
  have hwsz := hb.size
  clear c0 c2
  by_cases hlt : j < k
  ·obtain ⟨gb, o, rfl, hgb, e0, e1, e2, e3⟩ := sa_cells (HS.out wr hb) hlt
   have hlo : (0 : Int) <= (j : Int) := by omega
   have hhi : (j : Int) < (k : Int) := by omega
   have hjk : j <= 6 := by omega
   go_upto_region 5 with (fail)
   obtain ⟨V2, hV2, b2, r2⟩ := sb_new wr nm x j
   dsimp only [sbBox] at hV2
   rw [hV2]
   clear hV2 e0 e1 e2 e3
   obtain ⟨t0, t1, t2, t3⟩ := sbbox r2
   have hb2 := hb.trans (b2.mono hwsz)
   have hown2 := own_underF hown b2
   obtain ⟨d0, d1, d2⟩ := HBX.out V2 hb2
   have hof := HOF.out V2 hb2 j hlt
   clear hown
   go_wp2_with fail
   refine hof.mono ?_
   rintro e w3 ⟨⟨XA, xc, rfl⟩, b3⟩
   have hb3 := hb2.trans (b3.mono hb2.size)
   have hown3 := own_underF hown2 b3
   have hz3 := hb3.size
   have HYY : Hid ((Y ++ [(j, XA, xc)]).length = j + 1 /\ ∀ (i : Nat) (x : Nat × Option Addr × Nat), (Y ++ [(j, XA, xc)])[i]? = some x -> x.1 = i) := hID ⟨by simp [hY.out.1], fun i x hx => by
    by_cases hi : i < Y.length
    ·rw [List.getElem?_append_left hi] at hx
     exact hY.out.2 i x hx
    ·have h1 := hY.out.1
     rw [List.getElem?_append_right (by omega), h1] at hx
     have hi0 : i - j = 0 := by
      have := (List.getElem?_eq_some_iff.1 hx).1
      simpa using this
     rw [hi0] at hx
     obtain rfl := Option.some.inj hx
     show j = i
     omega⟩
   clear t0 t1 t2 t3 d0 d1 d2 hof
   unfold awdC
   go_wp2_with (at_builtin; go_loud (refine wpList_append_rd (by rfl) (.tmp 19) (.tmp 27) 37 (by rfl) W.heap.size 43 i1 _ 12 112 Tryz.underlying37 hi1 hy0 hy1 hy2 rfl (by omega) (.slice A1 j c1) j (flat (awdC ws md N M d) Y) (by rfl) (hown3.alloc _) (w3.heap.size + 1) (some ⟨w3.heap.size, 0, none⟩) 1 1 (awdC ws md N M d (j, XA, xc)) (by rfl) (Rd.built (hAn w3 _) (by omega) rfl) (by intro u hu; unfold awdC at hu; simp at hu; rcases hu with rfl | rfl | rfl | rfl | rfl | rfl | rfl | rfl | rfl | rfl | rfl | rfl <;> rfl) (by unfold maxLen; omega) (by omega) (by simp; omega) ?_); intro q4 w7 hown7 hg7 hat7)
   have hb7 := ((hb3.alloc hz3 _).grown hg7 (by simp; omega) (fun g e => (hown3.lt g e).1))
   obtain ⟨A7, c7, rfl, _, _, _⟩ := own_form hown7
   go_roundw
   case rel => exact ⟨j + 1, c7, A7, Y ++ [(j, XA, xc)], by omega, rfl, by go_num, HYY, by rw [flat_append, flat_one]; exact hown7, hb7⟩
   case measure => simp [intOf]; omega
  ·obtain rfl : j = k := by omega
   have hlt0 : decide ((j : Int) < (j : Int)) = false := by simp
   go_wp2_with fail
   go_ret
   exact ⟨A1, c1, Y, rfl, hY.out.1, hY.out.2, own_baseI hown hzW, bW.trans (hb.mono hzW)⟩
end
end Go.Proofs.YtnlopdmhdiegnaaGreatDoor
