/- Lemmas (no conditions): Cla, Clb -/
import Derived.Test.YtnlopdmhdiegnaaGreatDoorPk36
import Derived.Test.YtnlopdmhdiegnaaGreatDoorSx
set_option linter.unusedSimpArgs false
set_option linter.unusedVariables false
set_option maxRecDepth 100000
set_option maxHeartbeats 64000000
namespace Go.Proofs.YtnlopdmhdiegnaaGreatDoor
open Go.RowKit
section
theorem put_own {G lo T sz n : Nat} {w a b : World} {v u : Value} {xs : List Value} (j : Nat) (hGlo : G < lo) (hlo : lo <= w.heap.size) (ha : Below w.heap.size w a) (ho : a.ownsRow lo T sz v n xs) (hg : a.grownBy b v.ownBlock) :
  KV G G v.ownBlock w (b.setCell ⟨G, j, none⟩ u) /\ b.heap[G]? = w.heap[G]? := by
 have hz := ha.size
 have h1 : Below lo w b := (ha.mono hlo).trans ((Below.refl lo a).grown hg (lTr hlo hz) (fun g e => (ho.lt g e).1))
 exact ⟨(KV.kp (Kp.of ha)).trans ((KV.own hg).trans (KV.set b j u)), h1.block G hGlo⟩
theorem info_expr : (Tryz.prog.info? 144).map (fun i => (i.zero, i.size, i.bytes)) = some (some (.agg #[.int .i64 0, .int .i64 0, .int .i64 0, .int .i64 0, .string ⟨#[]⟩, .slice none 0 0]), 6, 72) := by kernel_rfl
theorem lf_one (x : Lf) : ∀ v ∈ x.cells, v.oneCell' = true := by
 intro v hv
 simp only [Lf.cells, List.mem_cons, List.not_mem_nil, or_false] at hv
 rcases hv with rfl | rfl | rfl | rfl | rfl | rfl <;> rfl
theorem six_kp (w : World) (g : Nat) (v0 v1 v2 v3 v4 v5 : Value) : Kp g w ((((((w.setCell ⟨g, 0, none⟩ v0).setCell ⟨g, 1, none⟩ v1).setCell ⟨g, 2, none⟩ v2).setCell ⟨g, 3, none⟩ v3).setCell ⟨g, 4, none⟩ v4).setCell ⟨g, 5, none⟩ v5) :=
 (((((Kp.set w 0 v0).trans (Kp.set _ 1 v1)).trans (Kp.set _ 2 v2)).trans (Kp.set _ 3 v3)).trans (Kp.set _ 4 v4)).trans (Kp.set _ 5 v5)
theorem e_new (w : World) : ∃ W, w.alloc eBox = W /\ Below w.heap.size w W /\ W.heap[w.heap.size]? = some eBox :=
 ⟨_, rfl, (bRf).alloc (lRf) _, hAn w _⟩
theorem clexpr_leaf (v : Lf) (w : World) : Calls Tryz.prog 177 #[v.agg] w fun r w' => r = .returned v.agg /\ Below w.heap.size w w' := by
 obtain ⟨W, hW, b, r⟩ := lf_new w v
 obtain ⟨V, hV, c, s⟩ := e_new W
 have lW := (gis r).1
 have r2 := (c.block _ lW).trans r
 have hb := b.trans (c.mono b.size)
 obtain ⟨s0, s1, s2, s3, s4, s5⟩ := lbox r2
 have y5 := fZr 5 r2
 obtain ⟨⟨f0, f1, f2, f3, f4, f5⟩, z0, z1, z2, z3, z4, z5⟩ := ebox s
 obtain ⟨vo, vn, vd, vm, vs⟩ := v
 unfold Lf.agg
 have hne : W.heap.size ≠ w.heap.size := by omega
 dsimp only [lBox, eBox] at hW hV s0 s1 s2 s3 s4 s5
 have hfin := six_below (g := W.heap.size) (hb.setCell (p := ⟨w.heap.size, 5, none⟩) (lRf) (.slice none 0 0)) b.size (.int .i64 vo) (.int .i64 vn) (.int .i64 vd) (.int .i64 vm) (.string vs) (.slice none 0 0)
 go_enter Tryz.func177, Tryz.ntmps177
 go_upto_region 1 with (fail)
 clear hW hV
 go_wp2_with fail
 refine wp_loop_rounds 1 ?_
 rw [rounds_succ]
 go_wp2_with fail
 exact bodyPost_ret (v := .agg #[.int .i64 vo, .int .i64 vn, .int .i64 vd, .int .i64 vm, .string vs, .slice none 0 0]) (by simp [results, Tryz.f177, go_sem, f0, f1, f2, f3, f4, f5]) rfl ⟨rfl, hfin⟩
theorem clexpr_cmp {u v : Lf} {g c hi : Nat} {w : World} (hR : Rz w hi g (u.cells ++ v.cells)) (hc : 2 <= c) (hhi : hi <= w.heap.size) : Calls Tryz.prog 177 #[Sx.agg ⟨16, 0, 0, 0, ⟨#[]⟩, some ⟨g, 0, none⟩, 2, c⟩] w fun r w' => ∃ g' c', r = .returned (Sx.agg ⟨16, 0, 0, 0, ⟨#[]⟩, some ⟨g', 0, none⟩, 2, c'⟩) /\ 2 <= c' /\ Rz w' w'.heap.size g' (u.cells ++ v.cells) /\ w.heap.size <= g' /\ Below w.heap.size w w' := by
 obtain ⟨i0, hi0, hzz0, hzz1, hzz2⟩ := info_parts info_expr
 obtain ⟨W, hW, b, r⟩ := sx_new w ⟨16, 0, 0, 0, ⟨#[]⟩, some ⟨g, 0, none⟩, 2, c⟩
 obtain ⟨V, hV, c1, s⟩ := e_new W
 have lW := (gis r).1
 have lV := (gis s).1
 have r2 := (c1.block _ lW).trans r
 have hb := b.trans (c1.mono b.size)
 obtain ⟨s0, s1, s2, s3, s4, s5⟩ := sbox r2
 have y5 := fZr 5 r2
 have hcu := fun w => clexpr_leaf u w
 have hcv := fun w => clexpr_leaf v w
 have hgl := hR.1
 unfold Sx.agg
 dsimp only [sBox, eBox] at hW hV s0 s1 s2 s3 s4 s5
 go_enter Tryz.func177, Tryz.ntmps177
 go_upto_region 1 with (fail)
 clear hW hV
 go_upto_region 3 with (fail)
 have r3 := hSs V w.heap.size 5 _ _ (.slice none 0 0) r2
 have b3 := hb.setCell (p := ⟨w.heap.size, 5, none⟩) (lRf) (.slice none 0 0)
 have e3 := (Below.heap_setCell V ⟨w.heap.size, 5, none⟩ (.slice none 0 0) W.heap.size (by show W.heap.size ≠ w.heap.size; omega)).trans s
 have zV : V.heap.size <= (V.setCell ⟨w.heap.size, 5, none⟩ (.slice none 0 0)).heap.size := by simp [World.setCell]
 obtain ⟨w3, hw3⟩ : ∃ u, V.setCell ⟨w.heap.size, 5, none⟩ (.slice none 0 0) = u := ⟨_, rfl⟩
 have r3' : w3.heap[w.heap.size]? = some (sBox ⟨16, 0, 0, 0, ⟨#[]⟩, none, 0, 0⟩) := by rw [<- hw3]; exact r3
 rw [hw3] at b3 e3 zV ⊢
 have o3 : w3.ownsRow V.heap.size 144 6 (.slice none 0 0) 0 [] := World.ownsRow_nil _ _ _ _
 have hR3 := hR.below (b3.mono hhi)
 have a0 : w3.cell? ⟨g, 0, none⟩ = some (.int .i64 u.o) := hR3.2 0 _ rfl
 have a1 : w3.cell? ⟨g, 1, none⟩ = some (.int .i64 u.n) := hR3.2 1 _ rfl
 have a2 : w3.cell? ⟨g, 2, none⟩ = some (.int .i64 u.d) := hR3.2 2 _ rfl
 have a3 : w3.cell? ⟨g, 3, none⟩ = some (.int .i64 u.m) := hR3.2 3 _ rfl
 have a4 : w3.cell? ⟨g, 4, none⟩ = some (.string u.s) := hR3.2 4 _ rfl
 have a5 : w3.cell? ⟨g, 5, none⟩ = some (.slice none 0 0) := hR3.2 5 _ rfl
 clear hw3 r3 s0 s1 s2 s3 s4 s5 y5 r2 r s hR3
 go_wp2_with fail
 refine wp_loop_rounds 3 ?_
 rw [rounds_succ]
 go_upto_block 1 with (fail)
 go_cut [5] from 13 to 21 (fun z wx => ∃ A c, wx.heap[w.heap.size]? = some (sBox ⟨16, 0, 0, 0, ⟨#[]⟩, A, 0+1, c⟩) /\ wx.ownsRow V.heap.size 144 6 (.slice A (0+1) c) (0+1) ([] ++ u.cells) /\ KV w.heap.size w.heap.size (Value.slice none 0 0).ownBlock w3 wx)
 case first =>
  go_upto_region 6 with (fail)
  obtain ⟨w4, hw4, b4, r4⟩ := lf_new w3 u
  dsimp only [lBox] at hw4
  rw [hw4]
  clear hw4 a0 a1 a2 a3 a4 a5
  have lP4 := (gis r3').1
  have p4 := (b4.block w.heap.size lP4).trans r3'
  have h4 := (b3).trans (b4.mono (b3).size)
  have o4 := own_underP o3 b4
  have z4 := b4.size
  obtain ⟨m0, m1, m2, m3, m4, m5⟩ := lbox r4
  have q5 := (sbox p4).2.2.2.2.2
  have x5 := fZr 5 p4
  dsimp only at q5
  obtain ⟨Z4, hZ4⟩ : ∃ Z, w3.heap.size = Z := ⟨_, rfl⟩
  rw [hZ4] at m0 m1 m2 m3 m4 m5 ⊢
  obtain ⟨xo, xn, xd, xm, xs⟩ := u
  unfold Lf.agg at hcu
  dsimp only at m0 m1 m2 m3 m4 m5 hcu
  go_region_law (first
   | (refine step_calleeP (by rfl) 177 Tryz.func177 (by rfl) (by rfl) [.tmp 17] _ (by rfl) [.agg #[.int .i64 xo, .int .i64 xn, .int .i64 xd, .int .i64 xm, .string xs, .slice none 0 0]] (by rfl) (hcu _) ?_
      rintro e w5 ⟨rfl, b5⟩
      refine ⟨_, rfl, ?_⟩
      have p5 := (b5.block w.heap.size (by show w.heap.size < w4.heap.size; omega)).trans p4
      have o5 := own_underP (o4.drew) b5
      have z5 : w4.heap.size <= w5.heap.size := b5.size
      have q5a := (sbox p5).2.2.2.2.2
      have q5b := (World.cell?_alloc_lt w5 (lBox ⟨xo, xn, xd, xm, xs⟩) ⟨w.heap.size, 5, none⟩ (by show w.heap.size < w5.heap.size; omega)).trans q5a
      have k5 : KV w.heap.size w.heap.size (Value.slice none 0 0).ownBlock w3 w5 := KV.kp (Kp.of (b4.trans ((((bRf).drew).trans b5).mono b4.size)))
      dsimp only at q5a q5b)
   | (refine step_append_rd (by rfl) (.tmp 16) (.tmp 19) 142 (by rfl) V.heap.size 144 i0 _ 6 72 Tryz.underlying142 hi0 hzz0 hzz1 hzz2 rfl (by omega) (.slice none 0 0) 0 [] (by rfl) (by first | exact o5.alloc _ | exact (o5.alloc _).drew)
       (w5.heap.size + 1) (some ⟨w5.heap.size, 0, none⟩) 1 1 (Lf.cells ⟨xo, xn, xd, xm, xs⟩) (by rfl) (Rd.built (cs := (Lf.cells ⟨xo, xn, xd, xm, xs⟩).toArray) (hAn w5 _) (by omega) rfl) (lf_one _) (by unfold maxLen; omega) (by omega) (by simp; omega) ?_
      intro v6 w6 hown6 hg6 hat6
      obtain ⟨A6, c6, rfl, _, _, _⟩ := own_form hown6
      first
       | have hend := fun u => put_own (u := u) (G := w.heap.size) 5 (by omega) (by omega) ((Below.refl w5.heap.size w5).alloc (lRf) (.cells (Lf.cells ⟨xo, xn, xd, xm, xs⟩).toArray 144)) (o5.alloc _) hg6
       | have hend := fun u => put_own (u := u) (G := w.heap.size) 5 (by omega) (by omega) ((Below.refl w5.heap.size w5).alloc (lRf) (.cells (Lf.cells ⟨xo, xn, xd, xm, xs⟩).toArray 144)).drew (o5.alloc _).drew hg6
      have rV6 := (hend (.int .i64 0)).2.trans p5
      have z6 := fZr 5 rV6
      have q6 := (sbox rV6).2.2.2.2.2))
  all_goals go_wp2_with fail
  all_goals
   go_meet
   exact ⟨A6, c6, hSs w6 w.heap.size 5 _ _ (.slice A6 (0 + 1) c6) rV6, ownsRow_setCell_ne hown6 (p := ⟨w.heap.size, 5, none⟩) (fun e => by have := (hown6.lt w.heap.size e).1; omega) (.slice A6 (0 + 1) c6), k5.trans (hend _).1⟩
 case rest =>
  obtain ⟨AA, cA, rA, oA, kA⟩ := hcut
  have oA' := oA
  generalize wc = wA at *
  clear a0 a1 a2 a3 a4 a5
  have lQ3 := (gis e3).1
  have bA : Below w.heap.size w wA := b3.trans ((kA.below (by omega) (fun g e => by cases e)).mono (lRf))
  have eA := (kA.block W.heap.size lQ3 (by omega) (by omega) (fun e => by cases e)).trans e3
  have zA : V.heap.size <= wA.heap.size := lTr zV kA.size
  rw [List.nil_append] at oA
  simp only [Nat.zero_add] at rA oA
  have hRA := hR.below (bA.mono hhi)
  have a0 : wA.cell? ⟨g, 6, none⟩ = some (.int .i64 v.o) := hRA.2 6 _ rfl
  have a1 : wA.cell? ⟨g, 7, none⟩ = some (.int .i64 v.n) := hRA.2 7 _ rfl
  have a2 : wA.cell? ⟨g, 8, none⟩ = some (.int .i64 v.d) := hRA.2 8 _ rfl
  have a3 : wA.cell? ⟨g, 9, none⟩ = some (.int .i64 v.m) := hRA.2 9 _ rfl
  have a4 : wA.cell? ⟨g, 10, none⟩ = some (.string v.s) := hRA.2 10 _ rfl
  have a5 : wA.cell? ⟨g, 11, none⟩ = some (.slice none 0 0) := hRA.2 11 _ rfl
  clear hRA kA b3 e3 r3' o3 oA'
  go_wp2_with fail
  rw [rounds_succ]
  go_upto_block 1 with (fail)
  go_cut [5] from 13 to 21 (fun z wx => ∃ A c, wx.heap[w.heap.size]? = some (sBox ⟨16, 0, 0, 0, ⟨#[]⟩, A, 1+1, c⟩) /\ wx.ownsRow V.heap.size 144 6 (.slice A (1+1) c) (1+1) (u.cells ++ v.cells) /\ KV w.heap.size w.heap.size (Value.slice AA 1 cA).ownBlock wA wx)
  case first =>
   go_upto_region 6 with (fail)
   obtain ⟨w4, hw4, b4, r4⟩ := lf_new wA v
   dsimp only [lBox] at hw4
   rw [hw4]
   clear hw4 a0 a1 a2 a3 a4 a5
   have lP4 := (gis rA).1
   have p4 := (b4.block w.heap.size lP4).trans rA
   have h4 := bA.trans (b4.mono bA.size)
   have o4 := own_underP oA b4
   have z4 := b4.size
   obtain ⟨m0, m1, m2, m3, m4, m5⟩ := lbox r4
   have q5 := (sbox p4).2.2.2.2.2
   have x5 := fZr 5 p4
   dsimp only at q5
   obtain ⟨Z4, hZ4⟩ : ∃ Z, wA.heap.size = Z := ⟨_, rfl⟩
   rw [hZ4] at m0 m1 m2 m3 m4 m5 ⊢
   obtain ⟨xo, xn, xd, xm, xs⟩ := v
   unfold Lf.agg at hcv
   dsimp only at m0 m1 m2 m3 m4 m5 hcv
   go_region_law (first
    | (refine step_calleeP (by rfl) 177 Tryz.func177 (by rfl) (by rfl) [.tmp 17] _ (by rfl) [.agg #[.int .i64 xo, .int .i64 xn, .int .i64 xd, .int .i64 xm, .string xs, .slice none 0 0]] (by rfl) (hcv _) ?_
       rintro e w5 ⟨rfl, b5⟩
       refine ⟨_, rfl, ?_⟩
       have p5 := (b5.block w.heap.size (by show w.heap.size < w4.heap.size; omega)).trans p4
       have o5 := own_underP (o4.drew) b5
       have z5 : w4.heap.size <= w5.heap.size := b5.size
       have q5a := (sbox p5).2.2.2.2.2
       have q5b := (World.cell?_alloc_lt w5 (lBox ⟨xo, xn, xd, xm, xs⟩) ⟨w.heap.size, 5, none⟩ (by show w.heap.size < w5.heap.size; omega)).trans q5a
       have k5 : KV w.heap.size w.heap.size (Value.slice AA 1 cA).ownBlock wA w5 := KV.kp (Kp.of (b4.trans ((((bRf).drew).trans b5).mono b4.size)))
       dsimp only at q5a q5b)
    | (refine step_append_rd (by rfl) (.tmp 16) (.tmp 19) 142 (by rfl) V.heap.size 144 i0 _ 6 72 Tryz.underlying142 hi0 hzz0 hzz1 hzz2 rfl (by omega) (.slice AA 1 cA) 1 u.cells (by rfl) (by first | exact o5.alloc _ | exact (o5.alloc _).drew)
        (w5.heap.size + 1) (some ⟨w5.heap.size, 0, none⟩) 1 1 (Lf.cells ⟨xo, xn, xd, xm, xs⟩) (by rfl) (Rd.built (cs := (Lf.cells ⟨xo, xn, xd, xm, xs⟩).toArray) (hAn w5 _) (by omega) rfl) (lf_one _) (by unfold maxLen; omega) (by omega) (by simp; omega) ?_
       intro v6 w6 hown6 hg6 hat6
       obtain ⟨A6, c6, rfl, _, _, _⟩ := own_form hown6
       first
        | have hend := fun u => put_own (u := u) (G := w.heap.size) 5 (by omega) (by omega) ((Below.refl w5.heap.size w5).alloc (lRf) (.cells (Lf.cells ⟨xo, xn, xd, xm, xs⟩).toArray 144)) (o5.alloc _) hg6
        | have hend := fun u => put_own (u := u) (G := w.heap.size) 5 (by omega) (by omega) ((Below.refl w5.heap.size w5).alloc (lRf) (.cells (Lf.cells ⟨xo, xn, xd, xm, xs⟩).toArray 144)).drew (o5.alloc _).drew hg6
       have rV6 := (hend (.int .i64 0)).2.trans p5
       have z6 := fZr 5 rV6
       have q6 := (sbox rV6).2.2.2.2.2))
   all_goals go_wp2_with fail
   all_goals
    go_meet
    exact ⟨A6, c6, hSs w6 w.heap.size 5 _ _ (.slice A6 (1 + 1) c6) rV6, ownsRow_setCell_ne hown6 (p := ⟨w.heap.size, 5, none⟩) (fun e => by have := (hown6.lt w.heap.size e).1; omega) (.slice A6 (1 + 1) c6), k5.trans (hend _).1⟩
  case rest =>
   obtain ⟨AB, cB, rB, oB, kB⟩ := hcut
   generalize wc = wB at *
   clear a0 a1 a2 a3 a4 a5
   have lQA := (gis eA).1
   have bB : Below w.heap.size w wB := bA.trans ((kB.below bA.size (fun g e => by have := (oA.lt g e).1; omega)).mono (lRf))
   have eB := (kB.block W.heap.size lQA (by omega) (by omega) (fun e => by have := (oA.lt _ e.symm).1; omega)).trans eA
   obtain ⟨gB, rfl, hRB, hgB, hcB⟩ := Rz.ofOwn oB (by omega)
   obtain ⟨s0, s1, s2, s3, s4, s5⟩ := sbox rB
   obtain ⟨⟨f0, f1, f2, f3, f4, f5⟩, z0, z1, z2, z3, z4, z5⟩ := ebox eB
   have hfin := six_below (g := W.heap.size) bB b.size (.int .i64 16) (.int .i64 0) (.int .i64 0) (.int .i64 0) (.string ⟨#[]⟩) (.slice (some ⟨gB, 0, none⟩) 2 cB)
   have hRz := hRB.kp (six_kp wB W.heap.size (.int .i64 16) (.int .i64 0) (.int .i64 0) (.int .i64 0) (.string ⟨#[]⟩) (.slice (some ⟨gB, 0, none⟩) 2 cB)) (by omega) (lRf)
   dsimp only at s0 s1 s2 s3 s4 s5
   go_wp2_with fail
   rw [rounds_succ]
   go_wp2_with fail
   refine bodyPost_ret (v := .agg #[.int .i64 16, .int .i64 0, .int .i64 0, .int .i64 0, .string ⟨#[]⟩, .slice (some ⟨gB, 0, none⟩) 2 cB]) (by simp [results, Tryz.f177, go_sem, f0, f1, f2, f3, f4, f5]) rfl ⟨gB, cB, rfl, hcB, hRz, by omega, hfin⟩
end
section
theorem Rz.rd {w : World} {hi g sz n : Nat} {xs : List Value} (h : Rz w hi g xs) (hn : xs.length = n * sz) : Rd w hi sz (some ⟨g, 0, none⟩) n xs :=
 ⟨hn, fun _ => ⟨g, 0, rfl, h.1, fun j u hu => by rw [Nat.zero_add]; exact h.2 j u hu⟩⟩
theorem eqin_nil {t e : TypeId} (d : Nat) (u : World) (a : Option Addr) (n c : Nat) (h : Tryz.prog.underlying t = some (.slice e)) : (Op.equalIn (d + 1) t (.slice a n c) (.slice none 0 0)).run Tryz.prog u = .ok a.isNone u := by
 cases a <;> simp [Op.equalIn, run_underlying h]
theorem eq_nil1 {t e : TypeId} (u : World) (g c : Nat) (h : Tryz.prog.underlying t = some (.slice e)) : (binOp .eql t (.slice (some ⟨g, 0, none⟩) 1 c) (.slice none 0 0)).run Tryz.prog u = .ok (.bool false) u := by
 have e0 : (Op.equalIn Op.maxDepth t (.slice (some ⟨g, 0, none⟩) 1 c) (.slice none 0 0)).run Tryz.prog u = .ok false u := eqin_nil 9999 u (some ⟨g, 0, none⟩) 1 c h
 unfold binOp Op.equal
 simp [e0, go_sem]
theorem clcr_one {g c hi : Nat} {w : World} (hR : Rz w hi g [.int .i64 6, .int .i64 0]) (hc : 1 <= c) (hhi : hi <= w.heap.size) : Calls Tryz.prog 172 #[.slice (some ⟨g, 0, none⟩) 1 c] w fun r w' => ∃ g' c', r = .returned (.slice (some ⟨g', 0, none⟩) 1 c') /\ 1 <= c' /\ Rz w' w'.heap.size g' [.int .i64 6, .int .i64 0] /\ w.heap.size <= g' /\ Below w.heap.size w w' := by
 obtain ⟨i0, hi0, hzz0, hzz1, hzz2⟩ := info_parts info_vcr
 go_enter Tryz.func172, Tryz.ntmps172
 have heq := fun u => eq_nil1 (t := 81) (e := 137) u g c Tryz.underlying81
 have hd : Rd (w.alloc (.cells #[] 137)) hi 2 (some ⟨g, 0, none⟩) 1 [.int .i64 6, .int .i64 0] := ((hR.rd (n := 1) (by rfl)).below ((Below.refl w.heap.size w).mono hhi)).alloc hhi _
 go_wp2_with (at_builtin; go_loud (refine wpList_append_rd (by rfl) (.tmp 5) (.tmp 6) 81 (by rfl) w.heap.size 137 i0 _ 2 16 Tryz.underlying81 hi0 hzz0 hzz1 hzz2 rfl (by omega) (.slice (some ⟨w.heap.size, 0, none⟩) 0 0) 0 [] (by rfl) (World.ownsRow_made w #[] 0 (lRf) (by omega) (by rfl)) hi (some ⟨g, 0, none⟩) 1 c [.int .i64 6, .int .i64 0] (by rfl) hd (by intro v hv; simp at hv; rcases hv with rfl | rfl <;> rfl) (by unfold maxLen; omega) (by omega) (by simp) ?_); intro v6 w6 hown6 hg6 hat6)
 go_ret
 obtain ⟨A6, c6, rfl, _, _, _⟩ := own_form hown6
 obtain ⟨g6, rfl, hR6, hg6', hc6⟩ := Rz.ofOwn hown6 (by omega)
 exact ⟨g6, c6, rfl, hc6, hR6, hg6', ((Below.refl w.heap.size w).alloc (lRf) _).grown hg6 (by simp) (by simp [Value.ownBlock])⟩
theorem clgr_one {X : Sx} {v : Lf} {g c hi : Nat} {w : World} (hR : Rz w hi g (grCells X v)) (hc : 1 <= c) (hhi : hi <= w.heap.size) : Calls Tryz.prog 175 #[.slice (some ⟨g, 0, none⟩) 1 c] w fun r w' => ∃ g' c', r = .returned (.slice (some ⟨g', 0, none⟩) 1 c') /\ 1 <= c' /\ w'.ownsRow w.heap.size 146 13 (.slice (some ⟨g', 0, none⟩) 1 c') 1 (grCells X v) /\ w.heap.size <= g' /\ Below w.heap.size w w' := by
 obtain ⟨i0, hi0, hzz0, hzz1, hzz2⟩ := info_parts info_vgr
 go_enter Tryz.func175, Tryz.ntmps175
 have heq := fun u => eq_nil1 (t := 84) (e := 146) u g c Tryz.underlying84
 have hd : Rd (w.alloc (.cells #[] 146)) hi 13 (some ⟨g, 0, none⟩) 1 (grCells X v) := ((hR.rd (n := 1) (by rfl)).below ((Below.refl w.heap.size w).mono hhi)).alloc hhi _
 go_wp2_with (at_builtin; go_loud (refine wpList_append_rd (by rfl) (.tmp 5) (.tmp 6) 84 (by rfl) w.heap.size 146 i0 _ 13 152 Tryz.underlying84 hi0 hzz0 hzz1 hzz2 rfl (by omega) (.slice (some ⟨w.heap.size, 0, none⟩) 0 0) 0 [] (by rfl) (World.ownsRow_made w #[] 0 (lRf) (by omega) (by rfl)) hi (some ⟨g, 0, none⟩) 1 c (grCells X v) (by rfl) hd (gr_one X v) (by unfold maxLen; omega) (by omega) (by simp) ?_); intro v6 w6 hown6 hg6 hat6)
 go_ret
 obtain ⟨A6, c6, rfl, _, _, _⟩ := own_form hown6
 obtain ⟨g6, rfl, hR6, hg6', hc6⟩ := Rz.ofOwn hown6 (by omega)
 exact ⟨g6, c6, rfl, hc6, hown6, hg6', ((Below.refl w.heap.size w).alloc (lRf) _).grown hg6 (by simp) (by simp [Value.ownBlock])⟩
theorem eq_nil0 {t e : TypeId} (u : World) (h : Tryz.prog.underlying t = some (.slice e)) : (binOp .eql t (.slice none 0 0) (.slice none 0 0)).run Tryz.prog u = .ok (.bool true) u := by
 have e0 : (Op.equalIn Op.maxDepth t (.slice none 0 0) (.slice none 0 0)).run Tryz.prog u = .ok true u := eqin_nil 9999 u none 0 0 h
 unfold binOp Op.equal
 simp [e0, go_sem]
theorem clcr_nil (w : World) : Calls Tryz.prog 172 #[.slice none 0 0] w fun r w' => r = .returned (.slice none 0 0) /\ w' = w := by
 have heq := fun u => eq_nil0 (t := 81) (e := 137) u Tryz.underlying81
 go_enter Tryz.func172, Tryz.ntmps172
 go_wp2_with fail
 go_ret
 exact ⟨rfl, rfl⟩
theorem clix_nil (w : World) : Calls Tryz.prog 173 #[.slice none 0 0] w fun r w' => r = .returned (.slice none 0 0) /\ w' = w := by
 have heq := fun u => eq_nil0 (t := 82) (e := 141) u Tryz.underlying82
 go_enter Tryz.func173, Tryz.ntmps173
 go_wp2_with fail
 go_ret
 exact ⟨rfl, rfl⟩
theorem clle_nil (w : World) : Calls Tryz.prog 174 #[.slice none 0 0] w fun r w' => r = .returned (.slice none 0 0) /\ w' = w := by
 have heq := fun u => eq_nil0 (t := 83) (e := 200) u Tryz.underlying83
 go_enter Tryz.func174, Tryz.ntmps174
 go_wp2_with fail
 go_ret
 exact ⟨rfl, rfl⟩
theorem clre_nil (w : World) : Calls Tryz.prog 176 #[.slice none 0 0] w fun r w' => r = .returned (.slice none 0 0) /\ w' = w := by
 have heq := fun u => eq_nil0 (t := 85) (e := 151) u Tryz.underlying85
 go_enter Tryz.func176, Tryz.ntmps176
 go_wp2_with fail
 go_ret
 exact ⟨rfl, rfl⟩
def CrX (cr : Bool) (A : Option Addr) (n c lo hi : Nat) (w : World) : Prop :=
 (cr = true /\ ∃ b, A = some ⟨b, 0, none⟩ /\ n = 1 /\ 1 <= c /\ lo <= b /\ Rz w hi b [.int .i64 6, .int .i64 0]) ∨ (cr = false /\ A = none /\ n = 0 /\ c = 0)
theorem clcr_ok {cr : Bool} {A : Option Addr} {n c lo hi : Nat} {w : World} (h : CrX cr A n c lo hi w) (hhi : hi <= w.heap.size) : Calls Tryz.prog 172 #[.slice A n c] w fun r w' => ∃ A' n' c', r = .returned (.slice A' n' c') /\ CrX cr A' n' c' w.heap.size w'.heap.size w' /\ Below w.heap.size w w' := by
 rcases h with ⟨h1, b, rfl, rfl, h3, _, h4⟩ | ⟨h1, rfl, rfl, rfl⟩
 ·refine (clcr_one h4 h3 hhi).mono ?_
  rintro e w' ⟨g, c', rfl, h5, h6, h7, h8⟩
  exact ⟨_, 1, c', rfl, .inl ⟨h1, g, rfl, rfl, h5, h7, h6⟩, h8⟩
 ·refine (clcr_nil w).mono ?_
  rintro e w' ⟨rfl, rfl⟩
  exact ⟨_, _, _, rfl, .inr ⟨h1, rfl, rfl, rfl⟩, bRf⟩
theorem CrX.kp {cr : Bool} {A : Option Addr} {n c lo hi P : Nat} {w w' : World} (h : CrX cr A n c lo hi w) (hk : Kp P w w') (hP : P < lo) (hh : hi <= w.heap.size) : CrX cr A n c lo hi w' := by
 rcases h with ⟨h1, b, rfl, rfl, h3, h4, h5⟩ | h1
 ·refine .inl ⟨h1, b, rfl, rfl, h3, h4, h5.1, fun j u hu => ?_⟩
  have := h5.1
  rw [World.cell?_of_block (hk.block b (by omega) (fun e => by injection e with e; omega))]
  exact h5.2 j u hu
 ·exact .inr h1
theorem CrX.below {cr : Bool} {A : Option Addr} {n c lo hi : Nat} {w w' : World} (h : CrX cr A n c lo hi w) (hb : Below hi w w') : CrX cr A n c lo hi w' := by
 rcases h with ⟨h1, b, rfl, rfl, h3, h4, h5⟩ | h1
 ·exact .inl ⟨h1, b, rfl, rfl, h3, h4, h5.below hb⟩
 ·exact .inr h1
end
end Go.Proofs.YtnlopdmhdiegnaaGreatDoor
