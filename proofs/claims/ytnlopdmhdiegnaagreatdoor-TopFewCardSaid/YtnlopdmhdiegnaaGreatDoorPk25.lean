/- Lemmas (no conditions): Tya, TrH, OvB -/
import Derived.Test.YtnlopdmhdiegnaaGreatDoorPk16
import Derived.Test.YtnlopdmhdiegnaaGreatDoorPk23
set_option linter.unusedSimpArgs false
set_option linter.unusedVariables false
set_option maxRecDepth 100000
set_option maxHeartbeats 64000000
namespace Go.Proofs.YtnlopdmhdiegnaaGreatDoor
open Go.RowKit
section
def insB : By := [105, 110, 115, 117, 114, 101, 100]
def ciN (N : Nat) : Tr := .cmp ⟨2, 0, 0, 0, bs insB⟩ ⟨1, N, 1, 3, ⟨#[]⟩⟩
def pyM (M : Nat) : Lf := ⟨1, M, 1, 4, ⟨#[]⟩⟩
theorem nm_ins : Nm insB := ⟨⟨105, [110, 115, 117, 114, 101, 100], rfl, by decide, by decide, by decide⟩, by decide⟩
def Sd.of (cr : Bool) (N M : Nat) : Sd := ⟨cr, ciN N, pyM M⟩
theorem sd_ok (cr : Bool) {N M : Nat} (hN : N < 1000000000) (hM : M < 1000000000) : (Sd.of cr N M).Ok :=
 ⟨⟨.name nm_ins, .num (by simp) hN⟩, .num (by simp) hM⟩
theorem input_ins (w : World) : Calls Tryz.prog 105 #[.string ⟨#[105, 110, 115, 117, 114, 101, 100]⟩] w fun e w' => e = .returned (.tuple #[.int .i64 3, .bool true]) /\ w = w' := by
 go_enter Tryz.func105, Tryz.ntmps105
 go_wp2_with fail
 go_ret2
 exact ⟨rfl, rfl⟩
theorem lookup_ins (w : World) : Calls Tryz.prog 223 #[.string ⟨#[105, 110, 115, 117, 114, 101, 100]⟩, .slice none 0 0] w fun e w' => e = .returned (.tuple #[.int .i64 3, .bool true]) /\ Below w.heap.size w w' := by
 obtain ⟨W0, hW0, b0, r0⟩ := box_new w (.cells #[.string ⟨#[105, 110, 115, 117, 114, 101, 100]⟩] 9)
 obtain ⟨W1, hW1, b1, r1⟩ := box_new W0 (.cells #[.int .i64 0] 3)
 obtain ⟨W2, hW2, b2, r2⟩ := box_new W1 (.cells #[.bool false] 4)
 have z0 := b0.size
 have z1 := b1.size
 have l0 := (gis r0).1
 have l1 := (gis r1).1
 have hb : Below w.heap.size w W2 := b0.trans ((b1.trans (b2.mono b1.size)).mono b0.size)
 have r0' := ((b1.trans (b2.mono b1.size)).block _ l0).trans r0
 have r1' := (b2.block _ l1).trans r1
 have c0 : W2.cell? ⟨w.heap.size, 0, none⟩ = some (.string ⟨#[105, 110, 115, 117, 114, 101, 100]⟩) := by rw [cell_of_row _ _ _ _ _ _ r0']; rfl
 have c1 : W2.cell? ⟨W0.heap.size, 0, none⟩ = some (.int .i64 0) := by rw [cell_of_row _ _ _ _ _ _ r1']; rfl
 have c2 : W2.cell? ⟨W1.heap.size, 0, none⟩ = some (.bool false) := by rw [cell_of_row _ _ _ _ _ _ r2]; rfl
 have y1 := frozen_of_row W2 W0.heap.size 0 _ _ r1'
 have y2 := frozen_of_row W2 W1.heap.size 0 _ _ r2
 have hne : W0.heap.size ≠ W1.heap.size := by omega
 go_enter Tryz.func223, Tryz.ntmps223
 go_upto_region 1 with (fail)
 clear hW0 hW1 hW2
 go_wp2_with fail
 refine (input_ins _).mono ?_
 rintro e w1 ⟨rfl, rfl⟩
 go_wp2_with fail
 exact bodyPost_ret (v := .tuple #[.int .i64 3, .bool true]) (by simp [results, Tryz.f223, go_sem, c1, c2, hne, hne.symm]) rfl ⟨rfl, (hb.setCell (p := ⟨W0.heap.size, 0, none⟩) z0 _).setCell (p := ⟨W1.heap.size, 0, none⟩) (by show w.heap.size <= W1.heap.size; omega) _⟩
theorem infer_num (N : Int) (dim : Int) (w : World) : Calls Tryz.prog 168 #[.agg #[.int .i64 1, .int .i64 N, .int .i64 1, .int .i64 dim, .string ⟨#[]⟩, .slice none 0 0], .slice none 0 0] w fun e w' => e = .returned (.tuple #[.int .i64 dim, .int .i64 0]) /\ Below w.heap.size w w' := by
 obtain ⟨W, hW, b, r⟩ := lf_new w ⟨1, N, 1, dim, ⟨#[]⟩⟩
 obtain ⟨g0, g1, g2, g3, g4, g5⟩ := lbox r
 dsimp only [lBox] at hW g0 g1 g2 g3 g4 g5
 go_enter Tryz.func168, Tryz.ntmps168
 go_upto_region 1 with (fail)
 clear hW
 go_wp2_with fail
 go_ret2
 exact ⟨rfl, b⟩
theorem infer_ins (w : World) : Calls Tryz.prog 168 #[.agg #[.int .i64 2, .int .i64 0, .int .i64 0, .int .i64 0, .string ⟨#[105, 110, 115, 117, 114, 101, 100]⟩, .slice none 0 0], .slice none 0 0] w fun e w' => e = .returned (.tuple #[.int .i64 3, .int .i64 0]) /\ Below w.heap.size w w' := by
 obtain ⟨W, hW, b, r⟩ := lf_new w ⟨2, 0, 0, 0, ⟨#[105, 110, 115, 117, 114, 101, 100]⟩⟩
 obtain ⟨g0, g1, g2, g3, g4, g5⟩ := lbox r
 dsimp only [lBox] at hW g0 g1 g2 g3 g4 g5
 go_enter Tryz.func168, Tryz.ntmps168
 go_upto_region 1 with (fail)
 clear hW
 go_wp2_with fail
 refine (lookup_ins _).mono ?_
 rintro e w1 ⟨rfl, b1⟩
 go_wp2_with fail
 go_ret2
 exact ⟨rfl, b.trans (b1.mono b.size)⟩
theorem result_ge {g c : Nat} {w : World} (hc : 2 <= c) (h0 : w.cell? ⟨g, 0, none⟩ = some (.int .i64 3)) (h1 : w.cell? ⟨g, 1, none⟩ = some (.int .i64 3)) : Calls Tryz.prog 224 #[.int .i64 16, .slice (some ⟨g, 0, none⟩) 2 c] w fun e w' => e = .returned (.tuple #[.int .i64 1, .bool true]) /\ Below w.heap.size w w' := by
 go_enter Tryz.func224, Tryz.ntmps224
 go_upto_region 26 with (fail)
 go_quiet (fail)
 go_wp2_with fail
 go_ret2
 exact ⟨rfl, below_to_drewN (Below.refl _ _) _⟩
theorem info_intT : (Tryz.prog.info? 3).map (fun i => (i.zero, i.size, i.bytes)) = some (some (.int .i64 0), 1, 8) := by kernel_rfl
theorem infer_ci {N : Nat} {g c hi : Nat} {w : World} (hc : 2 <= c) (h : Rz w hi g (Lf.cells ⟨2, 0, 0, 0, bs insB⟩ ++ Lf.cells ⟨1, N, 1, 3, ⟨#[]⟩⟩)) (hhi : hi <= w.heap.size) : Calls Tryz.prog 168 #[.agg #[.int .i64 16, .int .i64 0, .int .i64 0, .int .i64 0, .string ⟨#[]⟩, .slice (some ⟨g, 0, none⟩) 2 c], .slice none 0 0] w fun e w' => e = .returned (.tuple #[.int .i64 1, .int .i64 0]) /\ Below w.heap.size w w' := by
 obtain ⟨i1, hi1, hq0, hq1, hq2⟩ := info_parts info_intT
 obtain ⟨W, hW, b, r⟩ := sx_new w ⟨16, 0, 0, 0, ⟨#[]⟩, some ⟨g, 0, none⟩, 2, c⟩
 obtain ⟨s0, s1, s2, s3, s4, s5⟩ := sbox r
 dsimp only [sBox] at hW s0 s1 s2 s3 s4 s5
 obtain ⟨⟨e0, e1, e2, e3, e4, e5⟩, _⟩ := rz_two (h.below (b.mono hhi))
 have hgl := h.1
 have hzW := b.size
 have l0 := (gis r).1
 have hv2 := fun w2 (hb : Below hi w w2) => (rz_two (h.below hb)).2
 have HV2 := Lib.hid hv2
 clear hv2
 dsimp only [Lf.agg] at e0 e1 e2 e3 e4 e5
 rw [show bs insB = ⟨#[105, 110, 115, 117, 114, 101, 100]⟩ from rfl] at *
 go_enter Tryz.func168, Tryz.ntmps168
 go_upto_block 1 with (fail)
 clear hW
 go_wp2_with fail
 refine wp_loop_rounds 3 ?_
 rw [rounds_succ]
 go_upto_region 15 with (fail)
 obtain ⟨W1, hW1, b1, r1⟩ := lf_new W ⟨2, 0, 0, 0, ⟨#[105, 110, 115, 117, 114, 101, 100]⟩⟩
 dsimp only [lBox] at hW1
 rw [hW1]
 clear hW1
 obtain ⟨t0, t1, t2, t3, t4, t5⟩ := lbox (v := ⟨2, 0, 0, 0, ⟨#[105, 110, 115, 117, 114, 101, 100]⟩⟩) r1
 dsimp only at t0 t1 t2 t3 t4 t5
 go_wp2_with fail
 refine (infer_ins _).mono ?_
 rintro e w2 ⟨rfl, b2⟩
 have hb2 : Below W.heap.size W w2 := b1.trans (b2.mono b1.size)
 have hz2 := hb2.size
 go_wp2_with (at_builtin; go_loud (refine wpList_append_rd (by rfl) (.tmp 51) (.tmp 53) 45 (by rfl) W.heap.size 3 i1 _ 1 8 Tryz.underlying45 hi1 hq0 hq1 hq2 rfl (by omega) (.slice none 0 0) 0 [] (by rfl) (World.ownsRow_nil _ _ _ _) (w2.heap.size + 1) (some ⟨w2.heap.size, 0, none⟩) 1 1 [.int .i64 3] (by rfl) (Rd.built (cs := #[.int .i64 3]) (heap_alloc_new w2 _) (by omega) rfl) (by intro u hu; simp at hu; subst hu; rfl) (by unfold maxLen; omega) (by omega) (by simp; omega) ?_); intro v3 w3 hown3 hg3 hat3; obtain ⟨A3, c3, rfl, _, _, _⟩ := own_form hown3)
 have hb3 : Below W.heap.size W w3 := (hb2.alloc hz2 _).grown hg3 (by simp; omega) (by simp [Value.ownBlock])
 have hz3 := hb3.size
 have hbw3 : Below w.heap.size w w3 := b.trans (hb3.mono hzW)
 obtain ⟨f0, f1, f2, f3, f4, f5⟩ := HV2.out w3 (hbw3.mono hhi)
 clear e0 e1 e2 e3 e4 e5 t0 t1 t2 t3 t4 t5 s0 s1 s2 s3 s4 s5 r1
 rw [rounds_succ]
 go_upto_region 15 with (fail)
 obtain ⟨W4, hW4, b4, r4⟩ := lf_new w3 ⟨1, N, 1, 3, ⟨#[]⟩⟩
 obtain ⟨p0, p1, p2, p3, p4, p5⟩ := lbox r4
 dsimp only [lBox] at hW4 p0 p1 p2 p3 p4 p5
 rw [hW4]
 clear hW4
 go_wp2_with fail
 refine (infer_num N 3 _).mono ?_
 rintro e w5 ⟨rfl, b5⟩
 have hb45 : Below w3.heap.size w3 w5 := b4.trans (b5.mono b4.size)
 have hb5 : Below W.heap.size W w5 := hb3.trans (hb45.mono hz3)
 have hz5 := hb5.size
 have hown5 := own_underP hown3 hb45
 go_wp2_with (at_builtin; go_loud (refine wpList_append_rd (by rfl) (.tmp 51) (.tmp 53) 45 (by rfl) W.heap.size 3 i1 _ 1 8 Tryz.underlying45 hi1 hq0 hq1 hq2 rfl (by omega) (.slice A3 (0 + 1) c3) (0 + 1) ([] ++ [.int .i64 3]) (by rfl) (hown5.alloc _) (w5.heap.size + 1) (some ⟨w5.heap.size, 0, none⟩) 1 1 [.int .i64 3] (by rfl) (Rd.built (cs := #[.int .i64 3]) (heap_alloc_new w5 _) (by omega) rfl) (by intro u hu; simp at hu; subst hu; rfl) (by unfold maxLen; omega) (by omega) (by simp; omega) ?_); intro v6 w6 hown6 hg6 hat6; obtain ⟨A6, c6, rfl, _, _, _⟩ := own_form hown6)
 have hb6 : Below W.heap.size W w6 := (hb5.alloc hz5 _).grown hg6 (by simp; omega) (fun g e => (hown3.lt g e).1)
 obtain ⟨g6, rfl, hr6, _, hc6⟩ := Rz.ofOwn hown6 (by omega)
 have hres := result_ge (c := c6) hc6 (hr6.2 0 _ rfl) (hr6.2 1 _ rfl)
 have rW := (hb6.block w.heap.size l0).trans r
 obtain ⟨s0, s1, s2, s3, s4, s5⟩ := sbox rW
 dsimp only at s0 s1 s2 s3 s4 s5
 rw [rounds_succ]
 go_wp2_with fail
 refine hres.mono ?_
 rintro e w7 ⟨rfl, b7⟩
 go_wp2_with fail
 go_ret2
 exact ⟨rfl, b.trans ((hb6.trans (b7.mono hb6.size)).mono hzW)⟩
theorem infer_tr {N : Nat} {X : Sx} {hi : Nat} {w : World} (h : TrR (ciN N) X hi w) (hhi : hi <= w.heap.size) : Calls Tryz.prog 168 #[X.agg, .slice none 0 0] w fun e w' => e = .returned (.tuple #[.int .i64 1, .int .i64 0]) /\ Below w.heap.size w w' := by
 obtain ⟨g, c, rfl, h2, h3⟩ := h
 exact infer_ci h2 h3 hhi
theorem bidx_nil (w : World) : Calls Tryz.prog 166 #[.slice none 0 0, .func (.func 167) #[] #[]] w fun e w' => e = .returned (.int .i64 (-1)) /\ Below w.heap.size w w' := by
 go_enter Tryz.func166, Tryz.ntmps166
 go_wp2_with fail
 refine wp_loop_rounds 1 ?_
 rw [rounds_succ]
 go_wp2_with fail
 go_ret
 exact ⟨rfl, Below.refl _ _⟩
theorem bcon_nil (w : World) : Calls Tryz.prog 107 #[.slice none 0 0, .func (.func 167) #[] #[]] w fun e w' => e = .returned (.bool false) /\ Below w.heap.size w w' := by
 go_enter Tryz.func107, Tryz.ntmps107
 go_wp2_with fail
 refine (bidx_nil _).mono ?_
 rintro e w1 ⟨rfl, b1⟩
 go_wp2_with fail
 go_ret
 exact ⟨rfl, b1⟩
structure Dim (t : Tr) (d : Int) : Prop where
 ok : TrOk t
 inf : ∀ {X : Sx} {hi : Nat} {w : World}, TrR t X hi w -> hi <= w.heap.size -> Calls Tryz.prog 168 #[X.agg, .slice none 0 0] w fun e w' => e = .returned (.tuple #[.int .i64 d, .int .i64 0]) /\ Below w.heap.size w w'
theorem dim_ci {N : Nat} (hN : N < 1000000000) : Dim (ciN N) 1 := ⟨⟨.name nm_ins, .num (by simp) hN⟩, infer_tr⟩
theorem dim_py {M : Nat} (hM : M < 1000000000) : Dim (.leaf (pyM M)) 4 := ⟨.num (by simp) hM, fun h _ => by subst h; exact infer_num M 4 _⟩
theorem infer_ok {t : Tr} {d : Int} (ht : Dim t d) {X : Sx} {hi : Nat} {w : World} (h : TrR t X hi w) (hhi : hi <= w.heap.size) (hw : Mt w) : Calls Tryz.prog 109 #[X.agg, .slice none 0 0] w fun e w' => e = .returned (.tuple #[.int .i64 d, .int .i64 0]) /\ Below w.heap.size w w' := by
 obtain ⟨W, hW, b, r⟩ := sx_new w X
 have hz := b.size
 have hv := validexpr_ok ht.ok (h.below (b.mono hhi)) (Nat.le_trans hhi hz) (hw.kp b)
 have hf := fun u (hb : Below w.heap.size w u) => ht.inf (h.below (hb.mono hhi)) (Nat.le_trans hhi hb.size)
 have HF := Lib.hid hf
 clear hf h
 obtain ⟨s0, s1, s2, s3, s4, s5⟩ := sbox r
 obtain ⟨xo, xn, xd, xm, xs, xA, xk, xc⟩ := X
 unfold Sx.agg at hv ⊢
 dsimp only [sBox] at hW s0 s1 s2 s3 s4 s5 hv
 go_enter Tryz.func109, Tryz.ntmps109
 go_upto_region 1 with (fail)
 clear hW
 go_wp2_with fail
 refine hv.mono ?_
 rintro e w1 ⟨rfl, b1⟩
 have hb1 := b.trans (b1.mono b.size)
 have r1 := (b1.block w.heap.size (by exact (gis r).1)).trans r
 go_wp2_with fail
 refine (bcon_nil _).mono ?_
 rintro e w2 ⟨rfl, b2⟩
 have hb2 := hb1.trans (b2.mono hb1.size)
 have r2 := (b2.block w.heap.size (by exact (gis r1).1)).trans r1
 obtain ⟨k0, k1, k2, k3, k4, k5⟩ := sbox (v := ⟨xo, xn, xd, xm, xs, xA, xk, xc⟩) r2
 have hf := HF.out w2 hb2
 unfold Sx.agg at hf
 dsimp only at k0 k1 k2 k3 k4 k5 hf
 clear s0 s1 s2 s3 s4 s5 hv
 go_wp2_with fail
 refine hf.mono ?_
 rintro e w3 ⟨rfl, b3⟩
 go_wp2_with fail
 go_ret2
 exact ⟨rfl, hb2.trans (b3.mono hb2.size)⟩
theorem of_ok {t : Tr} {d : Int} (ht : Dim t d) {X : Sx} {hi : Nat} {w : World} (h : TrR t X hi w) (hhi : hi <= w.heap.size) (hw : Mt w) : Calls Tryz.prog 59 #[X.agg, .slice none 0 0, .int .i64 d] w fun e w' => e = .returned (.int .i64 0) /\ Below w.heap.size w w' := by
 obtain ⟨W, hW, b, r⟩ := sx_new w X
 have hv := infer_ok ht (h.below (b.mono hhi)) (Nat.le_trans hhi b.size) (hw.kp b)
 have dd : (d != d) = false := by simp
 clear h
 obtain ⟨s0, s1, s2, s3, s4, s5⟩ := sbox r
 obtain ⟨xo, xn, xd, xm, xs, xA, xk, xc⟩ := X
 unfold Sx.agg at hv ⊢
 dsimp only [sBox] at hW s0 s1 s2 s3 s4 s5 hv
 go_enter Tryz.func59, Tryz.ntmps59
 go_upto_region 1 with (fail)
 clear hW
 go_wp2_with fail
 refine hv.mono ?_
 rintro e w1 ⟨rfl, b1⟩
 go_wp2_with fail
 go_ret
 exact ⟨rfl, b.trans (b1.mono b.size)⟩
end
section
theorem tok_kept {x : Rv} {v : Bool} {W : World} (hv : okR x.r = v) (hm : Rd W W.heap.size 1 x.a x.r.m.length (ints x.r.m)) (hml : x.r.m.length <= maxLen) (u : Kw W) :
  Calls Tryz.prog 113 #[.agg #[.int .i64 x.r.f, .int .i64 x.r.d, .int .i64 x.r.p, .int .i64 x.r.b, .slice x.a x.r.m.length x.c]] u.1 fun e w'' => e = .returned (.bool v) /\ ∃ u' : Kw W, w'' = u'.1 :=
 (tok_any x ((hm.below u.2).mono u.2.size) hml).mono fun _ _ ⟨h1, h2⟩ => ⟨by rw [h1, hv], u.call h2⟩
theorem tcheck_any {A : Option Addr} {n c : Nat} {X : List Rv} {w : World} (hX : Rus w w.heap.size A n X) (hn : n <= maxLen) (hml : ∀ x ∈ X, x.r.m.length <= maxLen) :
  Calls Tryz.prog 62 #[.slice A n c] w fun e w' => e = .returned (.int .i64 (chkT (X.map Rv.r))) /\ Below w.heap.size w w' := by
 have hXl : (X.map Rv.r).length = n := by rw [List.length_map]; exact hX.2.1
 have HXL := Lib.hid hXl
 have HML := Lib.hid hml
 clear hml hXl
 unfold maxLen at hn
 by_cases h8 : 8 < n
 ·have h8' : (8 : Int) < (n : Int) := by omega
  have hv : chkT (X.map Rv.r) = 7 := by unfold chkT; rw [if_pos (by rw [HXL.out]; exact h8)]
  have HV := Lib.hid hv
  clear hv
  go_enter Tryz.func62, Tryz.ntmps62
  go_wp2_with fail
  go_ret
  exact ⟨ret_int HV.out.symm, Below.refl _ _⟩
 have h8' : ¬ (8 : Int) < (n : Int) := by omega
 by_cases h0 : n = 0
 ·subst h0
  have hv : chkT (X.map Rv.r) = 1 := by rw [List.eq_nil_of_length_eq_zero HXL.out]; rfl
  have HV := Lib.hid hv
  clear hv
  go_enter Tryz.func62, Tryz.ntmps62
  go_wp2_with fail
  go_ret
  exact ⟨ret_int HV.out.symm, Below.refl _ _⟩
 have h0' : ((n : Int) == 0) = false := beq_eq_false_iff_ne.2 (by omega)
 have h0'' : ¬ (n : Int) = 0 := by omega
 obtain ⟨y, hy⟩ : ∃ y, X[0]? = some y := ⟨_, List.getElem?_eq_getElem (by rw [hX.2.1]; omega)⟩
 obtain ⟨_, g0, o0, rfl, hg0, q0, _⟩ := rv_cells hX hy
 have q0' : w.cell? ⟨g0, o0, none⟩ = some (.int .i64 y.r.f) := by simpa using q0
 have hlo0 : (0 : Int) < (n : Int) := by omega
 have hX0 : ∃ T, X.map Rv.r = y.r :: T := by
  cases hXX : X with
  | nil => rw [hXX] at hy; simp at hy
  | cons a T => rw [hXX] at hy; simp at hy; exact ⟨T.map Rv.r, by rw [List.map_cons, hy]⟩
 obtain ⟨T, hT⟩ := hX0
 have hck : chkT (X.map Rv.r) = if y.r.f = 0 then if okT (-1) (X.map Rv.r) = true then 0 else 1 else 1 := by
  have h9 : ¬ 8 < (X.map Rv.r).length := by rw [HXL.out]; exact h8
  unfold chkT
  rw [if_neg h9, hT]
 have HCK := Lib.hid hck
 clear hy q0 hT hck
 by_cases hf0 : y.r.f = 0
 ·have hf1 : (y.r.f == 0) = true := beq_iff_eq.2 hf0
  rw [hf0] at q0'
  have HC2 : Hid (chkT (X.map Rv.r) = if okT (-1) (X.map Rv.r) = true then 0 else 1) := Lib.hid (by rw [HCK.out, if_pos hf0])
  clear HCK hf0 hf1
  go_enter Tryz.func62, Tryz.ntmps62
  go_wp2_with fail
  go_loopw [20] (fun i wr => ∃ k : Nat, k <= n /\ i = .int .i64 (k : Int) /\ okT (-1) ((X.map Rv.r).take k) = true /\ Below w.heap.size w wr) (fun i _ => n - (intOf i).toNat)
  case atStart => exact ⟨0, by omega, rfl, rfl, Below.refl _ _⟩
  case round =>
   obtain ⟨k, hk, rfl, hok, hb⟩ := hrel
   have HK := Lib.hid hok
   have hwz := hb.size
   clear hok q0'
   by_cases hlt : k < n
   ·obtain ⟨x, hx⟩ : ∃ x, X[k]? = some x := ⟨_, List.getElem?_eq_getElem (by rw [hX.2.1]; exact hlt)⟩
    obtain ⟨_, g, o, hA, hgb, e0, e1, e2, e3, e4, hm⟩ := rv_cells (hX.below hb) hx
    injection hA with hA
    injection hA with hA1 hA2
    subst hA1 hA2
    have hml2 := HML.out x (List.mem_of_getElem? hx)
    have hst := okT_take (b := -1) (show (X.map Rv.r)[k]? = some x.r by rw [List.getElem?_map, hx]; rfl)
    have HST := Lib.hid hst
    have hlo : (0 : Int) <= (k : Int) := by omega
    have hhi : (k : Int) < (n : Int) := by omega
    clear hst
    go_upto_region 8 with (fail)
    have hrow := heap_alloc_new wr (.cells #[.int .i64 x.r.f, .int .i64 x.r.d, .int .i64 x.r.p, .int .i64 x.r.b, .slice x.a x.r.m.length x.c] 56)
    have hbx := (Below.refl wr.heap.size wr).alloc (Nat.le_refl _) (.cells #[.int .i64 x.r.f, .int .i64 x.r.d, .int .i64 x.r.p, .int .i64 x.r.b, .slice x.a x.r.m.length x.c] 56)
    obtain ⟨V, hV⟩ : ∃ V, V = wr.alloc (.cells #[.int .i64 x.r.f, .int .i64 x.r.d, .int .i64 x.r.p, .int .i64 x.r.b, .slice x.a x.r.m.length x.c] 56) := ⟨_, rfl⟩
    rw [<- hV] at hrow hbx ⊢
    clear hV e0 e1 e2 e3 e4
    have hbV := hb.trans (hbx.mono hwz)
    have hzV := hbV.size
    have hboxl : wr.heap.size < V.heap.size := (gis hrow).1
    have hmV : Rd V V.heap.size 1 x.a x.r.m.length (ints x.r.m) := (hm.below (hbx.mono hwz)).mono hzV
    have x0 : V.cell? ⟨wr.heap.size, 0, none⟩ = some (.int .i64 x.r.f) := by rw [cell_of_row V _ 0 _ _ _ hrow]; rfl
    have x1 : V.cell? ⟨wr.heap.size, 1, none⟩ = some (.int .i64 x.r.d) := by rw [cell_of_row V _ 1 _ _ _ hrow]; rfl
    have x2 : V.cell? ⟨wr.heap.size, 2, none⟩ = some (.int .i64 x.r.p) := by rw [cell_of_row V _ 2 _ _ _ hrow]; rfl
    have x3 : V.cell? ⟨wr.heap.size, 3, none⟩ = some (.int .i64 x.r.b) := by rw [cell_of_row V _ 3 _ _ _ hrow]; rfl
    have x4 : V.cell? ⟨wr.heap.size, 4, none⟩ = some (.slice x.a x.r.m.length x.c) := by rw [cell_of_row V _ 4 _ _ _ hrow]; rfl
    have f0 : ∀ u : Kw V, u.1.cell? ⟨wr.heap.size, 0, none⟩ = some (.int .i64 x.r.f) := fun u => u.cell (p := ⟨wr.heap.size, 0, none⟩) hboxl x0
    have f1 : ∀ u : Kw V, u.1.cell? ⟨wr.heap.size, 1, none⟩ = some (.int .i64 x.r.d) := fun u => u.cell (p := ⟨wr.heap.size, 1, none⟩) hboxl x1
    have f2 : ∀ u : Kw V, u.1.cell? ⟨wr.heap.size, 2, none⟩ = some (.int .i64 x.r.p) := fun u => u.cell (p := ⟨wr.heap.size, 2, none⟩) hboxl x2
    have f3 : ∀ u : Kw V, u.1.cell? ⟨wr.heap.size, 3, none⟩ = some (.int .i64 x.r.b) := fun u => u.cell (p := ⟨wr.heap.size, 3, none⟩) hboxl x3
    have f4 : ∀ u : Kw V, u.1.cell? ⟨wr.heap.size, 4, none⟩ = some (.slice x.a x.r.m.length x.c) := fun u => u.cell (p := ⟨wr.heap.size, 4, none⟩) hboxl x4
    clear x0 x1 x2 x3 x4 hrow hm
    obtain ⟨t, ht⟩ : ∃ t, okR x.r = t := ⟨_, rfl⟩
    have HT := Lib.hid ht
    clear ht
    cases t
    ·have hno : okT (-1) (X.map Rv.r) = false := okT_cut (k := k + 1) (by rw [HST.out, HT.out]; simp)
     have HNO : Hid (chkT (X.map Rv.r) = 1) := Lib.hid (by rw [HC2.out, hno]; rfl)
     clear hno hx
     refine wp_region_kept (by kernel_rfl) (by kernel_rfl) ?_
     repeat (go_big_quiet_step ((go_at_call 113; with_reducible exact tok_kept HT.out hmV hml2 _)))
     refine wpQuiet_nil ?_
     intro _ hw'
     obtain ⟨⟨w2, hb2⟩, rfl⟩ := hw'
     have hB2 := hbV.trans (hb2.mono hzV)
     go_wp2_with fail
     go_ret
     exact ⟨ret_int HNO.out.symm, hB2⟩
    ·by_cases hk0 : k = 0
     ·subst hk0
      have hd0 : decide ((0 : Int) < ((0 : Nat) : Int)) = false := decide_eq_false (by omega)
      have hd1 : ¬ (0 : Int) < ((0 : Nat) : Int) := by omega
      have hxf : 0 <= x.r.f := by
       have := HT.out
       rw [okR_parts] at this
       simp only [Bool.and_eq_true, isD_iff] at this
       exact this.1.1.1.1.1
      have HTT : Hid (okT (-1) ((X.map Rv.r).take (0 + 1)) = true) := Lib.hid (by
       rw [HST.out, HK.out, HT.out, Bool.true_and, Bool.true_and, decide_eq_true_eq]
       show (-1 : Int) < x.r.f
       omega)
      clear hx hxf
      refine wp_region_kept (by kernel_rfl) (by kernel_rfl) ?_
      repeat (go_big_quiet_step ((go_at_call 113; with_reducible exact tok_kept HT.out hmV hml2 _)))
      refine wpQuiet_nil ?_
      intro _ hw'
      obtain ⟨⟨w2, hb2⟩, rfl⟩ := hw'
      have hB2 := hbV.trans (hb2.mono hzV)
      go_wp2_with fail
      go_roundw
      case rel => exact ⟨1, by omega, by go_num, HTT.out, hB2⟩
      case measure => simp [intOf]; omega
     ·have hd0 : decide (0 < k) = true := decide_eq_true (by omega)
      have hd1 : (0 : Int) < (k : Int) := by omega
      have hw1 : IntKind.i64.wrap ((k : Int) - 1) = (k : Int) - 1 := IntWalk.i64_in _ (by omega)
      have hlo1 : (0 : Int) <= (k : Int) - 1 := by omega
      have hhi1 : (k : Int) - 1 < (n : Int) := by omega
      have hk1 : 1 <= k := by omega
      have hk2 : (1 : Int) <= (k : Int) := by omega
      have hk3 : (k : Int) <= (n : Int) := by omega
      obtain ⟨z, hz⟩ : ∃ z, X[k - 1]? = some z := ⟨_, List.getElem?_eq_getElem (by rw [hX.2.1]; omega)⟩
      obtain ⟨_, g', o', hA, _, z0, _⟩ := rv_cells (hX.below hbV) hz
      injection hA with hA
      injection hA with hA1 hA2
      subst hA1 hA2
      have hgV : g0 < V.heap.size := by omega
      have p0 : ∀ u : Kw V, u.1.cell? ⟨g0, o0 + (k - 1) * 5, none⟩ = some (.int .i64 z.r.f) := fun u => u.cell (p := ⟨g0, o0 + (k - 1) * 5, none⟩) hgV z0
      have hlm : lastT (-1) ((X.map Rv.r).take k) = z.r.f := by
       have := lastT_take (b := -1) (show (X.map Rv.r)[k - 1]? = some z.r by rw [List.getElem?_map, hz]; rfl)
       rwa [show k - 1 + 1 = k by omega] at this
      have HLM := Lib.hid hlm
      clear hlm hz z0 hx
      by_cases hyz : x.r.f <= z.r.f
      ·have dyz : decide (x.r.f <= z.r.f) = true := decide_eq_true hyz
       have hno : okT (-1) (X.map Rv.r) = false := okT_cut (k := k + 1) (by
        rw [HST.out, HK.out, HT.out, Bool.true_and, Bool.true_and, decide_eq_false_iff_not, HLM.out]
        omega)
       have HNO : Hid (chkT (X.map Rv.r) = 1) := Lib.hid (by rw [HC2.out, hno]; rfl)
       clear hno
       refine wp_region_kept (by kernel_rfl) (by kernel_rfl) ?_
       repeat (go_big_quiet_step ((go_at_call 113; with_reducible exact tok_kept HT.out hmV hml2 _)))
       refine wpQuiet_nil ?_
       intro _ hw'
       obtain ⟨⟨w2, hb2⟩, rfl⟩ := hw'
       have hB2 := hbV.trans (hb2.mono hzV)
       go_wp2_with fail
       go_ret
       exact ⟨ret_int HNO.out.symm, hB2⟩
      ·have dyz : decide (x.r.f <= z.r.f) = false := decide_eq_false hyz
       have HTT : Hid (okT (-1) ((X.map Rv.r).take (k + 1)) = true) := Lib.hid (by
        rw [HST.out, HK.out, HT.out, Bool.true_and, Bool.true_and, decide_eq_true_eq, HLM.out]
        omega)
       refine wp_region_kept (by kernel_rfl) (by kernel_rfl) ?_
       repeat (go_big_quiet_step ((go_at_call 113; with_reducible exact tok_kept HT.out hmV hml2 _)))
       refine wpQuiet_nil ?_
       intro _ hw'
       obtain ⟨⟨w2, hb2⟩, rfl⟩ := hw'
       have hB2 := hbV.trans (hb2.mono hzV)
       go_wp2_with fail
       go_roundw
       case rel => exact ⟨k + 1, by omega, by go_num, HTT.out, hB2⟩
       case measure => simp [intOf]; omega
   ·have hok : okT (-1) (X.map Rv.r) = true := by
     have := HK.out
     rwa [List.take_of_length_le (by rw [HXL.out]; omega)] at this
    have HNO : Hid (chkT (X.map Rv.r) = 0) := Lib.hid (by rw [HC2.out, hok]; rfl)
    clear hok
    go_wp2_with fail
    go_ret
    exact ⟨ret_int HNO.out.symm, hb⟩
 ·have hf1 : (y.r.f == 0) = false := beq_eq_false_iff_ne.2 hf0
  have HNO : Hid (chkT (X.map Rv.r) = 1) := Lib.hid (by rw [HCK.out, if_neg hf0])
  clear HCK
  go_enter Tryz.func62, Tryz.ntmps62
  go_wp2_with fail
  go_ret
  exact ⟨ret_int HNO.out.symm, Below.refl _ _⟩
end
section
theorem norm_last : ∀ {L : List Sp} {lo : Int} {q : Sp}, NormFrom lo (L ++ [q]) -> lo < q.f /\ q.f < q.t /\ ∀ s ∈ L, s.t < q.f
 | [], _, q, ⟨h1, h2, _, _⟩ => ⟨h1, h2, by simp⟩
 | s :: L, lo, q, ⟨h1, h2, h3, h4⟩ => by
  obtain ⟨k1, k2, k3⟩ := norm_last (L := L) h4
  refine ⟨by omega, k2, fun p hp => ?_⟩
  rcases List.mem_cons.1 hp with rfl | hp
  ·exact k1
  ·exact k3 p hp
theorem last_prev {S T : Int -> Bool} {d : Int} (h : ∀ x, (isD x && S x) = (T x && decide (0 <= x /\ x < d))) : (lastV (nf S) = (0, false) /\ prevD T d = -1) ∨ ∃ p, lastV (nf S) = (p, true) /\ prevD T d = p /\ 0 <= p /\ p < d := by
 have hn := nf_norm S
 have hc := nf_cov S
 rcases List.eq_nil_or_concat (nf S) with e | ⟨L, q, e⟩
 ·left
  rw [e] at hc ⊢
  refine ⟨rfl, isPrev_eq (prevD_spec T d) (.inl ⟨rfl, fun x h0 hd => ?_⟩)⟩
  have h1 := hc x
  rw [cov_nil, h x] at h1
  have h2 : decide (0 <= x /\ x < d) = true := decide_eq_true ⟨h0, hd⟩
  rw [h2, Bool.and_true] at h1
  exact h1.symm
 ·right
  rw [List.concat_eq_append] at e
  rw [e] at hn hc ⊢
  obtain ⟨k1, k2, k3⟩ := norm_last hn
  have hq : cov (L ++ [q]) (q.t - 1) = true := (cov_iff _ _).2 ⟨q, by simp, by omega, by omega⟩
  rw [hc, h] at hq
  simp only [Bool.and_eq_true, decide_eq_true_eq] at hq
  refine ⟨q.t - 1, by unfold lastV; simp, isPrev_eq (prevD_spec T d) (.inr ⟨hq.2.1, hq.2.2, hq.1, fun x h0 hd => ?_⟩), hq.2.1, hq.2.2⟩
  rw [Bool.eq_false_iff]
  intro hT
  have h2 : cov (L ++ [q]) x = true := by
   rw [hc, h, hT, Bool.true_and]
   exact decide_eq_true ⟨by omega, hd⟩
  obtain ⟨s, hs, h3, h4⟩ := (cov_iff _ _).1 h2
  rcases List.mem_append.1 hs with hs | hs
  ·have := k3 s hs; omega
  ·rw [List.mem_singleton.1 hs] at h4; omega
theorem first_foll {S T : Int -> Bool} {d : Int} (h : ∀ x, (isD x && S x) = (T x && decide (d < x /\ x < 73049))) : (nthV (nf S) 0 = (0, false) /\ follD T d = 73049) ∨ ∃ p, nthV (nf S) 0 = (p, true) /\ follD T d = p := by
 have hn := nf_norm S
 have hc := nf_cov S
 cases e : nf S with
 | nil =>
  left
  rw [e] at hc
  refine ⟨rfl, isFoll_eq (follD_spec T d) (.inl ⟨rfl, fun x h0 hd => ?_⟩)⟩
  have h1 := hc x
  rw [cov_nil, h x] at h1
  have h2 : decide (d < x /\ x < 73049) = true := decide_eq_true ⟨h0, hd⟩
  rw [h2, Bool.and_true] at h1
  exact h1.symm
 | cons s r =>
  right
  rw [e] at hn hc
  obtain ⟨k1, k2, k3, k4⟩ := hn
  have hq : cov (s :: r) s.f = true := (cov_iff _ _).2 ⟨s, by simp, by omega, by omega⟩
  rw [hc, h] at hq
  simp only [Bool.and_eq_true, decide_eq_true_eq] at hq
  refine ⟨s.f, ?_, isFoll_eq (follD_spec T d) (.inr ⟨hq.2.1, hq.2.2, hq.1, fun x h0 hd => ?_⟩)⟩
  ·show nthL (s :: r) 0 = _
   unfold nthL
   rw [if_pos (by omega), Int.add_zero]
  ·rw [Bool.eq_false_iff]
   intro hT
   have h2 : cov (s :: r) x = true := by
    rw [hc, h, hT, Bool.true_and]
    exact decide_eq_true ⟨h0, by omega⟩
   rw [cov_cons, cov_low k4 (by omega), Bool.or_false, inS_iff] at h2
   omega
def bdO (C : List Pr) : List (List Sp) := (List.range 42).map fun m => ofL C ((m / 7 : Nat) : Int) (((m % 7 : Nat) : Int) + 1)
theorem bdO_bdL (C : List Pr) : (bdO C).map (fun l => nf (dset l)) = bdL C := rfl
theorem bdO_len (C : List Pr) : (bdO C).length = 42 := by unfold bdO; simp
theorem bdO_at (C : List Pr) {i j : Nat} (hi : i < 6) (hj : j < 7) : (bdO C)[i * 7 + j]? = some (ofL C (i : Int) ((j : Int) + 1)) := by
 unfold bdO
 rw [List.getElem?_map, List.getElem?_range (by omega), Option.map_some, show (i * 7 + j) / 7 = i by omega, show (i * 7 + j) % 7 = j by omega]
def Bd (w : World) (base g : Nat) (C : List Pr) : Prop := ∃ vs : List Value, w.heap[g]? = some (.cells vs.toArray 312 (0, 0)) /\ vs.length = 42 /\ Nls w base 42 vs (bdO C)
theorem Bd.under {w w' : World} {base g : Nat} {C : List Pr} (h : Bd w base g C) (hb : Below w.heap.size w w') : Bd w' base g C := by
 obtain ⟨vs, h1, h2, h3⟩ := h
 exact ⟨vs, (hb.block g (gis h1).1).trans h1, h2, h3.under hb⟩
theorem Bd.lt {w : World} {base g : Nat} {C : List Pr} (h : Bd w base g C) : g < w.heap.size := by
 obtain ⟨vs, h1, _⟩ := h
 exact (gis h1).1
theorem Bd.at {w : World} {base g : Nat} {C : List Pr} (h : Bd w base g C) {i j : Nat} (hi : i < 6) (hj : j < 7) :
  ∃ A N c l, w.cell? ⟨g, i * 7 + j, none⟩ = some (.slice A N c) /\ Ds w A N l /\ N <= 2 * C.length /\ ∀ x, dset l x = Dd C (i : Int) ((j : Int) + 1) x := by
 obtain ⟨vs, h1, h2, h3⟩ := h
 obtain ⟨v, hv⟩ : ∃ v, vs[i * 7 + j]? = some v := ⟨_, List.getElem?_eq_getElem (by omega)⟩
 obtain ⟨A, c, rfl, ho⟩ := h3 (i * 7 + j) v _ (by omega) hv (bdO_at C hi hj)
 refine ⟨A, _, c, _, ?_, Ds.ofOwn ho rfl, ?_, fun x => dd_nf C _ _ x⟩
 ·rw [cell_of_row w g (i * 7 + j) _ _ _ h1]
  simpa using hv
 ·exact Nat.le_trans (nf_length_le rfl) (Nat.mul_le_mul_left 2 (ofL_length C _ _))
theorem previous_any {w : World} {base g : Nat} {C : List Pr} (i : Nat) (d : Int) (h : Bd w base g C) (hi : i < 6) (hC : C.length <= 100) (_ : 0 <= d) (_ : d <= 73049) :
  Calls Tryz.prog 290 #[.pointer (some ⟨g, 0, none⟩), .int .i64 (i : Int), .int .i64 d] w fun e w' => e = .returned (.int .i64 (prevD (Dd C (i : Int) 1) d)) /\ Below w.heap.size w w' := by
 obtain ⟨A, N, c, l, hc, hds, hN, hD⟩ := h.at hi (show 0 < 7 by omega)
 have hN2 : N <= 200 := by omega
 have hi6 : (i : Int) < 6 := by omega
 have hi0 : (0 : Int) <= (i : Int) := by omega
 have key := last_prev (S := fun x => dset (nf fun x => dset l x && dset [⟨0, d⟩] x) x) (T := Dd C (i : Int) 1) (d := d) fun x => by
  rw [dset_isD, dset_nf, hD]
  have e1 : dset [⟨0, d⟩] x = (isD x && decide (0 <= x /\ x < d)) := by
   unfold dset
   rw [cov_cons, cov_nil, Bool.or_false]
   congr 1
   rw [Bool.eq_iff_iff, inS_iff]
   simp
  rw [e1]
  have e2 : (((0 : Nat) : Int) + 1) = 1 := rfl
  rw [e2]
  cases hx : isD x with
  | true => simp
  | false =>
   have : Dd C (i : Int) 1 x = false := by
    unfold Dd
    exact dset_off hx
   rw [this]
   rfl
 have hlen := nfc_len (la := l) (lb := [⟨0, d⟩]) (m := 1) (fun x y => x && y) rfl hds.2 rfl
 have hl2 : (nf fun x => dset l x && dset [⟨0, d⟩] x).length <= 1000 := by omega
 have HK := Lib.hid key
 have HD := Lib.hid hD
 clear key hlen hN hD h
 rw [Nat.add_zero] at hc
 go_enter Tryz.func290, Tryz.ntmps290
 go_wp2_with fail
 refine (clip_any 0 d hds (by omega)).mono ?_
 rintro e w1 ⟨A1, c1, rfl, hown1, hb1⟩
 have hd1 := Ds.ofOwn hown1 rfl
 clear hown1
 generalize hm : nf (fun x => dset l x && dset [⟨0, d⟩] x) = m at *
 clear hm
 go_wp2_with fail
 refine (last_any (l := m) hd1 (by omega)).mono ?_
 rintro e w2 ⟨rfl, hb2⟩
 have hbb := hb1.trans (hb2.mono hb1.size)
 rcases HK.out with ⟨h1, h2⟩ | ⟨p, h1, h2, _⟩
 ·have h1' : lastV (nf (dset m)) = (0, false) := h1
  rw [h1']
  have H2 := Lib.hid h2
  clear h1 h1' h2
  unfold pairV
  go_wp2_with fail
  go_ret
  exact ⟨ret_int H2.out.symm, hbb⟩
 ·have h1' : lastV (nf (dset m)) = (p, true) := h1
  rw [h1']
  have H2 := Lib.hid h2
  clear h1 h1' h2
  unfold pairV
  go_wp2_with fail
  go_ret
  exact ⟨ret_int H2.out.symm, hbb⟩
theorem following_any {w : World} {base g : Nat} {C : List Pr} (i : Nat) (d : Int) (h : Bd w base g C) (hi : i < 6) (hC : C.length <= 100) (hd0 : 0 <= d) (hd1 : d <= 73049) :
  Calls Tryz.prog 291 #[.pointer (some ⟨g, 0, none⟩), .int .i64 (i : Int), .int .i64 d] w fun e w' => e = .returned (.int .i64 (follD (Dd C (i : Int) 1) d)) /\ Below w.heap.size w w' := by
 obtain ⟨A, N, c, l, hc, hds, hN, hD⟩ := h.at hi (show 0 < 7 by omega)
 have hN2 : N <= 200 := by omega
 have hi6 : (i : Int) < 6 := by omega
 have hi0 : (0 : Int) <= (i : Int) := by omega
 have key := first_foll (S := fun x => dset (nf fun x => dset l x && dset [⟨d + 1, 73049⟩] x) x) (T := Dd C (i : Int) 1) (d := d) fun x => by
  rw [dset_isD, dset_nf, hD]
  have e1 : dset [⟨d + 1, 73049⟩] x = (isD x && decide (d < x /\ x < 73049)) := by
   unfold dset
   rw [cov_cons, cov_nil, Bool.or_false]
   congr 1
   rw [Bool.eq_iff_iff, inS_iff]
   simp
   omega
  rw [e1]
  have e2 : (((0 : Nat) : Int) + 1) = 1 := rfl
  rw [e2]
  cases hx : isD x with
  | true => simp
  | false =>
   have : Dd C (i : Int) 1 x = false := by
    unfold Dd
    exact dset_off hx
   rw [this]
   rfl
 have hlen := nfc_len (la := l) (lb := [⟨d + 1, 73049⟩]) (m := 1) (fun x y => x && y) rfl hds.2 rfl
 have hl2 : (nf fun x => dset l x && dset [⟨d + 1, 73049⟩] x).length <= 1000 := by omega
 have HK := Lib.hid key
 have HD := Lib.hid hD
 clear key hlen hN hD h
 rw [Nat.add_zero] at hc
 go_enter Tryz.func291, Tryz.ntmps291
 go_wp2_with fail
 refine (clip_any (d + 1) 73049 hds (by omega)).mono ?_
 rintro e w1 ⟨A1, c1, rfl, hown1, hb1⟩
 have hd1 := Ds.ofOwn hown1 rfl
 clear hown1
 generalize hm : nf (fun x => dset l x && dset [⟨d + 1, 73049⟩] x) = m at *
 clear hm
 go_wp2_with fail
 refine (nth_any (l := m) 0 hd1 (by omega) ⟨by omega, by omega⟩).mono ?_
 rintro e w2 ⟨rfl, hb2⟩
 have hbb := hb1.trans (hb2.mono hb1.size)
 rcases HK.out with ⟨h1, h2⟩ | ⟨p, h1, h2⟩
 ·have h1' : nthV (nf (dset m)) 0 = (0, false) := h1
  rw [h1']
  have H2 := Lib.hid h2
  clear h1 h1' h2
  unfold pairV
  go_wp2_with fail
  go_ret
  exact ⟨ret_int H2.out.symm, hbb⟩
 ·have h1' : nthV (nf (dset m)) 0 = (p, true) := h1
  rw [h1']
  have H2 := Lib.hid h2
  clear h1 h1' h2
  unfold pairV
  go_wp2_with fail
  go_ret
  exact ⟨ret_int H2.out.symm, hbb⟩
end
end Go.Proofs.YtnlopdmhdiegnaaGreatDoor
