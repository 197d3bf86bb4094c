/- Lemmas (no conditions): Sya, Syb -/
import Derived.Lib.SmallJoins
import Derived.Lib.AppendIntMem
import Derived.Test.YtnlopdmhdiegnaaGreatDoorPk15
set_option linter.unusedSimpArgs false
set_option linter.unusedVariables false
set_option maxRecDepth 100000
set_option maxHeartbeats 64000000
namespace Go.Proofs.YtnlopdmhdiegnaaGreatDoor
open Go.RowKit
section
def Rz (w : World) (hi g : Nat) (xs : List Value) : Prop := g < hi /\ ∀ j u, xs[j]? = some u -> w.cell? ⟨g, j, none⟩ = some u
theorem Rz.below {w w' : World} {hi g : Nat} {xs : List Value} (h : Rz w hi g xs) (hb : Below hi w w') : Rz w' hi g xs :=
 ⟨h.1, fun j u hu => by rw [hb.cell (by exact h.1)]; exact h.2 j u hu⟩
theorem Rz.mono {w : World} {hi hi' g : Nat} {xs : List Value} (h : Rz w hi g xs) (hh : hi <= hi') : Rz w hi' g xs := ⟨Nat.lt_of_lt_of_le h.1 hh, h.2⟩
theorem Rz.ofOwn {w : World} {lo e sz n c : Nat} {A : Option Addr} {xs : List Value} (h : w.ownsRow lo e sz (.slice A n c) n xs) (hn : 0 < n) : ∃ g, A = some ⟨g, 0, none⟩ /\ Rz w w.heap.size g xs /\ lo <= g /\ n <= c := by
 rcases h.2 with ⟨_, h0⟩ | ⟨g, cap, cur, hv, hb, hg, hnc, hcm, hcs, ht⟩
 ·omega
 ·injection hv with hA _ hc
  refine ⟨g, hA, ⟨(gis hg).1, fun j u hu => ?_⟩, hb, by omega⟩
  have := h.cells (g := g) (by rw [hA]; rfl) j u hu
  rw [addAt] at this
  simpa using this
theorem Rz.ofRow {w : World} {g : Nat} {cs : Array Value} {t : TypeId} {fr : Nat × Nat} (h : w.heap[g]? = some (.cells cs t fr)) : Rz w w.heap.size g cs.toList := by
 refine ⟨(gis h).1, fun j u hu => ?_⟩
 rw [cell_of_row _ _ _ _ _ _ h]
 simpa using hu
def TrR (t : Tr) (X : Sx) (hi : Nat) (w : World) : Prop :=
 match t with
 | .leaf v => X = ⟨v.o, v.n, v.d, v.m, v.s, none, 0, 0⟩
 | .cmp u v => ∃ g c, X = ⟨16, 0, 0, 0, ⟨#[]⟩, some ⟨g, 0, none⟩, 2, c⟩ /\ 2 <= c /\ Rz w hi g (u.cells ++ v.cells)
theorem TrR.below {t : Tr} {X : Sx} {hi : Nat} {w w' : World} (h : TrR t X hi w) (hb : Below hi w w') : TrR t X hi w' := by
 cases t with
 | leaf v => exact h
 | cmp u v =>
  obtain ⟨g, c, h1, h2, h3⟩ := h
  exact ⟨g, c, h1, h2, h3.below hb⟩
theorem TrR.mono {t : Tr} {X : Sx} {hi hi' : Nat} {w : World} (h : TrR t X hi w) (hh : hi <= hi') : TrR t X hi' w := by
 cases t with
 | leaf v => exact h
 | cmp u v =>
  obtain ⟨g, c, h1, h2, h3⟩ := h
  exact ⟨g, c, h1, h2, h3.mono hh⟩
theorem TrX.rd {t : Tr} {X : Sx} {lo : Nat} {w : World} (h : TrX t X lo w) : TrR t X w.heap.size w := by
 cases t with
 | leaf v => exact h
 | cmp u v =>
  obtain ⟨g, h1, h2, h3⟩ := h
  exact ⟨g, 2, h1, Nat.le_refl _, Rz.ofRow h3⟩
theorem rz_two {w : World} {hi g : Nat} {u v : Lf} (h : Rz w hi g (u.cells ++ v.cells)) : (w.cell? ⟨g, 0, none⟩ = some (.int .i64 u.o) /\ w.cell? ⟨g, 1, none⟩ = some (.int .i64 u.n) /\ w.cell? ⟨g, 2, none⟩ = some (.int .i64 u.d) /\ w.cell? ⟨g, 3, none⟩ = some (.int .i64 u.m) /\ w.cell? ⟨g, 4, none⟩ = some (.string u.s) /\ w.cell? ⟨g, 5, none⟩ = some (.slice none 0 0)) ∧
  (w.cell? ⟨g, 6, none⟩ = some (.int .i64 v.o) /\ w.cell? ⟨g, 7, none⟩ = some (.int .i64 v.n) /\ w.cell? ⟨g, 8, none⟩ = some (.int .i64 v.d) /\ w.cell? ⟨g, 9, none⟩ = some (.int .i64 v.m) /\ w.cell? ⟨g, 10, none⟩ = some (.string v.s) /\ w.cell? ⟨g, 11, none⟩ = some (.slice none 0 0)) :=
 ⟨⟨h.2 0 _ rfl, h.2 1 _ rfl, h.2 2 _ rfl, h.2 3 _ rfl, h.2 4 _ rfl, h.2 5 _ rfl⟩, h.2 6 _ rfl, h.2 7 _ rfl, h.2 8 _ rfl, h.2 9 _ rfl, h.2 10 _ rfl, h.2 11 _ rfl⟩
def Tr.sz : Tr -> Int
 | .leaf _ => 1
 | .cmp _ _ => 3
def Tr.dp : Tr -> Int
 | .leaf _ => 1
 | .cmp _ _ => 2
theorem lf_new (w : World) (v : Lf) : ∃ W, w.alloc (lBox v) = W /\ Below w.heap.size w W /\ W.heap[w.heap.size]? = some (lBox v) :=
 ⟨_, rfl, (Below.refl _ _).alloc (Nat.le_refl _) _, heap_alloc_new w _⟩
theorem sx_new (w : World) (v : Sx) : ∃ W, w.alloc (sBox v) = W /\ Below w.heap.size w W /\ W.heap[w.heap.size]? = some (sBox v) :=
 ⟨_, rfl, (Below.refl _ _).alloc (Nat.le_refl _) _, heap_alloc_new w _⟩
theorem depth_leaf (v : Lf) (w : World) : Calls Tryz.prog 163 #[v.agg] w fun e w' => e = .returned (.int .i64 1) /\ Below w.heap.size w w' := by
 obtain ⟨W, hW, b, r⟩ := lf_new w v
 obtain ⟨g0, g1, g2, g3, g4, g5⟩ := lbox r
 obtain ⟨o, n, d, m, s⟩ := v
 unfold Lf.agg
 dsimp only [lBox] at hW g0 g1 g2 g3 g4 g5
 go_enter Tryz.func163, Tryz.ntmps163
 go_upto_block 0 with (fail)
 clear hW
 go_wp2_with fail
 refine wp_loop_rounds 1 ?_
 rw [rounds_succ]
 go_wp2_with fail
 go_ret
 exact ⟨rfl, b⟩
theorem depth_cmp (u v : Lf) (g c hi : Nat) (w : World) (hc : 2 <= c) (h : Rz w hi g (u.cells ++ v.cells)) (hhi : hi <= w.heap.size) : Calls Tryz.prog 163 #[.agg #[.int .i64 16, .int .i64 0, .int .i64 0, .int .i64 0, .string ⟨#[]⟩, .slice (some ⟨g, 0, none⟩) 2 c]] w fun e w' => e = .returned (.int .i64 2) /\ Below w.heap.size w w' := by
 obtain ⟨W, hW, b, r⟩ := sx_new w ⟨16, 0, 0, 0, ⟨#[]⟩, some ⟨g, 0, none⟩, 2, c⟩
 obtain ⟨s0, s1, s2, s3, s4, s5⟩ := sbox r
 dsimp only [sBox] at hW s0 s1 s2 s3 s4 s5
 obtain ⟨⟨e0, e1, e2, e3, e4, e5⟩, _⟩ := rz_two (h.below (b.mono hhi))
 have hgl := h.1
 have hv2 := fun w2 (hb : Below hi w w2) => (rz_two (h.below hb)).2
 have HV2 := Lib.hid hv2
 clear hv2
 obtain ⟨uo, un, ud, um, us⟩ := u
 obtain ⟨vo, vn, vd, vm, vs⟩ := v
 dsimp only [lBox, Lf.agg] at e0 e1 e2 e3 e4 e5
 go_enter Tryz.func163, Tryz.ntmps163
 go_upto_block 0 with (fail)
 clear hW
 go_wp2_with fail
 refine wp_loop_rounds 3 ?_
 rw [rounds_succ]
 go_upto_region 5 with (fail)
 obtain ⟨W1, hW1, b1, r1⟩ := lf_new W ⟨uo, un, ud, um, us⟩
 have hL := depth_leaf ⟨uo, un, ud, um, us⟩ W1
 dsimp only [lBox, Lf.agg] at hW1 hL
 rw [hW1]
 clear hW1
 obtain ⟨t0, t1, t2, t3, t4, t5⟩ := lbox (v := ⟨uo, un, ud, um, us⟩) r1
 dsimp only at t0 t1 t2 t3 t4 t5
 go_wp2_with fail
 refine hL.mono ?_
 rintro e w2 ⟨rfl, b2⟩
 have hz1 := b.size
 have hz2 := b1.size
 have hb2 : Below w.heap.size w w2 := b.trans ((b1.trans (b2.mono b1.size)).mono b.size)
 obtain ⟨f0, f1, f2, f3, f4, f5⟩ := HV2.out w2 (hb2.mono hhi)
 clear e0 e1 e2 e3 e4 e5 t0 t1 t2 t3 t4 t5 s0 s1 s2 s3 s4 s5 r1 hL
 go_wp2_with fail
 rw [rounds_succ]
 go_upto_region 5 with (fail)
 obtain ⟨W3, hW3, b3, r3⟩ := lf_new w2 ⟨vo, vn, vd, vm, vs⟩
 have hR := depth_leaf ⟨vo, vn, vd, vm, vs⟩ W3
 obtain ⟨p0, p1, p2, p3, p4, p5⟩ := lbox r3
 dsimp only [lBox, Lf.agg] at hW3 hR p0 p1 p2 p3 p4 p5
 rw [hW3]
 clear hW3
 go_wp2_with fail
 refine hR.mono ?_
 rintro e w4 ⟨rfl, b4⟩
 have hb4 : Below w.heap.size w w4 := hb2.trans ((b3.trans (b4.mono b3.size)).mono hb2.size)
 go_wp2_with fail
 rw [rounds_succ]
 go_wp2_with fail
 go_ret
 exact ⟨rfl, hb4⟩
theorem depth_tr {t : Tr} {X : Sx} {hi : Nat} {w : World} (h : TrR t X hi w) (hhi : hi <= w.heap.size) : Calls Tryz.prog 163 #[X.agg] w fun e w' => e = .returned (.int .i64 t.dp) /\ Below w.heap.size w w' := by
 cases t with
 | leaf v => subst h; exact depth_leaf v w
 | cmp u v =>
  obtain ⟨g, c, rfl, h2, h3⟩ := h
  exact depth_cmp u v g c hi w h2 h3 hhi
theorem size_leaf (v : Lf) (w : World) : Calls Tryz.prog 164 #[v.agg] w fun e w' => e = .returned (.int .i64 1) /\ Below w.heap.size w w' := by
 obtain ⟨W, hW, b, r⟩ := lf_new w v
 obtain ⟨g0, g1, g2, g3, g4, g5⟩ := lbox r
 obtain ⟨o, n, d, m, s⟩ := v
 unfold Lf.agg
 dsimp only [lBox] at hW g0 g1 g2 g3 g4 g5
 go_enter Tryz.func164, Tryz.ntmps164
 go_upto_block 0 with (fail)
 clear hW
 go_wp2_with fail
 refine wp_loop_rounds 1 ?_
 rw [rounds_succ]
 go_wp2_with fail
 go_ret
 exact ⟨rfl, b⟩
theorem size_cmp (u v : Lf) (g c hi : Nat) (w : World) (hc : 2 <= c) (h : Rz w hi g (u.cells ++ v.cells)) (hhi : hi <= w.heap.size) : Calls Tryz.prog 164 #[.agg #[.int .i64 16, .int .i64 0, .int .i64 0, .int .i64 0, .string ⟨#[]⟩, .slice (some ⟨g, 0, none⟩) 2 c]] w fun e w' => e = .returned (.int .i64 3) /\ Below w.heap.size w w' := by
 obtain ⟨W, hW, b, r⟩ := sx_new w ⟨16, 0, 0, 0, ⟨#[]⟩, some ⟨g, 0, none⟩, 2, c⟩
 obtain ⟨s0, s1, s2, s3, s4, s5⟩ := sbox r
 dsimp only [sBox] at hW s0 s1 s2 s3 s4 s5
 obtain ⟨⟨e0, e1, e2, e3, e4, e5⟩, _⟩ := rz_two (h.below (b.mono hhi))
 have hgl := h.1
 have hv2 := fun w2 (hb : Below hi w w2) => (rz_two (h.below hb)).2
 have HV2 := Lib.hid hv2
 clear hv2
 obtain ⟨uo, un, ud, um, us⟩ := u
 obtain ⟨vo, vn, vd, vm, vs⟩ := v
 dsimp only [lBox, Lf.agg] at e0 e1 e2 e3 e4 e5
 go_enter Tryz.func164, Tryz.ntmps164
 go_upto_block 0 with (fail)
 clear hW
 go_wp2_with fail
 refine wp_loop_rounds 3 ?_
 rw [rounds_succ]
 go_upto_region 5 with (fail)
 obtain ⟨W1, hW1, b1, r1⟩ := lf_new W ⟨uo, un, ud, um, us⟩
 have hL := size_leaf ⟨uo, un, ud, um, us⟩ W1
 dsimp only [lBox, Lf.agg] at hW1 hL
 rw [hW1]
 clear hW1
 obtain ⟨t0, t1, t2, t3, t4, t5⟩ := lbox (v := ⟨uo, un, ud, um, us⟩) r1
 dsimp only at t0 t1 t2 t3 t4 t5
 go_wp2_with fail
 refine hL.mono ?_
 rintro e w2 ⟨rfl, b2⟩
 have hz1 := b.size
 have hz2 := b1.size
 have hb2 : Below w.heap.size w w2 := b.trans ((b1.trans (b2.mono b1.size)).mono b.size)
 obtain ⟨f0, f1, f2, f3, f4, f5⟩ := HV2.out w2 (hb2.mono hhi)
 clear e0 e1 e2 e3 e4 e5 t0 t1 t2 t3 t4 t5 s0 s1 s2 s3 s4 s5 r1 hL
 go_wp2_with fail
 rw [rounds_succ]
 go_upto_region 5 with (fail)
 obtain ⟨W3, hW3, b3, r3⟩ := lf_new w2 ⟨vo, vn, vd, vm, vs⟩
 have hR := size_leaf ⟨vo, vn, vd, vm, vs⟩ W3
 obtain ⟨p0, p1, p2, p3, p4, p5⟩ := lbox r3
 dsimp only [lBox, Lf.agg] at hW3 hR p0 p1 p2 p3 p4 p5
 rw [hW3]
 clear hW3
 go_wp2_with fail
 refine hR.mono ?_
 rintro e w4 ⟨rfl, b4⟩
 have hb4 : Below w.heap.size w w4 := hb2.trans ((b3.trans (b4.mono b3.size)).mono hb2.size)
 go_wp2_with fail
 rw [rounds_succ]
 go_wp2_with fail
 go_ret
 exact ⟨rfl, hb4⟩
theorem size_tr {t : Tr} {X : Sx} {hi : Nat} {w : World} (h : TrR t X hi w) (hhi : hi <= w.heap.size) : Calls Tryz.prog 164 #[X.agg] w fun e w' => e = .returned (.int .i64 t.sz) /\ Below w.heap.size w w' := by
 cases t with
 | leaf v => subst h; exact size_leaf v w
 | cmp u v =>
  obtain ⟨g, c, rfl, h2, h3⟩ := h
  exact size_cmp u v g c hi w h2 h3 hhi
end
section
theorem dgl_dec (n : Nat) : dgl n = Lib.decDigits n := by
 induction n using Nat.strongRecOn with
 | _ n ih =>
  rw [dgl, Lib.decDigits]
  split
  ·rfl
  ·rw [ih (n / 10) (by omega)]
structure Mt (w : World) : Prop where
 ml : Ml w
 tp : Lib.TabIs Tryz.prog w "internal/strconv.uint64pow10" .u64 Lib.pow10Tab
theorem Mt.kp {w v : World} (h : Mt w) (hb : Below w.heap.size w v) : Mt v :=
 ⟨h.ml.kp hb, Joins.var_stays (g := 3) (by kernel_rfl) h.tp hb (Nat.le_refl _)⟩
theorem itoa_ok (n : Nat) (hn : n < 1000000000) (w : World) (h : Mt w) : Calls Tryz.prog 219 #[.int .i64 (n : Int)] w fun e w' => e = .returned (.string (bs (dgl n))) /\ Below w.heap.size w w' := by
 refine (Tryz.strconv_Itoa (n : Int) (by omega) (by omega) w h.tp).mono ?_
 rintro e w' ⟨rfl, k, os, rfl⟩
 refine ⟨?_, Lib.below_grow _ _ (Nat.le_refl _) _ _⟩
 rw [Lib.itoa, if_neg (by omega), Int.toNat_natCast, <- dgl_dec]
 rfl
abbrev fBox (n d : Int) : Obj := .cells #[.int .i64 n, .int .i64 d] 49
theorem fr_new (w : World) (n d : Int) : ∃ W, w.alloc (fBox n d) = W /\ Below w.heap.size w W /\ W.heap[w.heap.size]? = some (fBox n d) :=
 ⟨_, rfl, (Below.refl _ _).alloc (Nat.le_refl _) _, heap_alloc_new w _⟩
theorem fbox {W : World} {g : Nat} {n d : Int} (hr : W.heap[g]? = some (fBox n d)) : W.cell? ⟨g, 0, none⟩ = some (.int .i64 n) /\ W.cell? ⟨g, 1, none⟩ = some (.int .i64 d) := by
 refine ⟨?_, ?_⟩ <;> rw [cell_of_row _ _ _ _ _ _ hr] <;> rfl
theorem fdec_ok (n : Nat) (dim : Int) (hd : dim = 2 ∨ dim = 3 ∨ dim = 4) (hn : n < 1000000000) (w : World) (hw : Mt w) :
  Calls Tryz.prog 161 #[.agg #[.int .i64 (n : Int), .int .i64 1], .int .i64 dim] w fun e w' => ∃ s, e = .returned (.tuple #[.string s, .bool true]) /\ Below w.heap.size w w' := by
 obtain ⟨W, hW, b, r⟩ := fr_new w n 1
 obtain ⟨f0, f1⟩ := fbox r
 dsimp only [fBox] at hW
 have q1 : decide ((n : Int) < 0) = false := decide_eq_false (by omega)
 have q2 : decide ((1000000000000000 : Int) < (n : Int)) = false := decide_eq_false (by omega)
 have d1 : (n : Int).tdiv 1 = (n : Int) := Int.tdiv_one _
 have d2 : (n : Int).tmod 1 = 0 := Int.tmod_one _
 have hi := itoa_ok n hn W (hw.kp b)
 have hsz : (bs (dgl n)).size <= 9 := by rw [bs_size]; exact dgl_len 8 n hn
 have hdec : ∃ T, (T = if dim = 3 then bs (dgl n) ++ ⟨#[100]⟩ else if dim = 4 then bs (dgl n) ++ ⟨#[109]⟩ else bs (dgl n)) /\ ∀ u, Mt u -> Calls Tryz.prog 93 #[.string T] u fun e w' => e = .returned (.tuple #[.agg #[.int .i64 (n : Int), .int .i64 1], .int .i64 dim, .bool true]) /\ Below u.heap.size u w' := by
  refine ⟨bs (dgl n ++ sufB dim.toNat), ?_, fun u hu => dec_ok n dim hd hn u hu.ml⟩
  rcases hd with rfl | rfl | rfl
  ·simp [sufB]
  ·rw [if_pos rfl]; exact (bs_append _ [100]).symm
  ·rw [if_neg (by decide), if_pos rfl]; exact (bs_append _ [109]).symm
 obtain ⟨T, hT, hdec⟩ := hdec
 generalize bs (dgl n) = D at *
 go_enter Tryz.func161, Tryz.ntmps161
 go_upto_region 1 with (fail)
 clear hW
 go_wp2_with fail
 refine hi.mono ?_
 rintro e w1 ⟨rfl, b1⟩
 have hb1 := b.trans (b1.mono b.size)
 have r1 := (b1.block _ (gis r).1).trans r
 obtain ⟨g0, g1⟩ := fbox r1
 have hm1 := hw.kp hb1
 clear f0 f1 r hi
 rcases hd with rfl | rfl | rfl
 all_goals
  simp only [reduceIte, Int.reduceEq] at hT
  go_wp2_with fail
  refine wp_loop_rounds 1 ?_
  rw [rounds_succ]
  go_wp2_with fail
  rw [<- hT]
  refine (hdec _ hm1).mono ?_
  rintro e w2 ⟨rfl, b2⟩
  have hb2 := hb1.trans (b2.mono hb1.size)
  have r2 := (b2.block _ (gis r1).1).trans r1
  obtain ⟨W3, hW3, b3, r3⟩ := fr_new w2 n 1
  have r4 := (b3.block _ (gis r2).1).trans r2
  obtain ⟨p0, p1⟩ := fbox r3
  obtain ⟨s0, s1⟩ := fbox r4
  dsimp only [fBox] at hW3
  clear g0 g1
  go_upto_region 21 with (fail)
  clear hW3
  go_wp2_with fail
  go_ret2
  exact ⟨_, rfl, hb2.trans (b3.mono hb2.size)⟩
theorem arity_lit (w : World) : Calls Tryz.prog 279 #[.int .i64 1] w fun e w' => e = .returned (.int .i64 0) /\ w' = w := by
 go_enter Tryz.func279, Tryz.ntmps279
 go_wp2_with fail
 go_ret
 exact ⟨rfl, rfl⟩
theorem arity_name (w : World) : Calls Tryz.prog 279 #[.int .i64 2] w fun e w' => e = .returned (.int .i64 0) /\ w' = w := by
 go_enter Tryz.func279, Tryz.ntmps279
 go_wp2_with fail
 go_ret
 exact ⟨rfl, rfl⟩
theorem arity_ge (w : World) : Calls Tryz.prog 279 #[.int .i64 16] w fun e w' => e = .returned (.int .i64 2) /\ w' = w := by
 go_enter Tryz.func279, Tryz.ntmps279
 go_wp2_with fail
 go_ret
 exact ⟨rfl, rfl⟩
inductive LfOk : Lf -> Prop where
 | num {n : Nat} {dim : Int} (hd : dim = 2 ∨ dim = 3 ∨ dim = 4) (hn : n < 1000000000) : LfOk ⟨1, n, 1, dim, ⟨#[]⟩⟩
 | name {t : By} (hn : Nm t) : LfOk ⟨2, 0, 0, 0, bs t⟩
def TrOk : Tr -> Prop
 | .leaf v => LfOk v
 | .cmp u v => LfOk u /\ LfOk v
theorem node_leaf {v : Lf} (hv : LfOk v) (w : World) (hw : Mt w) : Calls Tryz.prog 220 #[v.agg] w fun e w' => e = .returned (.bool true) /\ Below w.heap.size w w' := by
 obtain ⟨W, hW, b, r⟩ := lf_new w v
 obtain ⟨g0, g1, g2, g3, g4, g5⟩ := lbox r
 cases hv with
 | @num n dim hd hn =>
  unfold Lf.agg
  dsimp only [lBox] at hW g0 g1 g2 g3 g4 g5
  go_enter Tryz.func220, Tryz.ntmps220
  go_upto_region 1 with (fail)
  clear hW
  go_quiet ((go_at_call 279; exact Calls.quiet_of_same (arity_lit _)))
  go_wp2_with fail
  refine (fdec_ok n dim hd hn _ ((hw.kp b).kp (below_to_drewN (Below.refl _ _) _))).mono ?_
  rintro e w1 ⟨s, rfl, b1⟩
  have r1 := (b1.block w.heap.size (by exact (gis r).1)).trans r
  obtain ⟨_, _, _, _, p4, _⟩ := lbox (v := ⟨1, n, 1, dim, ⟨#[]⟩⟩) r1
  dsimp only at p4
  clear g0 g1 g2 g3 g4 g5
  go_wp2_with fail
  go_ret
  exact ⟨rfl, (below_to_drewN b _).trans (b1.mono b.size)⟩
 | @name t hn =>
  have hin := fun u => isname_ok (bs t) t rfl hn u
  unfold Lf.agg
  dsimp only [lBox] at hW g0 g1 g2 g3 g4 g5
  go_enter Tryz.func220, Tryz.ntmps220
  go_upto_region 1 with (fail)
  clear hW
  go_quiet ((go_at_call 279; exact Calls.quiet_of_same (arity_name _)))
  go_wp2_with fail
  refine (hin _).mono ?_
  rintro e w1 ⟨rfl, rfl⟩
  go_wp2_with fail
  go_ret
  exact ⟨rfl, below_to_drewN b _⟩
theorem node_cmp (g c : Nat) (w : World) : Calls Tryz.prog 220 #[.agg #[.int .i64 16, .int .i64 0, .int .i64 0, .int .i64 0, .string ⟨#[]⟩, .slice (some ⟨g, 0, none⟩) 2 c]] w fun e w' => e = .returned (.bool true) /\ Below w.heap.size w w' := by
 obtain ⟨W, hW, b, r⟩ := sx_new w ⟨16, 0, 0, 0, ⟨#[]⟩, some ⟨g, 0, none⟩, 2, c⟩
 obtain ⟨s0, s1, s2, s3, s4, s5⟩ := sbox r
 dsimp only [sBox] at hW s0 s1 s2 s3 s4 s5
 go_enter Tryz.func220, Tryz.ntmps220
 go_upto_region 1 with (fail)
 clear hW
 go_quiet ((go_at_call 279; exact Calls.quiet_of_same (arity_ge _)))
 go_wp2_with fail
 go_ret
 exact ⟨rfl, below_to_drewN b _⟩
abbrev formF : Value := .func (.func 222) #[] #[]
theorem idx_nil (w : World) : Calls Tryz.prog 280 #[.slice none 0 0, formF] w fun e w' => e = .returned (.int .i64 (-1)) /\ Below w.heap.size w w' := by
 go_enter Tryz.func280, Tryz.ntmps280
 go_wp2_with fail
 refine wp_loop_rounds 1 ?_
 rw [rounds_succ]
 go_wp2_with fail
 go_ret
 exact ⟨rfl, Below.refl _ _⟩
theorem con_nil (w : World) : Calls Tryz.prog 221 #[.slice none 0 0, formF] w fun e w' => e = .returned (.bool false) /\ Below w.heap.size w w' := by
 go_enter Tryz.func221, Tryz.ntmps221
 go_wp2_with fail
 refine (idx_nil _).mono ?_
 rintro e w1 ⟨rfl, b1⟩
 go_wp2_with fail
 go_ret
 exact ⟨rfl, b1⟩
theorem form_leaf {v : Lf} (hv : LfOk v) (w : World) (hw : Mt w) : Calls Tryz.prog 165 #[v.agg] w fun e w' => e = .returned (.bool true) /\ Below w.heap.size w w' := by
 obtain ⟨W, hW, b, r⟩ := lf_new w v
 have hn := node_leaf hv W (hw.kp b)
 obtain ⟨g0, g1, g2, g3, g4, g5⟩ := lbox r
 obtain ⟨o, n, d, m, s⟩ := v
 unfold Lf.agg at hn ⊢
 dsimp only [lBox] at hW g0 g1 g2 g3 g4 g5 hn
 go_enter Tryz.func165, Tryz.ntmps165
 go_upto_region 1 with (fail)
 clear hW
 go_wp2_with fail
 refine hn.mono ?_
 rintro e w1 ⟨rfl, b1⟩
 have r1 := (b1.block w.heap.size (by exact (gis r).1)).trans r
 obtain ⟨_, _, _, _, _, p5⟩ := lbox (v := ⟨o, n, d, m, s⟩) r1
 clear g0 g1 g2 g3 g4 g5
 go_wp2_with fail
 refine (con_nil _).mono ?_
 rintro e w2 ⟨rfl, b2⟩
 go_wp2_with fail
 go_ret
 exact ⟨rfl, b.trans ((b1.trans (b2.mono b1.size)).mono b.size)⟩
theorem form1_leaf {v : Lf} (hv : LfOk v) (w : World) (hw : Mt w) : Calls Tryz.prog 222 #[v.agg] w fun e w' => e = .returned (.bool false) /\ Below w.heap.size w w' := by
 obtain ⟨W, hW, b, r⟩ := lf_new w v
 have hn := form_leaf hv W (hw.kp b)
 obtain ⟨g0, g1, g2, g3, g4, g5⟩ := lbox r
 obtain ⟨o, n, d, m, s⟩ := v
 unfold Lf.agg at hn ⊢
 dsimp only [lBox] at hW g0 g1 g2 g3 g4 g5 hn
 go_enter Tryz.func222, Tryz.ntmps222
 go_upto_region 1 with (fail)
 clear hW
 go_wp2_with fail
 refine hn.mono ?_
 rintro e w1 ⟨rfl, b1⟩
 go_wp2_with fail
 go_ret
 exact ⟨rfl, b.trans (b1.mono b.size)⟩
theorem idx_two {u v : Lf} (hu : LfOk u) (hv : LfOk v) {g c hi : Nat} {w : World} (hc : 2 <= c) (h : Rz w hi g (u.cells ++ v.cells)) (hhi : hi <= w.heap.size) (hw : Mt w) : Calls Tryz.prog 280 #[.slice (some ⟨g, 0, none⟩) 2 c, formF] w fun e w' => e = .returned (.int .i64 (-1)) /\ Below w.heap.size w w' := by
 obtain ⟨⟨e0, e1, e2, e3, e4, e5⟩, _⟩ := rz_two h
 have hgl := h.1
 have hL := form1_leaf hu w hw
 have hR := fun w' (hw' : Mt w') => form1_leaf hv w' hw'
 have hv2 := fun w2 (hb : Below hi w w2) => (rz_two (h.below hb)).2
 have HV2 := Lib.hid hv2
 have HR := Lib.hid hR
 clear hv2 hR
 obtain ⟨uo, un, ud, um, us⟩ := u
 obtain ⟨vo, vn, vd, vm, vs⟩ := v
 dsimp only [Lf.agg] at e0 e1 e2 e3 e4 e5 hL
 go_enter Tryz.func280, Tryz.ntmps280
 go_wp2_with fail
 refine wp_loop_rounds 3 ?_
 rw [rounds_succ]
 go_wp2_with fail
 refine hL.mono ?_
 rintro e w2 ⟨rfl, b2⟩
 obtain ⟨f0, f1, f2, f3, f4, f5⟩ := HV2.out w2 (b2.mono hhi)
 have hR := HR.out w2 (hw.kp b2)
 dsimp only [Lf.agg] at f0 f1 f2 f3 f4 f5 hR
 clear e0 e1 e2 e3 e4 e5 hL
 go_wp2_with fail
 rw [rounds_succ]
 go_wp2_with fail
 refine hR.mono ?_
 rintro e w4 ⟨rfl, b4⟩
 go_wp2_with fail
 rw [rounds_succ]
 go_wp2_with fail
 go_ret
 exact ⟨rfl, b2.trans (b4.mono b2.size)⟩
theorem con_two {u v : Lf} (hu : LfOk u) (hv : LfOk v) {g c hi : Nat} {w : World} (hc : 2 <= c) (h : Rz w hi g (u.cells ++ v.cells)) (hhi : hi <= w.heap.size) (hw : Mt w) : Calls Tryz.prog 221 #[.slice (some ⟨g, 0, none⟩) 2 c, formF] w fun e w' => e = .returned (.bool false) /\ Below w.heap.size w w' := by
 have hx := idx_two hu hv hc h hhi hw
 go_enter Tryz.func221, Tryz.ntmps221
 go_wp2_with fail
 refine hx.mono ?_
 rintro e w1 ⟨rfl, b1⟩
 go_wp2_with fail
 go_ret
 exact ⟨rfl, b1⟩
theorem form_tr {t : Tr} (ht : TrOk t) {X : Sx} {hi : Nat} {w : World} (h : TrR t X hi w) (hhi : hi <= w.heap.size) (hw : Mt w) : Calls Tryz.prog 165 #[X.agg] w fun e w' => e = .returned (.bool true) /\ Below w.heap.size w w' := by
 cases t with
 | leaf v => subst h; exact form_leaf ht w hw
 | cmp u v =>
  obtain ⟨g, c, rfl, h2, h3⟩ := h
  obtain ⟨W, hW, b, r⟩ := sx_new w ⟨16, 0, 0, 0, ⟨#[]⟩, some ⟨g, 0, none⟩, 2, c⟩
  obtain ⟨s0, s1, s2, s3, s4, s5⟩ := sbox r
  unfold Sx.agg
  dsimp only [sBox] at hW s0 s1 s2 s3 s4 s5
  have hz := b.size
  go_enter Tryz.func165, Tryz.ntmps165
  go_upto_region 1 with (fail)
  clear hW
  go_wp2_with fail
  refine (node_cmp g c W).mono ?_
  rintro e w1 ⟨rfl, b1⟩
  have r1 := (b1.block w.heap.size (by exact (gis r).1)).trans r
  obtain ⟨_, _, _, _, _, p5⟩ := sbox (v := ⟨16, 0, 0, 0, ⟨#[]⟩, some ⟨g, 0, none⟩, 2, c⟩) r1
  dsimp only at p5
  have hb1 := b.trans (b1.mono b.size)
  have hx := con_two ht.1 ht.2 h2 (h3.below (hb1.mono hhi)) (Nat.le_trans hhi hb1.size) (hw.kp hb1)
  clear s0 s1 s2 s3 s4 s5
  go_wp2_with fail
  refine hx.mono ?_
  rintro e w2 ⟨rfl, b2⟩
  go_wp2_with fail
  go_ret
  exact ⟨rfl, hb1.trans (b2.mono hb1.size)⟩
theorem validexpr_ok {t : Tr} (ht : TrOk t) {X : Sx} {hi : Nat} {w : World} (h : TrR t X hi w) (hhi : hi <= w.heap.size) (hw : Mt w) : Calls Tryz.prog 104 #[X.agg] w fun e w' => e = .returned (.bool true) /\ Below w.heap.size w w' := by
 obtain ⟨W, hW, b, r⟩ := sx_new w X
 have hz := b.size
 have h1 := h.below (b.mono hhi)
 have q1 : decide (t.dp <= 10) = true := by cases t <;> rfl
 have q2 : decide (t.sz <= 60) = true := by cases t <;> rfl
 have hd := depth_tr h1 (Nat.le_trans hhi hz)
 have hs := fun u (hb : Below w.heap.size w u) => size_tr (h.below (hb.mono hhi)) (Nat.le_trans hhi hb.size)
 have hf := fun u (hb : Below w.heap.size w u) => form_tr ht (h.below (hb.mono hhi)) (Nat.le_trans hhi hb.size) (hw.kp hb)
 have HS := Lib.hid hs
 have HF := Lib.hid hf
 clear hs hf h h1
 obtain ⟨s0, s1, s2, s3, s4, s5⟩ := sbox r
 obtain ⟨xo, xn, xd, xm, xs, xA, xk, xc⟩ := X
 unfold Sx.agg at hd ⊢
 dsimp only [sBox] at hW s0 s1 s2 s3 s4 s5 hd
 go_enter Tryz.func104, Tryz.ntmps104
 go_upto_region 1 with (fail)
 clear hW
 go_wp2_with fail
 refine hd.mono ?_
 rintro e w1 ⟨rfl, b1⟩
 have hb1 := b.trans (b1.mono b.size)
 have r1 := (b1.block w.heap.size (by exact (gis r).1)).trans r
 obtain ⟨p0, p1, p2, p3, p4, p5⟩ := sbox (v := ⟨xo, xn, xd, xm, xs, xA, xk, xc⟩) r1
 have hs := HS.out w1 hb1
 unfold Sx.agg at hs
 dsimp only at p0 p1 p2 p3 p4 p5 hs
 clear s0 s1 s2 s3 s4 s5 hd
 go_wp2_with fail
 refine hs.mono ?_
 rintro e w2 ⟨rfl, b2⟩
 have hb2 := hb1.trans (b2.mono hb1.size)
 have r2 := (b2.block w.heap.size (by exact (gis r1).1)).trans r1
 obtain ⟨k0, k1, k2, k3, k4, k5⟩ := sbox (v := ⟨xo, xn, xd, xm, xs, xA, xk, xc⟩) r2
 have hf := HF.out w2 hb2
 unfold Sx.agg at hf
 dsimp only at k0 k1 k2 k3 k4 k5 hf
 clear p0 p1 p2 p3 p4 p5 hs
 go_wp2_with fail
 refine hf.mono ?_
 rintro e w3 ⟨rfl, b3⟩
 go_wp2_with fail
 go_ret
 exact ⟨rfl, hb2.trans (b3.mono hb2.size)⟩
end
end Go.Proofs.YtnlopdmhdiegnaaGreatDoor
