/- Lemmas (no conditions): Rta -/
import Derived.Test.YtnlopdmhdiegnaaGreatDoorPk18
set_option linter.unusedSimpArgs false
set_option linter.unusedVariables false
set_option maxRecDepth 100000
set_option maxHeartbeats 64000000
namespace Go.Proofs.YtnlopdmhdiegnaaGreatDoor
open Go.RowKit
section
abbrev wBox (a b : Int) : Obj := .cells #[.int .u64 a, .int .u64 b] 332
theorem wd_new (w : World) (n d : Int) : ∃ W, w.alloc (wBox n d) = W /\ Below w.heap.size w W /\ W.heap[w.heap.size]? = some (wBox n d) :=
 ⟨_, rfl, (Below.refl _ _).alloc (Nat.le_refl _) _, heap_alloc_new w _⟩
theorem wbox {W : World} {g : Nat} {n d : Int} (hr : W.heap[g]? = some (wBox n d)) : (W.cell? ⟨g, 0, none⟩ = some (.int .u64 n) /\ W.cell? ⟨g, 1, none⟩ = some (.int .u64 d)) /\ W.frozen? ⟨g, 0, none⟩ = false /\ W.frozen? ⟨g, 1, none⟩ = false := by
 refine ⟨⟨?_, ?_⟩, frozen_of_row W g 0 _ _ hr, frozen_of_row W g 1 _ _ hr⟩ <;> rw [cell_of_row _ _ _ _ _ _ hr] <;> rfl
theorem times_ok (x y : Nat) (h : x * y < 18446744073709551616) (hx : x < 18446744073709551616) (hy : y < 18446744073709551616) (w : World) : Calls Tryz.prog 349 #[.int .u64 (x : Int), .int .u64 (y : Int)] w fun e w' => e = .returned (.agg #[.int .u64 0, .int .u64 ((x * y : Nat) : Int)]) /\ w' = w.alloc (wBox 0 ((x * y : Nat) : Int)) := by
 have hm := fun u => Tryz.bits_Mul64 x y hx hy u
 rw [Nat.div_eq_of_lt h, Nat.mod_eq_of_lt h] at hm
 generalize ((x * y : Nat) : Int) = z at *
 go_enter Tryz.func349, Tryz.ntmps349
 go_wp2_with fail
 refine (hm _).mono ?_
 rintro e w1 ⟨rfl, rfl⟩
 go_wp2_with fail
 exact bodyPost_ret (v := .agg #[.int .u64 0, .int .u64 z]) (by simp [results, Tryz.f349, go_sem]) rfl ⟨rfl, rfl⟩
theorem less_ok (x y : Nat) (w : World) : Calls Tryz.prog 350 #[.agg #[.int .u64 0, .int .u64 (x : Int)], .agg #[.int .u64 0, .int .u64 (y : Int)]] w fun e w' => e = .returned (.bool (decide (x < y))) /\ Below w.heap.size w w' := by
 obtain ⟨W, hW, b, r⟩ := wd_new w 0 (x : Int)
 obtain ⟨V, hV, c, s⟩ := wd_new W 0 (y : Int)
 have r2 := (c.block _ (gis r).1).trans r
 obtain ⟨⟨f0, f1⟩, _⟩ := wbox r2
 obtain ⟨⟨g0, g1⟩, _⟩ := wbox s
 have hb := b.trans (c.mono b.size)
 have hd : decide ((x : Int) < (y : Int)) = decide (x < y) := by
  by_cases h : x < y
  ·rw [decide_eq_true h, decide_eq_true (by omega)]
  ·rw [decide_eq_false h, decide_eq_false (by omega)]
 obtain ⟨z, hz⟩ : ∃ z, decide (x < y) = z := ⟨_, rfl⟩
 rw [hz] at hd ⊢
 go_enter Tryz.func350, Tryz.ntmps350
 go_upto_region 1 with (fail)
 clear hW hV
 go_wp2_with fail
 go_ret
 exact ⟨rfl, hb⟩
theorem four_row (w : World) (o0 o1 o2 o3 : Obj) : ((((w.alloc o0).alloc o1).alloc o2).alloc o3).drew.heap[w.heap.size]? = some o0 /\ ((((w.alloc o0).alloc o1).alloc o2).alloc o3).drew.heap[w.heap.size + 1]? = some o1 /\ ((((w.alloc o0).alloc o1).alloc o2).alloc o3).drew.heap[w.heap.size + 1 + 1]? = some o2 /\ ((((w.alloc o0).alloc o1).alloc o2).alloc o3).drew.heap[w.heap.size + 1 + 1 + 1]? = some o3 := by
 have e1 : (w.alloc o0).heap.size = w.heap.size + 1 := by simp
 have e2 : ((w.alloc o0).alloc o1).heap.size = w.heap.size + 1 + 1 := by simp
 have e3 : (((w.alloc o0).alloc o1).alloc o2).heap.size = w.heap.size + 1 + 1 + 1 := by simp
 refine ⟨?_, ?_, ?_, ?_⟩
 ·exact (Below.heap_alloc _ _ _ (by omega)).trans ((Below.heap_alloc _ _ _ (by omega)).trans ((Below.heap_alloc _ _ _ (by omega)).trans (heap_alloc_new w o0)))
 ·refine (Below.heap_alloc _ _ _ (by omega)).trans ((Below.heap_alloc _ _ _ (by omega)).trans ?_)
  rw [<- e1]; exact heap_alloc_new _ o1
 ·refine (Below.heap_alloc _ _ _ (by omega)).trans ?_
  rw [<- e2]; exact heap_alloc_new _ o2
 ·show ((((w.alloc o0).alloc o1).alloc o2).alloc o3).heap[w.heap.size + 1 + 1 + 1]? = some o3
  rw [<- e3]; exact heap_alloc_new _ o3
theorem four_bel {n : Nat} {v w : World} (h : Below n v w) (hn : n <= w.heap.size) (o0 o1 o2 o3 : Obj) : Below n v ((((w.alloc o0).alloc o1).alloc o2).alloc o3).drew :=
 ((((h.alloc hn o0).alloc (by simp; omega) o1).alloc (by simp; omega) o2).alloc (by simp; omega) o3).drew
def cmpN (x y : Nat) : Int := if x < y then -1 else if y < x then 1 else 0
theorem compare_ok (x y : Nat) (hx : x <= 1000000000000000) (hy : y <= 1000000000000000) (w : World) : Calls Tryz.prog 325 #[.agg #[.int .i64 (x : Int), .int .i64 1], .agg #[.int .i64 (y : Int), .int .i64 1]] w fun e w' => e = .returned (.tuple #[.int .i64 (cmpN x y), .int .i64 0]) /\ Below w.heap.size w w' := by
 obtain ⟨W, hW, b, r⟩ := fr_new w (x : Int) 1
 obtain ⟨V, hV, c, s⟩ := fr_new W (y : Int) 1
 have lw := (gis r).1
 have lW := (gis s).1
 have hb := b.trans (c.mono b.size)
 have row : ∀ (u : World), Below V.heap.size V u -> (u.cell? ⟨w.heap.size, 0, none⟩ = some (.int .i64 (x : Int)) /\ u.cell? ⟨w.heap.size, 1, none⟩ = some (.int .i64 1)) /\ u.cell? ⟨W.heap.size, 0, none⟩ = some (.int .i64 (y : Int)) /\ u.cell? ⟨W.heap.size, 1, none⟩ = some (.int .i64 1) := fun u hu =>
  ⟨fbox ((hu.block _ (Nat.lt_of_lt_of_le lw c.size)).trans ((c.block _ lw).trans r)), fbox ((hu.block _ lW).trans s)⟩
 have HR := Lib.hid row
 have hv1 := fun u => validP_ok x 1 hx (by omega) (by omega) (Nat.gcd_one_right x) u
 have hv2 := fun u => validP_ok y 1 hy (by omega) (by omega) (Nat.gcd_one_right y) u
 have hs1 := fun u => sizeP_nn (x : Int) (by omega) (by omega) u
 have hs2 := fun u => sizeP_nn (y : Int) (by omega) (by omega) u
 have hs3 := fun u => sizeP_nn 1 (by omega) (by omega) u
 have ht1 : ∀ u, Calls Tryz.prog 349 #[.int .u64 (x : Int), .int .u64 1] u fun e w' => e = .returned (.agg #[.int .u64 0, .int .u64 (x : Int)]) /\ w' = u.alloc (wBox 0 (x : Int)) := fun u => by
  have := times_ok x 1 (by omega) (by omega) (by omega) u
  rwa [Nat.mul_one] at this
 have ht2 : ∀ u, Calls Tryz.prog 349 #[.int .u64 (y : Int), .int .u64 1] u fun e w' => e = .returned (.agg #[.int .u64 0, .int .u64 (y : Int)]) /\ w' = u.alloc (wBox 0 (y : Int)) := fun u => by
  have := times_ok y 1 (by omega) (by omega) (by omega) u
  rwa [Nat.mul_one] at this
 have q1 : decide ((x : Int) < 0) = false := decide_eq_false (by omega)
 have q2 : decide ((y : Int) < 0) = false := decide_eq_false (by omega)
 obtain ⟨⟨f0, f1⟩, g0, g1⟩ := row V (Below.refl _ _)
 clear row
 go_enter Tryz.func325, Tryz.ntmps325
 dsimp only [fBox] at hW hV
 go_upto_region 1 with (fail)
 clear hW hV
 go_wp2_with fail
 refine (hv1 _).mono ?_
 rintro e w1 ⟨rfl, b1⟩
 clear f0 f1 g0 g1
 obtain ⟨⟨f0, f1⟩, g0, g1⟩ := HR.out w1 b1
 go_wp2_with fail
 refine (hv2 _).mono ?_
 rintro e w2 ⟨rfl, b2⟩
 have hb2 := b1.trans (b2.mono b1.size)
 clear f0 f1 g0 g1
 obtain ⟨⟨f0, f1⟩, g0, g1⟩ := HR.out w2 hb2
 have zzb := b.size
 have zzc := c.size
 have zz2 := hb2.size
 have n1 : w.heap.size < w2.heap.size := by omega
 have n2 : W.heap.size < w2.heap.size := by omega
 go_upto_region 7 with (fail)
 go_cut [6, 7] from 26 to 39 (fun p q wx => ∃ A B, p = .pointer (some ⟨A, 0, none⟩) /\ q = .pointer (some ⟨B, 0, none⟩) /\ wx.heap[A]? = some (wBox 0 (x : Int)) /\ wx.heap[B]? = some (wBox 0 (y : Int)) /\ Below V.heap.size V wx)
 case first =>
  go_region_held3 (fun w' => (w'.cell? ⟨w.heap.size, 0, none⟩ = some (.int .i64 (x : Int)) /\ w'.cell? ⟨w.heap.size, 1, none⟩ = some (.int .i64 1)) /\ w'.cell? ⟨W.heap.size, 0, none⟩ = some (.int .i64 (y : Int)) /\ w'.cell? ⟨W.heap.size, 1, none⟩ = some (.int .i64 1)) (exact HR.out _ (by repeat (first | exact hb2 | refine Below.drew ?_ | refine Below.alloc ?_ (by first | omega | (simp; omega)) _ | refine Below.setCell ?_ (by first | omega | (simp; omega)) _))) (first
   | (go_at_call 149; (with_reducible refine (hs1 _).mono ?_); rintro e w3 ⟨rfl, rfl⟩)
   | (go_at_call 149; (with_reducible refine (hs2 _).mono ?_); rintro e w3 ⟨rfl, rfl⟩)
   | (go_at_call 149; (with_reducible refine (hs3 _).mono ?_); rintro e w3 ⟨rfl, rfl⟩)
   | (go_at_call 349; (with_reducible refine (ht1 _).mono ?_); rintro e w3 ⟨rfl, rfl⟩)
   | (go_at_call 349; (with_reducible refine (ht2 _).mono ?_); rintro e w4 ⟨rfl, rfl⟩))
  all_goals
   go_wp2_with fail
   go_meet
  all_goals
   first
    | exact ⟨_, _, rfl, rfl, (four_row w2 _ _ _ _).1, (four_row w2 _ _ _ _).2.1, four_bel hb2 hb2.size _ _ _ _⟩
    | exact ⟨_, _, rfl, rfl, (four_row w2 _ _ _ _).1, (four_row w2 _ _ _ _).2.2.1, four_bel hb2 hb2.size _ _ _ _⟩
    | exact ⟨_, _, rfl, rfl, (four_row w2 _ _ _ _).1, (four_row w2 _ _ _ _).2.2.2, four_bel hb2 hb2.size _ _ _ _⟩
    | exact ⟨_, _, rfl, rfl, (four_row w2 _ _ _ _).2.1, (four_row w2 _ _ _ _).1, four_bel hb2 hb2.size _ _ _ _⟩
    | exact ⟨_, _, rfl, rfl, (four_row w2 _ _ _ _).2.1, (four_row w2 _ _ _ _).2.2.1, four_bel hb2 hb2.size _ _ _ _⟩
    | exact ⟨_, _, rfl, rfl, (four_row w2 _ _ _ _).2.1, (four_row w2 _ _ _ _).2.2.2, four_bel hb2 hb2.size _ _ _ _⟩
    | exact ⟨_, _, rfl, rfl, (four_row w2 _ _ _ _).2.2.1, (four_row w2 _ _ _ _).1, four_bel hb2 hb2.size _ _ _ _⟩
    | exact ⟨_, _, rfl, rfl, (four_row w2 _ _ _ _).2.2.1, (four_row w2 _ _ _ _).2.1, four_bel hb2 hb2.size _ _ _ _⟩
    | exact ⟨_, _, rfl, rfl, (four_row w2 _ _ _ _).2.2.1, (four_row w2 _ _ _ _).2.2.2, four_bel hb2 hb2.size _ _ _ _⟩
    | exact ⟨_, _, rfl, rfl, (four_row w2 _ _ _ _).2.2.2, (four_row w2 _ _ _ _).1, four_bel hb2 hb2.size _ _ _ _⟩
    | exact ⟨_, _, rfl, rfl, (four_row w2 _ _ _ _).2.2.2, (four_row w2 _ _ _ _).2.1, four_bel hb2 hb2.size _ _ _ _⟩
    | exact ⟨_, _, rfl, rfl, (four_row w2 _ _ _ _).2.2.2, (four_row w2 _ _ _ _).2.2.1, four_bel hb2 hb2.size _ _ _ _⟩
 case rest =>
  obtain ⟨A, B, rfl, rfl, r3, r4, hb3⟩ := hcut
  clear f0 f1 g0 g1
  obtain ⟨⟨f0, f1⟩, g0, g1⟩ := HR.out _ hb3
  obtain ⟨⟨p0, p1⟩, _⟩ := wbox r3
  obtain ⟨⟨p2, p3⟩, _⟩ := wbox r4
  have hl1 := fun u => less_ok x y u
  have hl2 := fun u => less_ok y x u
  obtain ⟨c1, hc1⟩ : ∃ z, decide (x < y) = z := ⟨_, rfl⟩
  obtain ⟨c2, hc2⟩ : ∃ z, decide (y < x) = z := ⟨_, rfl⟩
  have hcmp : cmpN x y = if c1 then -1 else if c2 then 1 else 0 := by
   rw [<- hc1, <- hc2]
   unfold cmpN
   by_cases h1 : x < y <;> by_cases h2 : y < x <;> simp [h1, h2]
  rw [hc1] at hl1
  rw [hc2] at hl2
  have HC := Lib.hid hcmp
  clear hcmp hc1 hc2
  go_wp2_with fail
  refine (hl1 _).mono ?_
  rintro e w5 ⟨rfl, b5⟩
  have hb5 := hb3.trans (b5.mono hb3.size)
  have r5 := (b5.block _ (gis r3).1).trans r3
  have r6 := (b5.block _ (gis r4).1).trans r4
  clear p0 p1 p2 p3 f0 f1 g0 g1
  obtain ⟨⟨p0, p1⟩, _⟩ := wbox r5
  obtain ⟨⟨p2, p3⟩, _⟩ := wbox r6
  cases c1
  ·go_wp2_with fail
   refine (hl2 _).mono ?_
   rintro e w6 ⟨rfl, b6⟩
   have hb6 := hb5.trans (b6.mono hb5.size)
   cases c2
   ·go_wp2_with fail
    go_ret2
    exact ⟨by rw [HC.out]; rfl, hb.trans (hb6.mono hb.size)⟩
   ·go_wp2_with fail
    go_ret2
    exact ⟨by rw [HC.out]; rfl, hb.trans (hb6.mono hb.size)⟩
  ·go_wp2_with fail
   go_ret2
   exact ⟨by rw [HC.out]; rfl, hb.trans (hb5.mono hb.size)⟩
end
end Go.Proofs.YtnlopdmhdiegnaaGreatDoor
