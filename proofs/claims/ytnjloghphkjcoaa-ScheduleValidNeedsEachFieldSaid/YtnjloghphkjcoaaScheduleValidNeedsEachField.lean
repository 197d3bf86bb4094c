/- The walk of ScheduleValidNeedsEachField. -/
import Derived.Test.YtnjloghphkjcoaaScV
import Derived.KernelRfl
namespace Go.Proofs.Ytnjloghphkjcoaa
open Go.RowKit

set_option maxRecDepth 100000 in
set_option maxHeartbeats 1000000 in
theorem walkScheduleValidNeedsEachField (A : Option Addr) (n c : Nat) (xs : List Int) (fr at' wh by' : Int) (w : World) (h : Rd w w.heap.size 3 A n (ints xs)) (hok : ∀ x ∈ xs, I64 x) (_ : n ≤ maxLen) (_ : I64 fr) (_ : I64 at') (_ : I64 wh) (_ : I64 by') :
    Calls Try.prog 4 #[.slice A n c, .int .i64 fr, .int .i64 at', .int .i64 wh, .int .i64 by'] w fun e w' => e = .returned (.bool true) ∧ Below w.heap.size w w' := by
  obtain ⟨i0, hi0, hz0, hz1, hz2⟩ := info_parts info_row
  go_enter Try.func4, Try.ntmps4
  go_wp2_with fail
  refine (rows_any fr h hok).mono ?_
  rintro e w1 ⟨A1, c1, L, rfl, hown, hv, ham, hl12, -, hb1, -⟩
  have hd1 := Dr.ofOwn hown rfl
  clear h ham
  have hvset : ∀ k r, k < L.length → ¬ RowOk r → vldB (L.set k r) = false := fun k r => vldB_set
  have hvdup : ∀ k r, L[k]? = some r → vldB (L.take k ++ [r] ++ L.drop k) = false := fun k r => vldB_dup
  obtain ⟨n1, hLn⟩ : ∃ n1, L.length = n1 := ⟨_, rfl⟩
  rw [hLn] at hown hd1 hl12 hvset ⊢
  have HLN := Lib.hid hLn
  have HVS := Lib.hid hvset
  have HVD := Lib.hid hvdup
  clear hLn hvset hvdup
  have hm1 : n1 ≤ maxLen := by unfold maxLen; omega
  go_wp2_with fail
  refine (valid_any hd1 hm1).mono ?_
  rintro e w2 ⟨rfl, hb2⟩
  rw [hv]
  have hown2 := own_below hown hb2
  have hbb2 := hb1.trans (hb2.mono hb1.size)
  clear hd1 hown hb1 hb2 hv
  go_wp2_with fail
  refine (awake_any w2).mono ?_
  rintro e w3 ⟨rfl, hb3⟩
  have hown3 := own_below hown2 hb3
  have hbb3 := hbb2.trans (hb3.mono hbb2.size)
  clear hown2 hbb2 hb3
  by_cases h0 : n1 = 0
  · subst h0
    go_wp2_with fail
    go_ret
    exact ⟨rfl, hbb3⟩
  have h1 : ((n1 : Int) == 0) = false := beq_eq_false_iff_ne.2 (by omega)
  obtain ⟨A1', c1', he, hnc, hcm, hA⟩ := own_form hown3
  injection he with e1 _ e3
  subst e1 e3
  obtain ⟨g, rfl, hgl⟩ := hA (by omega)
  have hgw := (hown3.lt g rfl).1
  obtain ⟨k, hk⟩ : ∃ k : Nat, at' % (n1 : Int) = (k : Int) := ⟨(at' % (n1 : Int)).toNat, by have := Int.emod_nonneg at' (show (n1 : Int) ≠ 0 by omega); omega⟩
  have hkN : k < n1 := by have := Int.emod_lt_of_pos at' (show 0 < (n1 : Int) by omega); omega
  obtain ⟨x, hx⟩ : ∃ x, L[k]? = some x := ⟨_, List.getElem?_eq_getElem (by rw [HLN.out]; exact hkN)⟩
  clear h0 hA
  go_wp2_with fail
  refine (mod_any at' n1 _ (by omega) (by omega)).mono ?_
  rintro e wz ⟨rfl, rfl⟩
  rw [hk]
  clear hk
  go_wp2_with fail
  have hb_d := mod_bd by' 1000 (by omega)
  refine (mod_any by' 1000 _ (by omega) (by omega)).mono ?_
  rintro e wz ⟨rfl, rfl⟩
  generalize by' % 1000 = d at *
  go_wp2_with fail
  have hb_q := mod_bd wh 7 (by omega)
  refine (mod_any wh 7 _ (by omega) (by omega)).mono ?_
  rintro e wz ⟨rfl, rfl⟩
  generalize wh % 7 = q at *
  obtain ⟨D, hD⟩ : ∃ D, 1 + d = D := ⟨_, rfl⟩
  rw [hD]
  have hD1 : 1 ≤ D := by omega
  have hD2 : D ≤ 1000 := by omega
  clear hD hb_d
  have hlo : (0 : Int) ≤ (k : Int) := by omega
  have hhi : (k : Int) < (n1 : Int) := by omega
  have hfx := fun i (hi : i < 6) => flat_get rw_len L k i x hx hi
  have hcx := fun i u (hi : i < 6) (hu : x.cells[i]? = some u) => by
    have := hown3.cells (g := g) rfl (k * 6 + i) u (by rw [hfx i hi, hu])
    rwa [addAt, Nat.zero_add] at this
  have k0 := hcx 0 _ (by omega) rfl
  have k1 := hcx 1 _ (by omega) rfl
  have k2 := hcx 2 _ (by omega) rfl
  have k3 := hcx 3 _ (by omega) rfl
  have k4 := hcx 4 _ (by omega) rfl
  have k5 := hcx 5 _ (by omega) rfl
  rw [Nat.add_zero] at k0
  clear hcx hfx
  have hq : q = 0 ∨ q = 1 ∨ q = 2 ∨ q = 3 ∨ q = 4 ∨ q = 5 ∨ q = 6 := by omega
  clear hb_q
  rcases hq with rfl | rfl | rfl | rfl | rfl | rfl | rfl
  · have hfz := hown3.frozenAt (k * 6)
    have hst := (hown3.stored (k * 6) (.int .i64 (5 + D))).1
    rw [show (flat Rw.cells L).set (k * 6) (.int .i64 (5 + D)) = _ from rw_set (x := x) (x' := ⟨(5 + D), x.b, x.m, x.c, x.a, x.p⟩) (i := 0) (by omega) rfl L k hx] at hst
    have hvf := HVS.out k ⟨(5 + D), x.b, x.m, x.c, x.a, x.p⟩ hkN (by unfold RowOk; simp only; omega)
    have hd4 := Dr.ofOwn hst (by rw [List.length_set]; exact HLN.out)
    have hb4 := hbb3.setCell (p := ⟨g, k * 6, none⟩) hgw (.int .i64 (5 + D))
    generalize L.set k ⟨(5 + D), x.b, x.m, x.c, x.a, x.p⟩ = L2 at *
    clear hown3 hx hst hbb3 HVS HVD
    go_wp2_with fail
    refine (valid_any hd4 hm1).mono ?_
    rintro e w4 ⟨rfl, hb5⟩
    rw [hvf]
    go_wp2_with fail
    go_ret
    exact ⟨rfl, hb4.trans (hb5.mono hb4.size)⟩
  · have hfz := hown3.frozenAt (k * 6 + 1)
    have hst := (hown3.stored (k * 6 + 1) (.int .i64 (-D))).1
    rw [show (flat Rw.cells L).set (k * 6 + 1) (.int .i64 (-D)) = _ from rw_set (x := x) (x' := ⟨x.s, (-D), x.m, x.c, x.a, x.p⟩) (i := 1) (by omega) rfl L k hx] at hst
    have hvf := HVS.out k ⟨x.s, (-D), x.m, x.c, x.a, x.p⟩ hkN (by unfold RowOk; simp only; omega)
    have hd4 := Dr.ofOwn hst (by rw [List.length_set]; exact HLN.out)
    have hb4 := hbb3.setCell (p := ⟨g, k * 6 + 1, none⟩) hgw (.int .i64 (-D))
    generalize L.set k ⟨x.s, (-D), x.m, x.c, x.a, x.p⟩ = L2 at *
    clear hown3 hx hst hbb3 HVS HVD
    go_wp2_with fail
    refine (valid_any hd4 hm1).mono ?_
    rintro e w4 ⟨rfl, hb5⟩
    rw [hvf]
    go_wp2_with fail
    go_ret
    exact ⟨rfl, hb4.trans (hb5.mono hb4.size)⟩
  · have hfz := hown3.frozenAt (k * 6 + 2)
    have hst := (hown3.stored (k * 6 + 2) (.int .i64 (2399 + D))).1
    rw [show (flat Rw.cells L).set (k * 6 + 2) (.int .i64 (2399 + D)) = _ from rw_set (x := x) (x' := ⟨x.s, x.b, (2399 + D), x.c, x.a, x.p⟩) (i := 2) (by omega) rfl L k hx] at hst
    have hvf := HVS.out k ⟨x.s, x.b, (2399 + D), x.c, x.a, x.p⟩ hkN (by unfold RowOk; simp only; omega)
    have hd4 := Dr.ofOwn hst (by rw [List.length_set]; exact HLN.out)
    have hb4 := hbb3.setCell (p := ⟨g, k * 6 + 2, none⟩) hgw (.int .i64 (2399 + D))
    generalize L.set k ⟨x.s, x.b, (2399 + D), x.c, x.a, x.p⟩ = L2 at *
    clear hown3 hx hst hbb3 HVS HVD
    go_wp2_with fail
    refine (valid_any hd4 hm1).mono ?_
    rintro e w4 ⟨rfl, hb5⟩
    rw [hvf]
    go_wp2_with fail
    go_ret
    exact ⟨rfl, hb4.trans (hb5.mono hb4.size)⟩
  · have hfz := hown3.frozenAt (k * 6 + 3)
    have hst := (hown3.stored (k * 6 + 3) (.int .i64 (999 + D))).1
    rw [show (flat Rw.cells L).set (k * 6 + 3) (.int .i64 (999 + D)) = _ from rw_set (x := x) (x' := ⟨x.s, x.b, x.m, (999 + D), x.a, x.p⟩) (i := 3) (by omega) rfl L k hx] at hst
    have hvf := HVS.out k ⟨x.s, x.b, x.m, (999 + D), x.a, x.p⟩ hkN (by unfold RowOk; simp only; omega)
    have hd4 := Dr.ofOwn hst (by rw [List.length_set]; exact HLN.out)
    have hb4 := hbb3.setCell (p := ⟨g, k * 6 + 3, none⟩) hgw (.int .i64 (999 + D))
    generalize L.set k ⟨x.s, x.b, x.m, (999 + D), x.a, x.p⟩ = L2 at *
    clear hown3 hx hst hbb3 HVS HVD
    go_wp2_with fail
    refine (valid_any hd4 hm1).mono ?_
    rintro e w4 ⟨rfl, hb5⟩
    rw [hvf]
    go_wp2_with fail
    go_ret
    exact ⟨rfl, hb4.trans (hb5.mono hb4.size)⟩
  · have hfz := hown3.frozenAt (k * 6 + 4)
    have hst := (hown3.stored (k * 6 + 4) (.int .i64 (-D))).1
    rw [show (flat Rw.cells L).set (k * 6 + 4) (.int .i64 (-D)) = _ from rw_set (x := x) (x' := ⟨x.s, x.b, x.m, x.c, (-D), x.p⟩) (i := 4) (by omega) rfl L k hx] at hst
    have hvf := HVS.out k ⟨x.s, x.b, x.m, x.c, (-D), x.p⟩ hkN (by unfold RowOk; simp only; omega)
    have hd4 := Dr.ofOwn hst (by rw [List.length_set]; exact HLN.out)
    have hb4 := hbb3.setCell (p := ⟨g, k * 6 + 4, none⟩) hgw (.int .i64 (-D))
    generalize L.set k ⟨x.s, x.b, x.m, x.c, (-D), x.p⟩ = L2 at *
    clear hown3 hx hst hbb3 HVS HVD
    go_wp2_with fail
    refine (valid_any hd4 hm1).mono ?_
    rintro e w4 ⟨rfl, hb5⟩
    rw [hvf]
    go_wp2_with fail
    go_ret
    exact ⟨rfl, hb4.trans (hb5.mono hb4.size)⟩
  · have hfz := hown3.frozenAt (k * 6 + 4)
    have hst := (hown3.stored (k * 6 + 4) (.int .i64 (1000000000000 + D))).1
    rw [show (flat Rw.cells L).set (k * 6 + 4) (.int .i64 (1000000000000 + D)) = _ from rw_set (x := x) (x' := ⟨x.s, x.b, x.m, x.c, (1000000000000 + D), x.p⟩) (i := 4) (by omega) rfl L k hx] at hst
    have hvf := HVS.out k ⟨x.s, x.b, x.m, x.c, (1000000000000 + D), x.p⟩ hkN (by unfold RowOk; simp only; omega)
    have hd4 := Dr.ofOwn hst (by rw [List.length_set]; exact HLN.out)
    have hb4 := hbb3.setCell (p := ⟨g, k * 6 + 4, none⟩) hgw (.int .i64 (1000000000000 + D))
    generalize L.set k ⟨x.s, x.b, x.m, x.c, (1000000000000 + D), x.p⟩ = L2 at *
    clear hown3 hx hst hbb3 HVS HVD
    go_wp2_with fail
    refine (valid_any hd4 hm1).mono ?_
    rintro e w4 ⟨rfl, hb5⟩
    rw [hvf]
    go_wp2_with fail
    go_ret
    exact ⟨rfl, hb4.trans (hb5.mono hb4.size)⟩
  · have hvf := HVD.out k x hx
    have hll : (L.take k ++ [x] ++ L.drop k).length = 0 + k + 1 + (n1 - k) := by
      have := HLN.out
      simp
      omega
    have hflt : [] ++ flat Rw.cells (L.take k) ++ x.cells ++ flat Rw.cells (L.drop k) = flat Rw.cells (L.take k ++ [x] ++ L.drop k) := by rw [flat_append, flat_append, flat_one, List.nil_append]
    have hrd := Rd.ofOwn hown3
    have ht : Rd w3 w3.heap.size 6 (some ⟨g, 0, none⟩) k (flat Rw.cells (L.take k)) := by rw [rw_take]; exact hrd.take (by omega)
    have hd' : Rd w3 w3.heap.size 6 (if c1 = k then some ⟨g, 0, none⟩ else some ⟨g, k * 6, none⟩) (n1 - k) (flat Rw.cells (L.drop k)) := by
      rw [rw_drop]
      simpa [addAt] using hrd.drop (k := k) (c := c1) (n := n1) (Nat.le_of_lt hkN) hnc
    have ho1 := rw_one (L.take k)
    have ho2 := rw_one (L.drop k)
    have ho3 : ∀ u ∈ x.cells, u.oneCell' = true := by have := rw_one [x]; rwa [flat_one] at this
    generalize flat Rw.cells (L.take k) = F1 at *
    generalize flat Rw.cells (L.drop k) = F2 at *
    have hkc : (k : Int) ≤ (c1 : Int) := by omega
    have hki : (k : Int) ≤ (n1 : Int) := by omega
    have hws : w.heap.size ≤ w3.heap.size := hbb3.size
    have HX := Lib.hid hflt
    have HLL := Lib.hid hll
    clear hown3 hx HVS HVD hrd hflt hll
    go_wp2_with fail
    go_region_law (first
      | (refine step_append_rd (by rfl) (.const (.slice none 0 0)) (.tmp 38) 22 (by rfl) w3.heap.size 31 i0 _ 6 48 Try.underlying22 hi0 hz0 hz1 hz2 rfl (by omega) (.slice none 0 0) 0 [] (by rfl) (World.ownsRow_nil _ _ _ _) w3.heap.size (some ⟨g, 0, none⟩) k c1 F1 (by kernel_rfl) (by first | exact ht | exact ht.alloc (Nat.le_refl _) _) ho1 (by unfold maxLen; omega) (by omega) (by simp) ?_
         intro v1 w1 hown1 hg1 hat1
         have b1 : Below w3.heap.size w3 w1 := by first | exact (Below.refl _ _).drew.grown hg1 (Nat.le_refl _) (by simp [Value.ownBlock]) | exact ((Below.refl _ _).alloc (Nat.le_refl _) _).drew.grown hg1 (by simp) (by simp [Value.ownBlock])
         have p0 := (b1.cell (p := ⟨g, k * 6, none⟩) hgl).trans k0
         have p1 := (b1.cell (p := ⟨g, k * 6 + 1, none⟩) hgl).trans k1
         have p2 := (b1.cell (p := ⟨g, k * 6 + 2, none⟩) hgl).trans k2
         have p3 := (b1.cell (p := ⟨g, k * 6 + 3, none⟩) hgl).trans k3
         have p4 := (b1.cell (p := ⟨g, k * 6 + 4, none⟩) hgl).trans k4
         have p5 := (b1.cell (p := ⟨g, k * 6 + 5, none⟩) hgl).trans k5
         have lo1 : ∀ g, v1.ownBlock = some g → w3.heap.size ≤ g := fun g e => (hown1.lt g e).1)
      | (refine step_append_rd (by rfl) (.tmp 39) (.tmp 44) 22 (by rfl) w3.heap.size 31 i0 _ 6 48 Try.underlying22 hi0 hz0 hz1 hz2 rfl (by omega) v1 (0 + k) ([] ++ F1) (by kernel_rfl) (hown1.alloc _) w1.heap.size.succ (some ⟨w1.heap.size, 0, none⟩) 1 1 x.cells (by kernel_rfl) (Rd.built (heap_alloc_new w1 _) (Nat.lt_succ_self _) rfl) ho3 (by unfold maxLen; omega) (by omega) (by have := hg1.size; simp at this ⊢; omega) ?_
         intro v2 w2 hown2 hg2 hat2
         have b2 : Below w3.heap.size w3 w2 := (b1.alloc b1.size _).grown hg2 (by have := b1.size; simp; omega) lo1
         have lo2 : ∀ g, v2.ownBlock = some g → w3.heap.size ≤ g := fun g e => (hown2.lt g e).1)
      | (refine step_append_rd (by rfl) (.tmp 39) (.tmp 44) 22 (by rfl) w3.heap.size 31 i0 _ 6 48 Try.underlying22 hi0 hz0 hz1 hz2 rfl (by omega) v1 (0 + k) ([] ++ F1) (by kernel_rfl) hown1 w1.heap.size.succ (some ⟨w3.heap.size, 0, none⟩) 1 1 x.cells (by kernel_rfl) (Rd.built (cs := #[.int .i64 x.s, .int .i64 x.b, .int .i64 x.m, .int .i64 x.c, .int .i64 x.a, .bool x.p]) ((hg1.block w3.heap.size (by simp) (by simp [Value.ownBlock])).trans (heap_alloc_new w3 _)) (by have := hg1.size; simp at this; omega) rfl) ho3 (by unfold maxLen; omega) (by omega) (by have := hg1.size; simp at this ⊢; omega) ?_
         intro v2 w2 hown2 hg2 hat2
         have b2 : Below w3.heap.size w3 w2 := b1.grown hg2 b1.size lo1
         have lo2 : ∀ g, v2.ownBlock = some g → w3.heap.size ≤ g := fun g e => (hown2.lt g e).1)
      | (refine step_append_rd (by rfl) (.tmp 45) (.tmp 48) 22 (by rfl) w3.heap.size 31 i0 _ 6 48 Try.underlying22 hi0 hz0 hz1 hz2 rfl (by omega) v2 (0 + k + 1) ([] ++ F1 ++ x.cells) (by kernel_rfl) hown2 w3.heap.size (if c1 = k then some ⟨g, 0, none⟩ else some ⟨g, k * 6, none⟩) (n1 - k) (c1 - k) F2 (by kernel_rfl) (hd'.below b2) ho2 (by unfold maxLen; omega) (by omega) b2.size ?_
         intro v3 w4 hown3 hg3 hat3
         have b3 : Below w3.heap.size w3 w4 := b2.grown hg3 b2.size lo2
         rw [HX.out] at hown3
         have hb4 := hbb3.trans (b3.mono hws)
         obtain ⟨A3, c3, rfl, hnc3, hcm3, hA3⟩ := own_form hown3))
    all_goals go_wp2_with fail
    all_goals have hd4 := Dr.ofOwn hown3 HLL.out
    all_goals rw [Nat.zero_add] at hd4
    all_goals refine (valid_any hd4 (by unfold maxLen; omega)).mono ?_
    all_goals rintro e w5 ⟨rfl, hb5⟩
    all_goals rw [hvf]
    all_goals go_wp2_with fail
    all_goals go_ret
    all_goals exact ⟨rfl, hb4.trans (hb5.mono hb4.size)⟩
end Go.Proofs.Ytnjloghphkjcoaa
