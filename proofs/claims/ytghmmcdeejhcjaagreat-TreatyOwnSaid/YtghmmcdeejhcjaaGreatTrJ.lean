/- Has, RulesAt and Member of the reference. -/
import Derived.Test.YtghmmcdeejhcjaaGreatTrI
import Derived.Test.YtghmmcdeejhcjaaGreatTrD
namespace Go.Proofs.YtghmmcdeejhcjaaGreat
open Go.RowKit

set_option maxRecDepth 100000 in
set_option maxHeartbeats 2000000 in
theorem rulesat_any {A : Option Addr} {n c : Nat} {X : List Rv} (d : Int) {w : World} (hX : Rus w w.heap.size A n X) (hn : n ≤ 1000000) (hml : ∀ x ∈ X, x.r.m.length ≤ 17592186044416) :
    Calls Tryz.prog 6 #[.slice A n c, .int .i64 d] w (RetAt w (atT (X.map Rv.r) d)) := by
  obtain ⟨i0, hi0, hz0, hz1, hz2⟩ := info_parts info_int
  have HML := Lib.hid hml
  have hw1 : IntKind.i64.wrap ((n : Int) - 1) = (n : Int) - 1 := IntWalk.i64_in _ (by omega)
  clear hml
  go_enter Tryz.func6, Tryz.ntmps6
  go_upto_region 1 with (fail)
  have hrow := heap_alloc_new w (.cells #[.int .i64 0, .int .i64 0, .int .i64 0, .int .i64 0, .slice none 0 0] 31)
  have hbA := (Below.refl w.heap.size w).alloc (Nat.le_refl _) (.cells #[.int .i64 0, .int .i64 0, .int .i64 0, .int .i64 0, .slice none 0 0] 31)
  obtain ⟨W0, hW0⟩ : ∃ W0, W0 = w.alloc (.cells #[.int .i64 0, .int .i64 0, .int .i64 0, .int .i64 0, .slice none 0 0] 31) := ⟨_, rfl⟩
  rw [← hW0] at hrow hbA ⊢
  clear hW0
  have hz := hbA.size
  have hbl : w.heap.size < W0.heap.size := (Array.getElem?_eq_some_iff.1 hrow).1
  have u0 : W0.cell? ⟨w.heap.size, 0, none⟩ = some (.int .i64 0) := by rw [cell_of_row W0 _ 0 _ _ _ hrow]; rfl
  have uf0 := frozen_of_row W0 w.heap.size 0 _ _ hrow
  have u1 : W0.cell? ⟨w.heap.size, 1, none⟩ = some (.int .i64 0) := by rw [cell_of_row W0 _ 1 _ _ _ hrow]; rfl
  have uf1 := frozen_of_row W0 w.heap.size 1 _ _ hrow
  have u2 : W0.cell? ⟨w.heap.size, 2, none⟩ = some (.int .i64 0) := by rw [cell_of_row W0 _ 2 _ _ _ hrow]; rfl
  have uf2 := frozen_of_row W0 w.heap.size 2 _ _ hrow
  have u3 : W0.cell? ⟨w.heap.size, 3, none⟩ = some (.int .i64 0) := by rw [cell_of_row W0 _ 3 _ _ _ hrow]; rfl
  have uf3 := frozen_of_row W0 w.heap.size 3 _ _ hrow
  have u4 : W0.cell? ⟨w.heap.size, 4, none⟩ = some (.slice none 0 0) := by rw [cell_of_row W0 _ 4 _ _ _ hrow]; rfl
  have uf4 := frozen_of_row W0 w.heap.size 4 _ _ hrow
  obtain ⟨t, ht⟩ : ∃ t, isD d = t := ⟨_, rfl⟩
  have HT := Lib.hid ht
  clear ht
  go_wp2_with fail
  go_loopw [6] (fun i wr => ∃ k : Nat, k ≤ n ∧ i = .int .i64 ((n : Int) - 1 - (k : Int)) ∧ (∀ (j : Nat) q, X[j]? = some q → n ≤ j + k → d < q.r.f) ∧ wr = W0) (fun i _ => (intOf i + 1).toNat)
  case atStart => exact ⟨0, by omega, by simp, fun j q hq hj => by have := (List.getElem?_eq_some_iff.1 hq).1; have := hX.2.1; omega, rfl⟩
  case round =>
    obtain ⟨k, hk, rfl, hlater, rfl⟩ := hrel
    have HLA := Lib.hid hlater
    clear hlater
    by_cases hlt : k < n
    · obtain ⟨x, hx⟩ : ∃ x, X[n - 1 - k]? = some x := ⟨_, List.getElem?_eq_getElem (by rw [hX.2.1]; omega)⟩
      obtain ⟨_, b, o, rfl, hbb, c0, c1, c2, c3, c4, hm⟩ := rv_cells (hX.below hbA) hx
      have hi0' : (0 : Int) ≤ (n : Int) - 1 - (k : Int) := by omega
      have hi1' : (n : Int) - 1 - (k : Int) < (n : Int) := by omega
      have hit : ((n : Int) - 1 - (k : Int)).toNat = n - 1 - k := by omega
      have hdi : decide ((0 : Int) ≤ (n : Int) - 1 - (k : Int)) = true := decide_eq_true hi0'
      have hw2 : IntKind.i64.wrap ((n : Int) - 1 - (k : Int) - 1) = (n : Int) - 1 - (k : Int) - 1 := IntWalk.i64_in _ (by omega)
      have HX := Lib.hid hx
      clear hx
      go_wp2_with fail
      refine (vday_to HT.out _).mono ?_
      rintro e w' ⟨rfl, rfl⟩
      cases t
      · skip
        have HN : Hid (atT (X.map Rv.r) d = none) := Lib.hid (atT_day HT.out)
        go_wp2_with fail
        have s1 := heap_setCell_same _ w.heap.size 0 _ _ (.int .i64 0) hrow
        have s2 := heap_setCell_same _ w.heap.size 1 _ _ (.int .i64 0) s1
        have s3 := heap_setCell_same _ w.heap.size 2 _ _ (.int .i64 0) s2
        have s4 := heap_setCell_same _ w.heap.size 3 _ _ (.int .i64 0) s3
        have s5 : (((((wr.setCell ⟨w.heap.size, 0, none⟩ (.int .i64 0)).setCell ⟨w.heap.size, 1, none⟩ (.int .i64 0)).setCell ⟨w.heap.size, 2, none⟩ (.int .i64 0)).setCell ⟨w.heap.size, 3, none⟩ (.int .i64 0)).setCell ⟨w.heap.size, 4, none⟩ (.slice none 0 0)).heap[w.heap.size]? = some (.cells #[.int .i64 0, .int .i64 0, .int .i64 0, .int .i64 0, .slice none 0 0] 31 (0, 0)) := heap_setCell_same _ w.heap.size 4 _ _ (.slice none 0 0) s4
        have hbz : Below w.heap.size w (((((wr.setCell ⟨w.heap.size, 0, none⟩ (.int .i64 0)).setCell ⟨w.heap.size, 1, none⟩ (.int .i64 0)).setCell ⟨w.heap.size, 2, none⟩ (.int .i64 0)).setCell ⟨w.heap.size, 3, none⟩ (.int .i64 0)).setCell ⟨w.heap.size, 4, none⟩ (.slice none 0 0)) := ((((hbA.setCell (p := ⟨w.heap.size, 0, none⟩) (Nat.le_refl _) _).setCell (p := ⟨w.heap.size, 1, none⟩) (Nat.le_refl _) _).setCell (p := ⟨w.heap.size, 2, none⟩) (Nat.le_refl _) _).setCell (p := ⟨w.heap.size, 3, none⟩) (Nat.le_refl _) _).setCell (p := ⟨w.heap.size, 4, none⟩) (Nat.le_refl _) _
        obtain ⟨V, hV⟩ : ∃ V, V = (((((wr.setCell ⟨w.heap.size, 0, none⟩ (.int .i64 0)).setCell ⟨w.heap.size, 1, none⟩ (.int .i64 0)).setCell ⟨w.heap.size, 2, none⟩ (.int .i64 0)).setCell ⟨w.heap.size, 3, none⟩ (.int .i64 0)).setCell ⟨w.heap.size, 4, none⟩ (.slice none 0 0)) := ⟨_, rfl⟩
        rw [← hV] at s5 hbz ⊢
        have f0 : V.cell? ⟨w.heap.size, 0, none⟩ = some (.int .i64 0) := by rw [cell_of_row V _ 0 _ _ _ s5]; rfl
        have f1 : V.cell? ⟨w.heap.size, 1, none⟩ = some (.int .i64 0) := by rw [cell_of_row V _ 1 _ _ _ s5]; rfl
        have f2 : V.cell? ⟨w.heap.size, 2, none⟩ = some (.int .i64 0) := by rw [cell_of_row V _ 2 _ _ _ s5]; rfl
        have f3 : V.cell? ⟨w.heap.size, 3, none⟩ = some (.int .i64 0) := by rw [cell_of_row V _ 3 _ _ _ s5]; rfl
        have f4 : V.cell? ⟨w.heap.size, 4, none⟩ = some (.slice none 0 0) := by rw [cell_of_row V _ 4 _ _ _ s5]; rfl
        exact bodyPost_ret (v := .tuple #[(⟨⟨0, 0, 0, 0, []⟩, none, 0⟩ : Rv).agg, .bool false]) (by simp [results, Tryz.f6, go_sem, f0, f1, f2, f3, f4, Rv.agg]) rfl ⟨hbz, by rw [HN.out]⟩
      · by_cases hf : x.r.f ≤ d
        · have hdf : decide (x.r.f ≤ d) = true := decide_eq_true hf
          have hat : atT (X.map Rv.r) d = some x.r := atT_here HT.out (i := n - 1 - k) (by rw [List.getElem?_map, HX.out]; rfl) hf fun j q hj hij => by
            rw [List.getElem?_map] at hj
            obtain ⟨y, hy, rfl⟩ := Option.map_eq_some_iff.1 hj
            exact HLA.out j y hy (by omega)
          have HAT := Lib.hid hat
          have hml2 := HML.out x (List.mem_of_getElem? HX.out)
          clear hat
          go_upto_region 6 with (fail)
          have hbox := heap_alloc_new wr (.cells #[.int .i64 x.r.f, .int .i64 x.r.d, .int .i64 x.r.p, .int .i64 x.r.b, .slice x.a x.r.m.length x.c] 31)
          have hbx := (Below.refl wr.heap.size wr).alloc (Nat.le_refl _) (.cells #[.int .i64 x.r.f, .int .i64 x.r.d, .int .i64 x.r.p, .int .i64 x.r.b, .slice x.a x.r.m.length x.c] 31)
          obtain ⟨V, hV⟩ : ∃ V, V = wr.alloc (.cells #[.int .i64 x.r.f, .int .i64 x.r.d, .int .i64 x.r.p, .int .i64 x.r.b, .slice x.a x.r.m.length x.c] 31) := ⟨_, rfl⟩
          obtain ⟨B, hB⟩ : ∃ B, B = wr.heap.size := ⟨_, rfl⟩
          rw [← hV, ← hB] at hbox hbx
          rw [← hV, ← hB]
          have hm5 : Rd V w.heap.size 1 x.a x.r.m.length (ints x.r.m) := hm.below (hbx.mono (by omega))
          have hbV : Below w.heap.size w V := hbA.trans (hbx.mono (by omega))
          have hrV : V.heap[w.heap.size]? = some (.cells #[.int .i64 0, .int .i64 0, .int .i64 0, .int .i64 0, .slice none 0 0] 31 (0, 0)) := (hbx.block w.heap.size (by omega)).trans hrow
          have hBl : B < V.heap.size := (Array.getElem?_eq_some_iff.1 hbox).1
          have hwB : w.heap.size < B := by omega
          have x4 : V.cell? ⟨B, 4, none⟩ = some (.slice x.a x.r.m.length x.c) := by rw [cell_of_row V _ 4 _ _ _ hbox]; rfl
          have hzV := hbV.size
          have hio : ∀ u ∈ ints x.r.m, u.oneCell' = true := fun u hu => by obtain ⟨q, _, rfl⟩ := List.mem_map.1 hu; rfl
          clear hV hB u0 u1 u2 u3 u4 uf0 uf1 uf2 uf3 uf4 c0 c1 c2 c3 c4
          go_wp2_with (at_builtin; go_loud (refine wpList_append_rd (by rfl) (.const (.slice none 0 0)) (.tmp 31) 22 (by rfl) w.heap.size 3 i0 _ 1 8 Tryz.underlying22 hi0 hz0 hz1 hz2 rfl (by omega) (.slice none 0 0) 0 [] (by rfl) (World.ownsRow_nil _ _ _ _) w.heap.size x.a x.r.m.length x.c (ints x.r.m) (by rfl) hm5 hio (by unfold maxLen; omega) (by omega) hzV ?_; intro v4 w4 hown4 hg4 hat4; rw [Nat.zero_add, List.nil_append] at hown4; obtain ⟨A4, c4, rfl, _, _, _⟩ := own_form hown4; have z0 := (hg4.block B hBl (by simp [Value.ownBlock])).trans hbox; have z1 := (hg4.block w.heap.size (by omega) (by simp [Value.ownBlock])).trans hrV; have y0' : w4.cell? ⟨B, 0, none⟩ = some (.int .i64 x.r.f) := (by rw [cell_of_row w4 _ 0 _ _ _ z0]; rfl); have y1' : w4.cell? ⟨B, 1, none⟩ = some (.int .i64 x.r.d) := (by rw [cell_of_row w4 _ 1 _ _ _ z0]; rfl); have y2' : w4.cell? ⟨B, 2, none⟩ = some (.int .i64 x.r.p) := (by rw [cell_of_row w4 _ 2 _ _ _ z0]; rfl); have y3' : w4.cell? ⟨B, 3, none⟩ = some (.int .i64 x.r.b) := (by rw [cell_of_row w4 _ 3 _ _ _ z0]; rfl); have y4' : w4.cell? ⟨B, 4, none⟩ = some (.slice x.a x.r.m.length x.c) := (by rw [cell_of_row w4 _ 4 _ _ _ z0]; rfl); have yf' := frozen_of_row w4 B 4 _ _ z0; have u0' : w4.cell? ⟨w.heap.size, 0, none⟩ = some (.int .i64 0) := (by rw [cell_of_row w4 _ 0 _ _ _ z1]; rfl); have uf0' := frozen_of_row w4 w.heap.size 0 _ _ z1; have u1' : w4.cell? ⟨w.heap.size, 1, none⟩ = some (.int .i64 0) := (by rw [cell_of_row w4 _ 1 _ _ _ z1]; rfl); have uf1' := frozen_of_row w4 w.heap.size 1 _ _ z1; have u2' : w4.cell? ⟨w.heap.size, 2, none⟩ = some (.int .i64 0) := (by rw [cell_of_row w4 _ 2 _ _ _ z1]; rfl); have uf2' := frozen_of_row w4 w.heap.size 2 _ _ z1; have u3' : w4.cell? ⟨w.heap.size, 3, none⟩ = some (.int .i64 0) := (by rw [cell_of_row w4 _ 3 _ _ _ z1]; rfl); have uf3' := frozen_of_row w4 w.heap.size 3 _ _ z1; have u4' : w4.cell? ⟨w.heap.size, 4, none⟩ = some (.slice none 0 0) := (by rw [cell_of_row w4 _ 4 _ _ _ z1]; rfl); have uf4' := frozen_of_row w4 w.heap.size 4 _ _ z1; have n1 : ¬ (w.heap.size = B) := (by omega); have n2 : ¬ (B = w.heap.size) := (by omega)))
          have hb4 : Below w.heap.size w w4 := hbV.grown hg4 hzV (fun g e => by simp [Value.ownBlock] at e)
          have nb0 := own_ne hown4 z0 (by decide)
          have nb1 := own_ne hown4 z1 (by decide)
          have s0 := (heap_setCell_other w4 ⟨B, 4, none⟩ w.heap.size (.slice A4 x.r.m.length c4) n1).trans z1
          have s1 := heap_setCell_same _ w.heap.size 0 _ _ (.int .i64 x.r.f) s0
          have s2 := heap_setCell_same _ w.heap.size 1 _ _ (.int .i64 x.r.d) s1
          have s3 := heap_setCell_same _ w.heap.size 2 _ _ (.int .i64 x.r.p) s2
          have s4 := heap_setCell_same _ w.heap.size 3 _ _ (.int .i64 x.r.b) s3
          have s5 : ((((((w4.setCell ⟨B, 4, none⟩ (.slice A4 x.r.m.length c4)).setCell ⟨w.heap.size, 0, none⟩ (.int .i64 x.r.f)).setCell ⟨w.heap.size, 1, none⟩ (.int .i64 x.r.d)).setCell ⟨w.heap.size, 2, none⟩ (.int .i64 x.r.p)).setCell ⟨w.heap.size, 3, none⟩ (.int .i64 x.r.b)).setCell ⟨w.heap.size, 4, none⟩ (.slice A4 x.r.m.length c4)).heap[w.heap.size]? = some (.cells #[.int .i64 x.r.f, .int .i64 x.r.d, .int .i64 x.r.p, .int .i64 x.r.b, .slice A4 x.r.m.length c4] 31 (0, 0)) := heap_setCell_same _ w.heap.size 4 _ _ (.slice A4 x.r.m.length c4) s4
          have hbz : Below w.heap.size w ((((((w4.setCell ⟨B, 4, none⟩ (.slice A4 x.r.m.length c4)).setCell ⟨w.heap.size, 0, none⟩ (.int .i64 x.r.f)).setCell ⟨w.heap.size, 1, none⟩ (.int .i64 x.r.d)).setCell ⟨w.heap.size, 2, none⟩ (.int .i64 x.r.p)).setCell ⟨w.heap.size, 3, none⟩ (.int .i64 x.r.b)).setCell ⟨w.heap.size, 4, none⟩ (.slice A4 x.r.m.length c4)) := (((((hb4.setCell (p := ⟨B, 4, none⟩) (Nat.le_of_lt hwB) _).setCell (p := ⟨w.heap.size, 0, none⟩) (Nat.le_refl _) _).setCell (p := ⟨w.heap.size, 1, none⟩) (Nat.le_refl _) _).setCell (p := ⟨w.heap.size, 2, none⟩) (Nat.le_refl _) _).setCell (p := ⟨w.heap.size, 3, none⟩) (Nat.le_refl _) _).setCell (p := ⟨w.heap.size, 4, none⟩) (Nat.le_refl _) _
          have hoz := ownsRow_setCell_ne (p := ⟨w.heap.size, 4, none⟩) (ownsRow_setCell_ne (p := ⟨w.heap.size, 3, none⟩) (ownsRow_setCell_ne (p := ⟨w.heap.size, 2, none⟩) (ownsRow_setCell_ne (p := ⟨w.heap.size, 1, none⟩) (ownsRow_setCell_ne (p := ⟨w.heap.size, 0, none⟩) (ownsRow_setCell_ne (p := ⟨B, 4, none⟩) hown4 nb0 (.slice A4 x.r.m.length c4)) nb1 (.int .i64 x.r.f)) nb1 (.int .i64 x.r.d)) nb1 (.int .i64 x.r.p)) nb1 (.int .i64 x.r.b)) nb1 (.slice A4 x.r.m.length c4)
          obtain ⟨U, hU⟩ : ∃ U, U = ((((((w4.setCell ⟨B, 4, none⟩ (.slice A4 x.r.m.length c4)).setCell ⟨w.heap.size, 0, none⟩ (.int .i64 x.r.f)).setCell ⟨w.heap.size, 1, none⟩ (.int .i64 x.r.d)).setCell ⟨w.heap.size, 2, none⟩ (.int .i64 x.r.p)).setCell ⟨w.heap.size, 3, none⟩ (.int .i64 x.r.b)).setCell ⟨w.heap.size, 4, none⟩ (.slice A4 x.r.m.length c4)) := ⟨_, rfl⟩
          rw [← hU] at s5 hbz hoz ⊢
          have f0 : U.cell? ⟨w.heap.size, 0, none⟩ = some (.int .i64 x.r.f) := by rw [cell_of_row U _ 0 _ _ _ s5]; rfl
          have f1 : U.cell? ⟨w.heap.size, 1, none⟩ = some (.int .i64 x.r.d) := by rw [cell_of_row U _ 1 _ _ _ s5]; rfl
          have f2 : U.cell? ⟨w.heap.size, 2, none⟩ = some (.int .i64 x.r.p) := by rw [cell_of_row U _ 2 _ _ _ s5]; rfl
          have f3 : U.cell? ⟨w.heap.size, 3, none⟩ = some (.int .i64 x.r.b) := by rw [cell_of_row U _ 3 _ _ _ s5]; rfl
          have f4 : U.cell? ⟨w.heap.size, 4, none⟩ = some (.slice A4 x.r.m.length c4) := by rw [cell_of_row U _ 4 _ _ _ s5]; rfl
          exact bodyPost_ret (v := .tuple #[(⟨x.r, A4, c4⟩ : Rv).agg, .bool true]) (by simp [results, Tryz.f6, go_sem, f0, f1, f2, f3, f4, Rv.agg]) rfl ⟨hbz, by rw [HAT.out]; exact ⟨A4, c4, rfl, hoz⟩⟩
        · have hdf : decide (x.r.f ≤ d) = false := decide_eq_false hf
          have HL2 : Hid (∀ (j : Nat) q, X[j]? = some q → n ≤ j + (k + 1) → d < q.r.f) := Lib.hid fun j q hq hj => by
            by_cases hjk : n ≤ j + k
            · exact HLA.out j q hq hjk
            · have e : j = n - 1 - k := by omega
              subst e
              rw [HX.out] at hq
              cases hq
              omega
          clear hf
          go_wp2_with fail
          go_roundw
          case rel => exact ⟨k + 1, by omega, by go_num, HL2.out, trivial⟩
          case measure => simp [intOf]; omega
    · obtain rfl : k = n := by omega
      have hdi : decide ((0 : Int) ≤ (k : Int) - 1 - (k : Int)) = false := decide_eq_false (by omega)
      have hdi2 : ¬ (0 : Int) ≤ (k : Int) - 1 - (k : Int) := by omega
      have HN : Hid (atT (X.map Rv.r) d = none) := Lib.hid (atT_nothing fun r hr => by obtain ⟨y, hy, rfl⟩ := List.mem_map.1 hr; obtain ⟨j, hj⟩ := List.mem_iff_getElem?.1 hy; exact HLA.out j y hj (by omega))
      go_wp2_with fail
      have s1 := heap_setCell_same _ w.heap.size 0 _ _ (.int .i64 0) hrow
      have s2 := heap_setCell_same _ w.heap.size 1 _ _ (.int .i64 0) s1
      have s3 := heap_setCell_same _ w.heap.size 2 _ _ (.int .i64 0) s2
      have s4 := heap_setCell_same _ w.heap.size 3 _ _ (.int .i64 0) s3
      have s5 : (((((wr.setCell ⟨w.heap.size, 0, none⟩ (.int .i64 0)).setCell ⟨w.heap.size, 1, none⟩ (.int .i64 0)).setCell ⟨w.heap.size, 2, none⟩ (.int .i64 0)).setCell ⟨w.heap.size, 3, none⟩ (.int .i64 0)).setCell ⟨w.heap.size, 4, none⟩ (.slice none 0 0)).heap[w.heap.size]? = some (.cells #[.int .i64 0, .int .i64 0, .int .i64 0, .int .i64 0, .slice none 0 0] 31 (0, 0)) := heap_setCell_same _ w.heap.size 4 _ _ (.slice none 0 0) s4
      have hbz : Below w.heap.size w (((((wr.setCell ⟨w.heap.size, 0, none⟩ (.int .i64 0)).setCell ⟨w.heap.size, 1, none⟩ (.int .i64 0)).setCell ⟨w.heap.size, 2, none⟩ (.int .i64 0)).setCell ⟨w.heap.size, 3, none⟩ (.int .i64 0)).setCell ⟨w.heap.size, 4, none⟩ (.slice none 0 0)) := ((((hbA.setCell (p := ⟨w.heap.size, 0, none⟩) (Nat.le_refl _) _).setCell (p := ⟨w.heap.size, 1, none⟩) (Nat.le_refl _) _).setCell (p := ⟨w.heap.size, 2, none⟩) (Nat.le_refl _) _).setCell (p := ⟨w.heap.size, 3, none⟩) (Nat.le_refl _) _).setCell (p := ⟨w.heap.size, 4, none⟩) (Nat.le_refl _) _
      obtain ⟨V, hV⟩ : ∃ V, V = (((((wr.setCell ⟨w.heap.size, 0, none⟩ (.int .i64 0)).setCell ⟨w.heap.size, 1, none⟩ (.int .i64 0)).setCell ⟨w.heap.size, 2, none⟩ (.int .i64 0)).setCell ⟨w.heap.size, 3, none⟩ (.int .i64 0)).setCell ⟨w.heap.size, 4, none⟩ (.slice none 0 0)) := ⟨_, rfl⟩
      rw [← hV] at s5 hbz ⊢
      have f0 : V.cell? ⟨w.heap.size, 0, none⟩ = some (.int .i64 0) := by rw [cell_of_row V _ 0 _ _ _ s5]; rfl
      have f1 : V.cell? ⟨w.heap.size, 1, none⟩ = some (.int .i64 0) := by rw [cell_of_row V _ 1 _ _ _ s5]; rfl
      have f2 : V.cell? ⟨w.heap.size, 2, none⟩ = some (.int .i64 0) := by rw [cell_of_row V _ 2 _ _ _ s5]; rfl
      have f3 : V.cell? ⟨w.heap.size, 3, none⟩ = some (.int .i64 0) := by rw [cell_of_row V _ 3 _ _ _ s5]; rfl
      have f4 : V.cell? ⟨w.heap.size, 4, none⟩ = some (.slice none 0 0) := by rw [cell_of_row V _ 4 _ _ _ s5]; rfl
      exact bodyPost_ret (v := .tuple #[(⟨⟨0, 0, 0, 0, []⟩, none, 0⟩ : Rv).agg, .bool false]) (by simp [results, Tryz.f6, go_sem, f0, f1, f2, f3, f4, Rv.agg]) rfl ⟨hbz, by rw [HN.out]⟩
end Go.Proofs.YtghmmcdeejhcjaaGreat
