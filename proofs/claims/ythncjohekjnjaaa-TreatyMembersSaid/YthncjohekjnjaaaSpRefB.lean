/- The reference's Normal and add. -/
import Derived.Test.YthncjohekjnjaaaSpRefA
namespace Go.Proofs.Ythncjohekjnjaaa
open Go.RowKit

/-- What bounds the k-th span from below. -/
def Prev (l : List Sp) (k : Nat) (b : Int) : Prop := (k = 0 ∧ b = -1) ∨ (0 < k ∧ 0 ≤ b ∧ ∃ y, l[k - 1]? = some y ∧ y.t = b)

/-- What add returns, whatever the array is. -/
theorem addS_last (l : List Sp) (a b : Int) : l = [] ∨ ∃ l' p, l = l' ++ [p] ∧ addS l a b = if p.t = a then l' ++ [⟨p.f, b⟩] else l' ++ [p, ⟨a, b⟩] := by
  rcases List.eq_nil_or_concat l with rfl | ⟨l', p, rfl⟩
  · exact .inl rfl
  · rw [List.concat_eq_append]
    exact .inr ⟨l', p, rfl, addS_snoc l' p a b⟩
theorem flat_set_last (O : List Sp) (q : Sp) (v : Int) : (flat Sp.cells (O ++ [q])).set (O.length * 2 + 1) (.int .i64 v) = flat Sp.cells (O ++ [⟨q.f, v⟩]) := by
  rw [flat_append, flat_append, flat_one, flat_one, List.set_append_right _ _ (by rw [sp_flen]; omega), sp_flen, show O.length * 2 + 1 - O.length * 2 = 1 by omega]
  rfl

set_option maxHeartbeats 2000000 in
theorem radd_any (A : Option Addr) (n c : Nat) (l : List Sp) (a b : Int) (w : World) (h : Rd w w.heap.size 2 A n (flat Sp.cells l)) (hn : l.length = n) (hn2 : n ≤ 1000000) :
    Calls Try.prog 57 #[.slice A n c, .agg #[.int .i64 a, .int .i64 b]] w fun e w' => ∃ v, e = .returned v ∧ w'.ownsRow w.heap.size 48 2 v (addS l a b).length (flat Sp.cells (addS l a b)) ∧ Below w.heap.size w w' := by
  obtain ⟨i0, hi0, hz0, hz1, hz2⟩ := info_parts info_span
  rcases addS_last l a b with rfl | ⟨l', p, rfl, hadd⟩
  · obtain rfl : n = 0 := by simpa using hn.symm
    go_enter Try.func57, Try.ntmps57
    go_upto_region 2 with (fail)
    go_quiet (fail)
    obtain ⟨W, hW, f0, f1, hWb, hWs⟩ : ∃ W, W = (w.alloc (.cells #[.int .i64 a, .int .i64 b] 48)).drewN nq ∧ W.cell? ⟨w.heap.size, 0, none⟩ = some (.int .i64 a) ∧ W.cell? ⟨w.heap.size, 1, none⟩ = some (.int .i64 b) ∧ Below w.heap.size w W ∧ w.heap.size < W.heap.size :=
      ⟨_, rfl, by simp [go_sem], by simp [go_sem], below_drewN ((Below.refl _ _).alloc (Nat.le_refl _) _) nq, by simp⟩
    rw [← hW]
    clear hW
    have hrW : Rd W w.heap.size 2 A 0 (flat Sp.cells []) := h.below hWb
    have hrW2 : ∀ o, Rd (W.alloc o) w.heap.size 2 A 0 (flat Sp.cells []) := fun o => hrW.alloc (by omega) o
    go_wp2_with fail
    go_region_law (first
      | (refine step_append_rd (by rfl) (.const (.slice none 0 0)) (.tmp 32) 34 (by rfl) W.heap.size 48 i0 _ 2 16 Try.underlying34 hi0 hz0 hz1 hz2 rfl (by omega) (.slice none 0 0) 0 [] (by rfl) (World.ownsRow_nil _ _ _ _)
          w.heap.size A 0 c (flat Sp.cells []) (by rfl) (by first | exact hrW | exact hrW2 _) (sp_one _) (by unfold maxLen; omega) (by omega) (by simp) ?_
         intro v1 w1 hown1 hg1 hat1
         have p0 := hg1.cell (a := ⟨w.heap.size, 0, none⟩) (v := .int .i64 a) (by first | exact f0 | exact (World.cell?_alloc_lt W _ _ hWs).trans f0) (by simp [Value.ownBlock])
         have p1 := hg1.cell (a := ⟨w.heap.size, 1, none⟩) (v := .int .i64 b) (by first | exact f1 | exact (World.cell?_alloc_lt W _ _ hWs).trans f1) (by simp [Value.ownBlock])
         have b1 : Below w.heap.size w w1 := by first | exact hWb.drew.grown hg1 hWb.size (by simp [Value.ownBlock]) | exact (hWb.alloc hWb.size _).drew.grown hg1 (by simp; omega) (by simp [Value.ownBlock])
         have z1 : W.heap.size ≤ w1.heap.size := by have := hg1.size; simp at this; omega
         have lo1 : ∀ k, v1.ownBlock = some k → w.heap.size ≤ k := fun k e => by have := hown1.lt _ e; omega)
      | (refine step_append_rd (by rfl) (.tmp 33) (.tmp 35) 34 (by rfl) W.heap.size 48 i0 _ 2 16 Try.underlying34 hi0 hz0 hz1 hz2 rfl (by omega) v1 (0 + 0) ([] ++ (flat Sp.cells [])) (by rfl) (by first | exact hown1 | exact hown1.alloc _)
          w1.heap.size.succ (some ⟨_, 0, none⟩) 1 1 [.int .i64 a, .int .i64 b] (by rfl) (by first | exact Rd.built (heap_alloc_new w1 _) (Nat.lt_succ_self _) rfl | exact Rd.built (cs := #[.int .i64 a, .int .i64 b]) ((hg1.block W.heap.size (by simp) (by simp [Value.ownBlock])).trans (heap_alloc_new W _)) (by have := hg1.size; simp at this; omega) rfl) (by intro u hu; simp at hu; rcases hu with rfl | rfl <;> rfl) (by unfold maxLen; omega) (by omega) (by have := hg1.size; simp at this ⊢; omega) ?_
         intro v2 w2 hown2 hg2 hat2
         have b2 : Below w.heap.size w w2 := by first | exact b1.grown hg2 b1.size lo1 | exact (b1.alloc b1.size _).grown hg2 (by have := b1.size; simp; omega) lo1
         obtain ⟨A2, c2, rfl, hnc2, hcm2, hA2⟩ := own_form hown2))
    all_goals go_wp2_with fail
    all_goals go_ret
    all_goals refine ⟨_, rfl, ?_, b2⟩
    all_goals (have hq := ownsRow_base hown2 (Nat.le_of_lt hWs))
    all_goals (simp only [Nat.zero_add, List.nil_append, flat_nil] at hq)
    all_goals exact hq
  · have hln : l'.length = n - 1 ∧ 0 < n := by simp at hn; omega
    obtain ⟨hln, hn0⟩ := hln
    obtain ⟨_, g, o, rfl, hgb, _, e1⟩ := sp_cells h (show (l' ++ [p])[n - 1]? = some p by rw [← hln]; simp)
    have hd0 : decide (0 < n) = true := by simpa using hn0
    have hw1 : IntKind.i64.wrap ((n : Int) - 1) = (n : Int) - 1 := IntWalk.i64_in _ (by omega)
    have hlen2 : (l' ++ [p, Sp.mk a b]).length = n + 1 := by rw [← hn]; simp
    have hfl2 : flat Sp.cells (l' ++ [p, Sp.mk a b]) = flat Sp.cells (l' ++ [p]) ++ [.int .i64 a, .int .i64 b] := by rw [show l' ++ [p, Sp.mk a b] = (l' ++ [p]) ++ [Sp.mk a b] by simp, flat_append _ [Sp.mk a b], flat_one]; rfl
    by_cases hpa : p.t = a
    · rw [hadd, if_pos hpa]
      have hpa2 : (p.t == a) = true := beq_iff_eq.2 hpa
      have hfs := flat_set_last l' p b
      rw [hln] at hfs
      have hlen3 : (l' ++ [Sp.mk p.f b]).length = n := by rw [← hn]; simp
      have HF3 := Lib.hid hfs
      have HL3 := Lib.hid hlen3
      clear hadd hn hln hlen2 hfl2 hpa hfs hlen3
      go_enter Try.func57, Try.ntmps57
      go_upto_region 2 with (fail)
      go_quiet (fail)
      obtain ⟨W, hW, f0, f1, hWb, hWs⟩ : ∃ W, W = (w.alloc (.cells #[.int .i64 a, .int .i64 b] 48)).drewN nq ∧ W.cell? ⟨w.heap.size, 0, none⟩ = some (.int .i64 a) ∧ W.cell? ⟨w.heap.size, 1, none⟩ = some (.int .i64 b) ∧ Below w.heap.size w W ∧ w.heap.size < W.heap.size :=
        ⟨_, rfl, by simp [go_sem], by simp [go_sem], below_drewN ((Below.refl _ _).alloc (Nat.le_refl _) _) nq, by simp⟩
      rw [← hW]
      clear hW
      have hrW : Rd W w.heap.size 2 (some ⟨g, o, none⟩) n (flat Sp.cells (l' ++ [p])) := h.below hWb
      have hone := sp_one (l' ++ [p])
      generalize flat Sp.cells (l' ++ [p]) = F at *
      go_wp2_with (at_builtin; go_loud (refine wpList_append_rd (by rfl) (.const (.slice none 0 0)) (.tmp 22) 34 (by rfl) W.heap.size 48 i0 _ 2 16 Try.underlying34 hi0 hz0 hz1 hz2 rfl (by omega) (.slice none 0 0) 0 [] (by rfl) (World.ownsRow_nil _ _ _ _) w.heap.size (some ⟨g, o, none⟩) n c F (by rfl) hrW hone (by unfold maxLen; omega) (by omega) (Nat.le_refl _) ?_); intro v1 w1 hown1 hg1 hat1
                   rw [Nat.zero_add, List.nil_append] at hown1
                   obtain ⟨A1, c1, rfl, hnc1, hcm1, hA1⟩ := own_form hown1
                   obtain ⟨g1, rfl, hg1l⟩ := hA1 hn0
                   have p1 := hg1.cell (a := ⟨w.heap.size, 1, none⟩) (v := .int .i64 b) f1 (by simp [Value.ownBlock])
                   have hlF : (n - 1) * 2 + 1 < F.length := by have := hown1.1; omega
                   have q1 := hown1.cells (g := g1) rfl _ _ (List.getElem?_eq_getElem hlF)
                   rw [addAt, Nat.zero_add] at q1
                   have q2 := hown1.frozenAt ((n - 1) * 2 + 1))
      go_ret
      have hbase := (hown1.lt g1 rfl).1
      have hst := (hown1.stored ((n - 1) * 2 + 1) (.int .i64 b)).1
      rw [HF3.out] at hst
      refine ⟨_, rfl, ?_, ((hWb.grown hg1 hWb.size (by simp [Value.ownBlock])).setCell (by show w.heap.size ≤ g1; omega) _)⟩
      rw [HL3.out]
      exact ownsRow_base hst (Nat.le_of_lt hWs)
    · rw [hadd, if_neg hpa]
      have hpa2 : (p.t == a) = false := beq_eq_false_iff_ne.2 hpa
      have HL2 := Lib.hid hlen2
      have HF2 := Lib.hid hfl2
      have HADD := Lib.hid hadd
      clear hadd hn hln hlen2 hfl2
      go_enter Try.func57, Try.ntmps57
      go_upto_region 2 with (fail)
      go_quiet (fail)
      obtain ⟨W, hW, f0, f1, hWb, hWs⟩ : ∃ W, W = (w.alloc (.cells #[.int .i64 a, .int .i64 b] 48)).drewN nq ∧ W.cell? ⟨w.heap.size, 0, none⟩ = some (.int .i64 a) ∧ W.cell? ⟨w.heap.size, 1, none⟩ = some (.int .i64 b) ∧ Below w.heap.size w W ∧ w.heap.size < W.heap.size :=
        ⟨_, rfl, by simp [go_sem], by simp [go_sem], below_drewN ((Below.refl _ _).alloc (Nat.le_refl _) _) nq, by simp⟩
      rw [← hW]
      clear hW
      have hrW : Rd W w.heap.size 2 (some ⟨g, o, none⟩) n (flat Sp.cells (l' ++ [p])) := h.below hWb
      have hrW2 : ∀ o', Rd (W.alloc o') w.heap.size 2 (some ⟨g, o, none⟩) n (flat Sp.cells (l' ++ [p])) := fun o' => hrW.alloc (by omega) o'
      go_wp2_with fail
      go_region_law (first
        | (refine step_append_rd (by rfl) (.const (.slice none 0 0)) (.tmp 32) 34 (by rfl) W.heap.size 48 i0 _ 2 16 Try.underlying34 hi0 hz0 hz1 hz2 rfl (by omega) (.slice none 0 0) 0 [] (by rfl) (World.ownsRow_nil _ _ _ _)
            w.heap.size (some ⟨g, o, none⟩) n c (flat Sp.cells (l' ++ [p])) (by rfl) (by first | exact hrW | exact hrW2 _) (sp_one _) (by unfold maxLen; omega) (by omega) (by simp) ?_
           intro v1 w1 hown1 hg1 hat1
           have p0 := hg1.cell (a := ⟨w.heap.size, 0, none⟩) (v := .int .i64 a) (by first | exact f0 | exact (World.cell?_alloc_lt W _ _ hWs).trans f0) (by simp [Value.ownBlock])
           have p1 := hg1.cell (a := ⟨w.heap.size, 1, none⟩) (v := .int .i64 b) (by first | exact f1 | exact (World.cell?_alloc_lt W _ _ hWs).trans f1) (by simp [Value.ownBlock])
           have b1 : Below w.heap.size w w1 := by first | exact hWb.drew.grown hg1 hWb.size (by simp [Value.ownBlock]) | exact (hWb.alloc hWb.size _).drew.grown hg1 (by simp; omega) (by simp [Value.ownBlock])
           have z1 : W.heap.size ≤ w1.heap.size := by have := hg1.size; simp at this; omega
           have lo1 : ∀ k, v1.ownBlock = some k → w.heap.size ≤ k := fun k e => by have := hown1.lt _ e; omega)
        | (refine step_append_rd (by rfl) (.tmp 33) (.tmp 35) 34 (by rfl) W.heap.size 48 i0 _ 2 16 Try.underlying34 hi0 hz0 hz1 hz2 rfl (by omega) v1 (0 + n) ([] ++ (flat Sp.cells (l' ++ [p]))) (by rfl) (by first | exact hown1 | exact hown1.alloc _)
            w1.heap.size.succ (some ⟨_, 0, none⟩) 1 1 [.int .i64 a, .int .i64 b] (by rfl) (by first | exact Rd.built (heap_alloc_new w1 _) (Nat.lt_succ_self _) rfl | exact Rd.built (cs := #[.int .i64 a, .int .i64 b]) ((hg1.block W.heap.size (by simp) (by simp [Value.ownBlock])).trans (heap_alloc_new W _)) (by have := hg1.size; simp at this; omega) rfl) (by intro u hu; simp at hu; rcases hu with rfl | rfl <;> rfl) (by unfold maxLen; omega) (by omega) (by have := hg1.size; simp at this ⊢; omega) ?_
           intro v2 w2 hown2 hg2 hat2
           have b2 : Below w.heap.size w w2 := by first | exact b1.grown hg2 b1.size lo1 | exact (b1.alloc b1.size _).grown hg2 (by have := b1.size; simp; omega) lo1
           obtain ⟨A2, c2, rfl, hnc2, hcm2, hA2⟩ := own_form hown2))
      all_goals go_wp2_with fail
      all_goals go_ret
      all_goals refine ⟨_, rfl, ?_, b2⟩
      all_goals rw [HL2.out, HF2.out]
      all_goals (have hq := ownsRow_base hown2 (Nat.le_of_lt hWs))
      all_goals (simp only [Nat.zero_add, List.nil_append] at hq)
      all_goals exact hq
end Go.Proofs.Ythncjohekjnjaaa
