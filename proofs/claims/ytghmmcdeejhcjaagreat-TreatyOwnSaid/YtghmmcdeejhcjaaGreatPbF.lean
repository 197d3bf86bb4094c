/- The hand's Laws, walked: what its treaty is. -/
import Derived.Test.YtghmmcdeejhcjaaGreatQg
import Derived.Test.YtghmmcdeejhcjaaGreatPaY
import Derived.Test.YtghmmcdeejhcjaaGreatTrA
namespace Go.Proofs.YtghmmcdeejhcjaaGreat
open Go.RowKit

theorem info_state : (Tryz.prog.info? 49).map (fun i => (i.zero, i.size, i.bytes)) = some (some (.agg #[.int .i64 0, .string ⟨#[]⟩, .int .i64 0, .slice none 0 0]), 4, 56) := by kernel_rfl
abbrev lawRow (a b c : Value) : Obj := .cells #[a, b, c] 27
theorem law_cells {w : World} {g : Nat} {a b c : Value} (h : w.heap[g]? = some (lawRow a b c)) : w.cell? ⟨g, 0, none⟩ = some a ∧ w.cell? ⟨g, 1, none⟩ = some b ∧ w.cell? ⟨g, 2, none⟩ = some c := by
  refine ⟨?_, ?_, ?_⟩ <;> rw [cell_of_row _ _ _ _ _ _ h] <;> rfl
theorem st_one (k : Int) (nm : ByteArray) (cu : Int) (A : Option Addr) (n c : Nat) : ∀ v ∈ [Value.int .i64 k, .string nm, .int .i64 cu, .slice A n c], v.oneCell' = true := by
  intro v hv
  simp only [List.mem_cons, List.not_mem_nil, or_false] at hv
  rcases hv with rfl | rfl | rfl | rfl <;> rfl
theorem law_one (A B C : Option Addr) (a b c a' b' c' : Nat) : ∀ v ∈ [Value.slice A a a', .slice B b b', .slice C c c'], v.oneCell' = true := by
  intro v hv
  simp only [List.mem_cons, List.not_mem_nil, or_false] at hv
  rcases hv with rfl | rfl | rfl <;> rfl
/-- The laws while the states are read. -/
structure LI (w : World) (A2 : Option Addr) (m c2 : Nat) (B : Value) (wr : World) : Prop where
  e : wr.heap[w.heap.size]? = some (lawRow (.slice none 0 0) (.slice none 0 0) (.slice none 0 0))
  x : wr.heap[w.heap.size + 1 + 1]? = some (lawRow (.slice A2 m c2) B (.slice (some ⟨w.heap.size + 1, 0, none⟩) 4 4))
  own : ∃ xs, wr.ownsRow (w.heap.size + 3) 49 4 (.slice A2 m c2) m xs
  k : Below w.heap.size w wr
  s : w.heap.size + 3 ≤ wr.heap.size
theorem LI.to {w wr wy : World} {A2 : Option Addr} {m c2 : Nat} {B : Value} (h : LI w A2 m c2 B wr) (hb : Below wr.heap.size wr wy) : LI w A2 m c2 B wy := by
  have hs := h.s
  obtain ⟨xs, ho⟩ := h.own
  exact ⟨(hb.block _ (by omega)).trans h.e, (hb.block _ (by omega)).trans h.x, ⟨xs, own_underP ho hb⟩, h.k.trans (hb.mono h.k.size), Nat.le_trans hs hb.size⟩
/-- The laws' treaty. -/
def RetLaws (w : World) (e : Ending) (w' : World) : Prop := ∃ (A1 : Option Addr) (n1 c1 : Nat) (AT : Option Addr) (cT : Nat) (X : List Rv) (A3 : Option Addr) (n3 c3 : Nat), e = .returned (.agg #[.slice A1 n1 c1, .slice AT X.length cT, .slice A3 n3 c3]) ∧ Rus w' w'.heap.size AT X.length X ∧ X.length ≤ 2 ∧ (∀ x ∈ X, x.r.m.length ≤ 3) ∧ (∃ x ∈ X, x.r.f = 0) ∧ Below w.heap.size w w'
theorem rd_row {w : World} {g sz m : Nat} {cs : Array Value} {t : TypeId} (h : w.heap[g]? = some (.cells cs t (0, 0))) (hm : cs.size = m * sz) : Rd w w.heap.size sz (some ⟨g, 0, none⟩) m cs.toList :=
  Rd.built h (Array.getElem?_eq_some_iff.1 h).1 hm
set_option maxRecDepth 100000 in
set_option maxHeartbeats 16000000 in
theorem laws_any {A : Option Addr} {n c : Nat} {l : List Int} {w : World} (h : Rd w w.heap.size 1 A n (ints l)) (hn : n ≤ 100000) : Calls Tryz.prog 4 #[.slice A n c] w (RetLaws w) := by
  obtain ⟨i0, hi0, hz0, hz1, hz2⟩ := info_parts info_state
  obtain ⟨i1, hi1, hu0, hu1, hu2⟩ := info_parts info_rules
  go_enter Tryz.func4, Tryz.ntmps4
  go_upto_region 2 with (fail)
  obtain ⟨W, hW⟩ : ∃ W, W = ((w.alloc (lawRow (.slice none 0 0) (.slice none 0 0) (.slice none 0 0))).alloc (.cells #[.int .i64 1, .int .i64 0, .int .i64 1, .int .i64 1, .int .i64 2, .int .i64 0, .int .i64 3, .int .i64 2, .int .i64 3, .int .i64 0, .int .i64 1, .int .i64 7, .int .i64 3, .int .i64 1150, .int .i64 1, .int .i64 9] 40)).alloc (lawRow (.slice none 0 0) (.slice none 0 0) (.slice (some ⟨w.heap.size + 1, 0, none⟩) 4 4)) := ⟨_, rfl⟩
  have hL : LI w none 0 0 (.slice none 0 0) W := by
    rw [hW]
    refine ⟨(Below.heap_alloc _ _ _ (by simp <;> omega)).trans ((Below.heap_alloc _ _ _ (by simp <;> omega)).trans (heap_alloc_new w _)), ?_, ⟨[], World.ownsRow_nil _ _ _ _⟩, (((Below.refl _ w).alloc (Nat.le_refl _) _).alloc (by simp) _).alloc (by simp; omega) _, by simp⟩
    have e := heap_alloc_new ((w.alloc (lawRow (.slice none 0 0) (.slice none 0 0) (.slice none 0 0))).alloc (.cells #[.int .i64 1, .int .i64 0, .int .i64 1, .int .i64 1, .int .i64 2, .int .i64 0, .int .i64 3, .int .i64 2, .int .i64 3, .int .i64 0, .int .i64 1, .int .i64 7, .int .i64 3, .int .i64 1150, .int .i64 1, .int .i64 9] 40)) (lawRow (.slice none 0 0) (.slice none 0 0) (.slice (some ⟨w.heap.size + 1, 0, none⟩) 4 4))
    have e2 : ((w.alloc (lawRow (.slice none 0 0) (.slice none 0 0) (.slice none 0 0))).alloc (.cells #[.int .i64 1, .int .i64 0, .int .i64 1, .int .i64 1, .int .i64 2, .int .i64 0, .int .i64 3, .int .i64 2, .int .i64 3, .int .i64 0, .int .i64 1, .int .i64 7, .int .i64 3, .int .i64 1150, .int .i64 1, .int .i64 9] 40)).heap.size = w.heap.size + 1 + 1 := by simp
    rw [e2] at e
    exact e
  rw [← hW]
  clear hW
  go_wp2_with fail
  go_loopw [4, 5, 6, 7] (fun i _ _ _ wr => ∃ (k m : Nat) (A2 : Option Addr) (c2 : Nat), k ≤ 3 ∧ m ≤ k ∧ i = .int .i64 (k : Int) ∧ LI w A2 m c2 (.slice none 0 0) wr) (fun i _ _ _ _ => 3 - (intOf i).toNat)
  case atStart => exact ⟨0, 0, none, 0, by omega, by omega, rfl, hL⟩
  case round =>
    clear hL
    obtain ⟨k, m, A2, c2, hk3, hmk, rfl, hL⟩ := hrel
    have hs := hL.s
    have hrd : Rd wr wr.heap.size 1 A n (ints l) := (h.below hL.k).mono hL.k.size
    by_cases hlt : k < 3
    · have hlt' : (k : Int) < 3 := by omega
      go_wp2_with fail
      refine (htext_any hrd hn (x := (k : Int)) (by omega) (by omega)).mono ?_
      rintro e w1 ⟨⟨s, rfl, hs1⟩, hb1⟩
      have hL1 := hL.to hb1
      clear hL hb1 hrd
      go_wp2_with fail
      refine (parse_any s (by omega) _).mono ?_
      rintro e w2 ⟨nm, cu, A3, n3, c3, p, er, rfl, hb2⟩
      have hL2 := hL1.to hb2
      clear hL1 hb2
      go_upto_region 6 with (fail)
      obtain ⟨U, hU⟩ : ∃ U, U = w2.alloc (staRow nm cu A3 n3 c3) := ⟨_, rfl⟩
      have hL3 : LI w A2 m c2 (.slice none 0 0) U := by rw [hU]; exact hL2.to ((Below.refl _ _).alloc (Nat.le_refl _) _)
      have rB : U.heap[w2.heap.size]? = some (staRow nm cu A3 n3 c3) := by rw [hU]; exact heap_alloc_new w2 _
      have hs2 := hL2.s
      rw [← hU]
      clear hU hL2
      by_cases he : er = 0
      · have d0 : (er == 0) = true := beq_iff_eq.2 he
        clear he
        obtain ⟨xs, hown⟩ := hL3.own
        obtain ⟨x0, x1, x2⟩ := law_cells hL3.x
        obtain ⟨b0, b1, b2⟩ := sta_cells rB
        have hs3 := hL3.s
        go_wp2_with (at_builtin; go_loud (refine wpList_append_rd (by rfl) (.tmp 34) (.tmp 38) 23 (by rfl) (w.heap.size + 3) 49 i0 _ 4 56 Tryz.underlying23 hi0 hz0 hz1 hz2 rfl (by omega) (.slice A2 m c2) m xs (by rfl) (hown.alloc _) (U.heap.size + 1) (some ⟨U.heap.size, 0, none⟩) 1 1 [.int .i64 (k : Int), .string nm, .int .i64 cu, .slice A3 n3 c3] (by rfl) (Rd.built (cs := #[.int .i64 (k : Int), .string nm, .int .i64 cu, .slice A3 n3 c3]) (heap_alloc_new U _) (by omega) rfl) (st_one _ _ _ _ _ _) (by unfold maxLen; omega) (by omega) (by simp; omega) ?_); intro vq wq hown4 hg4 hat4; obtain ⟨Aq, cq, rfl, _, _, _⟩ := own_form hown4; have hLA := hL3.to ((Below.refl _ U).alloc (Nat.le_refl _) (.cells #[.int .i64 (k : Int), .string nm, .int .i64 cu, .slice A3 n3 c3] 49)); have rX := (hg4.block (w.heap.size + 1 + 1) (by have := hLA.s; omega) (fun e => by have := hown.lt _ e.symm; omega)).trans hLA.x; have z0 := frozen_of_row wq (w.heap.size + 1 + 1) 0 _ _ rX; have q0 := (law_cells rX).1)
        have hL9 : LI w Aq (m + 1) cq (.slice none 0 0) (wq.setCell ⟨w.heap.size + 1 + 1, 0, none⟩ (.slice Aq (m + 1) cq)) := by
          have hsA := hLA.s
          have hgz := hg4.size
          refine ⟨?_, ?_, ⟨_, ownsRow_setCell_ne hown4 (p := ⟨w.heap.size + 1 + 1, 0, none⟩) (fun e => by have h7 : w.heap.size + 3 ≤ w.heap.size + 1 + 1 := (hown4.lt _ e).1; omega) _⟩, ?_, by simp; omega⟩
          · exact (heap_setCell_other wq ⟨w.heap.size + 1 + 1, 0, none⟩ w.heap.size _ (by show w.heap.size ≠ w.heap.size + 1 + 1; omega)).trans ((hg4.block _ (by omega) (fun e => by have := hown.lt _ e.symm; omega)).trans hLA.e)
          · rw [heap_setCell_same wq (w.heap.size + 1 + 1) 0 _ _ _ rX]; rfl
          · exact ((hLA.k.grown hg4 hLA.k.size (fun g e => by have := hown.lt g e; omega)).setCell (p := ⟨w.heap.size + 1 + 1, 0, none⟩) (by show w.heap.size ≤ w.heap.size + 1 + 1; omega) _)
        go_roundw
        case rel => exact ⟨k + 1, m + 1, Aq, cq, by omega, by omega, by go_num, hL9⟩
        case measure => simp [intOf]; omega
      · have d0 : (er == 0) = false := beq_eq_false_iff_ne.2 he
        clear he
        go_wp2_with fail
        go_roundw
        case rel => exact ⟨k + 1, m, A2, c2, by omega, by omega, by go_num, hL3⟩
        case measure => simp [intOf]; omega
    · have hlt' : ¬ (k : Int) < 3 := by omega
      go_wp2_with fail
      refine (hpick_any hrd hn _).mono ?_
      rintro e w1 ⟨⟨p, rfl⟩, rfl⟩
      go_wp2_with fail
      refine (hmod_any (by omega) (by omega) _).mono ?_
      rintro e w1 ⟨⟨z, rfl, -, za, zb⟩, rfl⟩
      obtain ⟨few, hfew⟩ : ∃ f : Int, 90 * z = f := ⟨_, rfl⟩
      obtain ⟨x0, x1, x2⟩ := law_cells hL.x
      have hXs : w.heap.size + 1 + 1 < wr.heap.size := by omega
      have hAA : ∀ o1 o2 : Obj, ((wr.alloc o1).alloc o2).heap[w.heap.size + 1 + 1]? = some (lawRow (.slice A2 m c2) (.slice none 0 0) (.slice (some ⟨w.heap.size + 1, 0, none⟩) 4 4)) := fun o1 o2 => ((((Below.refl _ wr).alloc (Nat.le_refl _) o1).alloc (by simp) o2).block _ hXs).trans hL.x
      have y1 : ∀ o1 o2 : Obj, ((wr.alloc o1).alloc o2).frozen? ⟨w.heap.size + 1 + 1, 1, none⟩ = false := fun o1 o2 => frozen_of_row _ _ 1 _ _ (hAA o1 o2)
      have y2 : ∀ o1 o2 : Obj, ((wr.alloc o1).alloc o2).cell? ⟨w.heap.size + 1 + 1, 1, none⟩ = some (.slice none 0 0) := fun o1 o2 => (law_cells (hAA o1 o2)).2.1
      go_upto_region 10 with (fail)
      obtain ⟨W9, hW9, rE, rX, rT, rM, hz9, hb9⟩ : ∃ W9, W9 = ((wr.alloc (.cells #[.int .i64 0, .int .i64 1] 3)).alloc (.cells #[.int .i64 0, .int .i64 few, .int .i64 730, .int .i64 25, .slice (some ⟨wr.heap.size, 0, none⟩) 2 2] 31)).setCell ⟨w.heap.size + 1 + 1, 1, none⟩ (.slice (some ⟨wr.heap.size + 1, 0, none⟩) 1 1) ∧
          W9.heap[w.heap.size]? = some (lawRow (.slice none 0 0) (.slice none 0 0) (.slice none 0 0)) ∧ W9.heap[w.heap.size + 1 + 1]? = some (lawRow (.slice A2 m c2) (.slice (some ⟨wr.heap.size + 1, 0, none⟩) 1 1) (.slice (some ⟨w.heap.size + 1, 0, none⟩) 4 4)) ∧ W9.heap[wr.heap.size + 1]? = some (.cells #[.int .i64 0, .int .i64 few, .int .i64 730, .int .i64 25, .slice (some ⟨wr.heap.size, 0, none⟩) 2 2] 31 (0, 0)) ∧ W9.heap[wr.heap.size]? = some (.cells #[.int .i64 0, .int .i64 1] 3 (0, 0)) ∧ wr.heap.size + 2 ≤ W9.heap.size ∧ Below w.heap.size w W9 := by
        have hbA : Below wr.heap.size wr ((wr.alloc (.cells #[.int .i64 0, .int .i64 1] 3)).alloc (.cells #[.int .i64 0, .int .i64 few, .int .i64 730, .int .i64 25, .slice (some ⟨wr.heap.size, 0, none⟩) 2 2] 31)) := ((Below.refl _ wr).alloc (Nat.le_refl _) _).alloc (by simp) _
        refine ⟨_, rfl, ?_, ?_, ?_, ?_, by simp, ?_⟩
        · exact (heap_setCell_other _ ⟨w.heap.size + 1 + 1, 1, none⟩ w.heap.size _ (by show w.heap.size ≠ w.heap.size + 1 + 1; omega)).trans ((hbA.block _ (by omega)).trans hL.e)
        · rw [heap_setCell_same _ (w.heap.size + 1 + 1) 1 _ _ _ ((hbA.block _ hXs).trans hL.x)]; rfl
        · exact (heap_setCell_other _ ⟨w.heap.size + 1 + 1, 1, none⟩ (wr.heap.size + 1) _ (by show wr.heap.size + 1 ≠ w.heap.size + 1 + 1; omega)).trans (heap_alloc2_new wr _ _)
        · exact (heap_setCell_other _ ⟨w.heap.size + 1 + 1, 1, none⟩ wr.heap.size _ (by show wr.heap.size ≠ w.heap.size + 1 + 1; omega)).trans ((Below.heap_alloc _ _ _ (by simp)).trans (heap_alloc_new wr _))
        · exact (hL.k.trans (hbA.mono hL.k.size)).setCell (p := ⟨w.heap.size + 1 + 1, 1, none⟩) (by show w.heap.size ≤ w.heap.size + 1 + 1; omega) _
      rw [← hW9]
      clear hW9 x0 x1 x2 y1 y2 hAA hfew za zb hlt'
      have hrd9 : Rd W9 W9.heap.size 1 A n (ints l) := (h.below hb9).mono hb9.size
      go_wp2_with fail
      refine (hpick_any hrd9 hn _).mono ?_
      rintro e w1 ⟨⟨p, rfl⟩, rfl⟩
      go_wp2_with fail
      refine (hmod_any (by omega) (by omega) _).mono ?_
      rintro e w1 ⟨⟨z3, rfl, -, za, zb⟩, rfl⟩
      obtain ⟨x0, x1, x2⟩ := law_cells rX
      have t4 : W9.cell? ⟨wr.heap.size + 1, 4, none⟩ = some (.slice (some ⟨wr.heap.size, 0, none⟩) 2 2) := by rw [cell_of_row _ _ _ _ _ _ rT]; rfl
      have ft4 : ∀ o : Obj, (W9.alloc o).frozen? ⟨wr.heap.size + 1, 4, none⟩ = false := fun o => frozen_of_row _ _ 4 _ _ ((((Below.refl _ W9).alloc (Nat.le_refl _) o).block _ (by omega)).trans rT)
      have ct4 : ∀ o : Obj, (W9.alloc o).cell? ⟨wr.heap.size + 1, 4, none⟩ = some (.slice (some ⟨wr.heap.size, 0, none⟩) 2 2) := fun o => by rw [cell_of_row _ _ _ _ _ _ ((((Below.refl _ W9).alloc (Nat.le_refl _) o).block _ (by omega)).trans rT)]; rfl
      generalize wr.heap.size = M at *
      rcases (show z3 = 0 ∨ z3 = 1 ∨ z3 = 2 by omega) with rfl | rfl | rfl
      · go_upto_region 17 with (fail)
        obtain ⟨V, hV, vE, vX, vT, vM, hbV, hsV⟩ : ∃ V, V = (W9.alloc (.cells #[.int .i64 0, .int .i64 1, .int .i64 2] 3)).setCell ⟨M + 1, 4, none⟩ (.slice (some ⟨W9.heap.size, 0, none⟩) 3 3) ∧ V.heap[w.heap.size]? = some (lawRow (.slice none 0 0) (.slice none 0 0) (.slice none 0 0)) ∧ V.heap[w.heap.size + 1 + 1]? = some (lawRow (.slice A2 m c2) (.slice (some ⟨M + 1, 0, none⟩) 1 1) (.slice (some ⟨w.heap.size + 1, 0, none⟩) 4 4)) ∧ V.heap[M + 1]? = some (.cells #[.int .i64 0, .int .i64 few, .int .i64 730, .int .i64 25, .slice (some ⟨W9.heap.size, 0, none⟩) 3 3] 31 (0, 0)) ∧ V.heap[W9.heap.size]? = some (.cells #[.int .i64 0, .int .i64 1, .int .i64 2] 3 (0, 0)) ∧ Below w.heap.size w V ∧ W9.heap.size < V.heap.size := by
          have hbA : Below W9.heap.size W9 (W9.alloc (.cells #[.int .i64 0, .int .i64 1, .int .i64 2] 3)) := (Below.refl _ W9).alloc (Nat.le_refl _) _
          refine ⟨_, rfl, ?_, ?_, ?_, ?_, (hb9.trans (hbA.mono hb9.size)).setCell (p := ⟨M + 1, 4, none⟩) (by show w.heap.size ≤ M + 1; omega) _, by simp⟩
          · exact (heap_setCell_other _ ⟨M + 1, 4, none⟩ w.heap.size _ (by show w.heap.size ≠ M + 1; omega)).trans ((hbA.block _ (by omega)).trans rE)
          · exact (heap_setCell_other _ ⟨M + 1, 4, none⟩ (w.heap.size + 1 + 1) _ (by show w.heap.size + 1 + 1 ≠ M + 1; omega)).trans ((hbA.block _ (by omega)).trans rX)
          · rw [heap_setCell_same _ (M + 1) 4 _ _ _ ((hbA.block _ (by omega)).trans rT)]; rfl
          · exact (heap_setCell_other _ ⟨M + 1, 4, none⟩ W9.heap.size _ (by show W9.heap.size ≠ M + 1; omega)).trans (heap_alloc_new W9 _)
        rw [← hV]
        clear hV x0 x1 x2 t4 ft4 ct4 rE rX rT rM
        have hTs := (Array.getElem?_eq_some_iff.1 vT).1
        have hMs := (Array.getElem?_eq_some_iff.1 vM).1
        obtain ⟨v0, v1, v2⟩ := law_cells vX
        go_wp2_with (refine wpList_store_row (by rfl) 27 (.tmp 2) (.tmp 83) (by rfl) w.heap.size _ _ [.slice A2 m c2, .slice (some ⟨M + 1, 0, none⟩) 1 1, .slice (some ⟨w.heap.size + 1, 0, none⟩) 4 4] (by rfl) (by rfl) vE (by rfl) (by kernel_rfl) (law_one _ _ _ _ _ _ _ _ _) ?_; intro W' hw' hg' hs')
        obtain ⟨u0, u1, u2⟩ := law_cells hw'
        exact bodyPost_ret (v := .agg #[.slice A2 m c2, .slice (some ⟨M + 1, 0, none⟩) 1 1, .slice (some ⟨w.heap.size + 1, 0, none⟩) 4 4]) (by simp [results, Tryz.f4, go_sem, u0, u1, u2]) rfl ⟨_, _, _, some ⟨M + 1, 0, none⟩, 1, [(⟨⟨0, few, 730, 25, [0, 1, 2]⟩, some ⟨W9.heap.size, 0, none⟩, 3⟩ : Rv)], _, _, _, rfl, ⟨rd_row ((hg'.block (M + 1) hTs (fun e => by injection e with e; omega)).trans vT) rfl, rfl, fun x hx => by obtain rfl := List.mem_singleton.1 hx; exact rd_row ((hg'.block W9.heap.size hMs (fun e => by injection e with e; omega)).trans vM) rfl⟩, by simp, by intro x hx; simp at hx; subst hx; simp, ⟨_, List.mem_singleton.2 rfl, rfl⟩, hbV.grown hg' hbV.size (fun g e => by injection e with e; omega)⟩
      · clear x0 x1 x2 t4 ft4 ct4
        have hsX := (Array.getElem?_eq_some_iff.1 rX).1
        have hsT := (Array.getElem?_eq_some_iff.1 rT).1
        have hsM := (Array.getElem?_eq_some_iff.1 rM).1
        obtain ⟨o0, o1, o2⟩ := law_cells rX
        obtain ⟨sv, hsv⟩ : ∃ v, v = Value.slice (some ⟨M + 1, 0, none⟩) 1 1 := ⟨_, rfl⟩
        rw [← hsv] at o1
        have hbA : Below W9.heap.size W9 ((W9.alloc (.cells #[.int .i64 0, .int .i64 1, .int .i64 2] 3)).alloc (.cells #[.int .i64 35000, .int .i64 few, .int .i64 365, .int .i64 30, .slice (some ⟨W9.heap.size, 0, none⟩) 3 3] 31)) := ((Below.refl _ W9).alloc (Nat.le_refl _) _).alloc (by simp) _
        have aT := (hbA.block _ hsT).trans rT
        have aX := (hbA.block _ hsX).trans rX
        have aE := (hbA.block w.heap.size (by omega)).trans rE
        have aM := (hbA.block _ hsM).trans rM
        have aN : ((W9.alloc (.cells #[.int .i64 0, .int .i64 1, .int .i64 2] 3)).alloc (.cells #[.int .i64 35000, .int .i64 few, .int .i64 365, .int .i64 30, .slice (some ⟨W9.heap.size, 0, none⟩) 3 3] 31)).heap[W9.heap.size]? = some (.cells #[.int .i64 0, .int .i64 1, .int .i64 2] 3 (0, 0)) := (Below.heap_alloc _ _ _ (by simp)).trans (heap_alloc_new W9 _)
        have hsA : ((W9.alloc (.cells #[.int .i64 0, .int .i64 1, .int .i64 2] 3)).alloc (.cells #[.int .i64 35000, .int .i64 few, .int .i64 365, .int .i64 30, .slice (some ⟨W9.heap.size, 0, none⟩) 3 3] 31)).heap.size = W9.heap.size + 2 := by simp
        have hownT := own_full (base := w.heap.size + 3) (n := 1) (sz := 5) aT (by omega) rfl (by unfold maxLen; omega)
        rw [← hsv] at hownT
        have HSV := Lib.hid hsv
        clear hsv
        have hne : ∀ i : Nat, i ≠ M + 1 → some i ≠ sv.ownBlock := fun i hi e => by rw [HSV.out] at e; have e2 : some i = some (M + 1) := e; injection e2 with e3; exact hi e3
        have hge : ∀ g : Nat, sv.ownBlock = some g → g = M + 1 := fun g e => by rw [HSV.out] at e; have e2 : some (M + 1) = some g := e; injection e2 with e3; exact e3.symm
        have hWz := hb9.size
        have HSA := Lib.hid hsA
        clear hsA
        go_upto_region 17 with (at_builtin; go_loud (refine wpList_append_rd (by rfl) (.tmp 76) (.tmp 80) 24 (by rfl) (w.heap.size + 3) 31 i1 _ 5 56 Tryz.underlying24 hi1 hu0 hu1 hu2 rfl (by omega) sv 1 (flat Rv.cells [(⟨⟨0, few, 730, 25, [0, 1]⟩, some ⟨M, 0, none⟩, 2⟩ : Rv)]) (by rfl) hownT (W9.heap.size + 2) (some ⟨W9.heap.size + 1, 0, none⟩) 1 1 (flat Rv.cells [(⟨⟨35000, few, 365, 30, [0, 1, 2]⟩, some ⟨W9.heap.size, 0, none⟩, 3⟩ : Rv)]) (by rfl) (Rd.built (cs := #[.int .i64 35000, .int .i64 few, .int .i64 365, .int .i64 30, .slice (some ⟨W9.heap.size, 0, none⟩) 3 3]) (heap_alloc2_new W9 _ _) (by omega) rfl) (rv_one _) (by unfold maxLen; omega) (by omega) (by rw [HSA.out]; omega) ?_); intro vq wq hown4 hg4 hat4; obtain ⟨Aq, cq, rfl, _, _, _⟩ := own_form hown4; have qX := (hg4.block (w.heap.size + 1 + 1) (by rw [HSA.out]; omega) (hne _ (by omega))).trans aX; have z0 := frozen_of_row wq (w.heap.size + 1 + 1) 1 _ _ qX; have q0 := (law_cells qX).2.1)
        have qE := (hg4.block w.heap.size (by rw [HSA.out]; omega) (hne _ (by omega))).trans aE
        have qM := (hg4.block M (by rw [HSA.out]; omega) (hne _ (by omega))).trans aM
        have qN := (hg4.block W9.heap.size (by rw [HSA.out]; omega) (hne _ (by omega))).trans aN
        have hbq : Below w.heap.size w wq := (hb9.trans (hbA.mono hb9.size)).grown hg4 (by rw [HSA.out]; omega) (fun g e => by rw [hge g e]; omega)
        have hgz : W9.heap.size + 2 ≤ wq.heap.size := by have := hg4.size; rw [HSA.out] at this; exact this
        obtain ⟨U, hU⟩ : ∃ U, U = wq.setCell ⟨w.heap.size + 1 + 1, 1, none⟩ (.slice Aq 2 cq) := ⟨_, rfl⟩
        have hUg : wq.grownBy U (some (w.heap.size + 1 + 1)) := by rw [hU]; exact Kp.set wq 1 _
        have uX : U.heap[w.heap.size + 1 + 1]? = some (lawRow (.slice A2 m c2) (.slice Aq 2 cq) (.slice (some ⟨w.heap.size + 1, 0, none⟩) 4 4)) := by rw [hU, heap_setCell_same wq (w.heap.size + 1 + 1) 1 _ _ _ qX]; rfl
        have hbU : Below w.heap.size w U := by rw [hU]; exact hbq.setCell (p := ⟨w.heap.size + 1 + 1, 1, none⟩) (by show w.heap.size ≤ w.heap.size + 1 + 1; omega) _
        rw [← hU]
        have hown5 := hown4.kept hUg (.inr (fun e => by have h7 : w.heap.size + 3 ≤ w.heap.size + 1 + 1 := (hown4.lt _ e).1; omega))
        have uE := (hUg.block w.heap.size (by omega) (fun e => by injection e with e; omega)).trans qE
        have uM := (hUg.block M (by omega) (fun e => by injection e with e; omega)).trans qM
        have uN := (hUg.block W9.heap.size (by omega) (fun e => by injection e with e; omega)).trans qN
        have hUz : W9.heap.size + 2 ≤ U.heap.size := Nat.le_trans hgz hUg.size
        clear hU q0 z0 qX qE qM qN aT aX aE aM aN o0 o1 o2 hown4 hbA hownT
        obtain ⟨v0, v1, v2⟩ := law_cells uX
        go_wp2_with (refine wpList_store_row (by rfl) 27 (.tmp 2) (.tmp 83) (by rfl) w.heap.size _ _ [.slice A2 m c2, .slice Aq 2 cq, .slice (some ⟨w.heap.size + 1, 0, none⟩) 4 4] (by rfl) (by rfl) uE (by rfl) (by kernel_rfl) (law_one _ _ _ _ _ _ _ _ _) ?_; intro W' hw' hg' hs')
        obtain ⟨u0, u1, u2⟩ := law_cells hw'
        exact bodyPost_ret (v := .agg #[.slice A2 m c2, .slice Aq 2 cq, .slice (some ⟨w.heap.size + 1, 0, none⟩) 4 4]) (by simp [results, Tryz.f4, go_sem, u0, u1, u2]) rfl ⟨_, _, _, Aq, cq, [(⟨⟨0, few, 730, 25, [0, 1]⟩, some ⟨M, 0, none⟩, 2⟩ : Rv), (⟨⟨35000, few, 365, 30, [0, 1, 2]⟩, some ⟨W9.heap.size, 0, none⟩, 3⟩ : Rv)], _, _, _, rfl, ⟨Rd.ofOwn (hown5.kept hg' (.inr (fun e => by have h7 : w.heap.size + 3 ≤ w.heap.size := (hown5.lt _ e).1; omega))), rfl, fun x hx => by rcases List.mem_cons.1 hx with rfl | hx; exact rd_row ((hg'.block M (by omega) (fun e => by injection e with e; omega)).trans uM) rfl; obtain rfl := List.mem_singleton.1 hx; exact rd_row ((hg'.block W9.heap.size (by omega) (fun e => by injection e with e; omega)).trans uN) rfl⟩, by simp, by intro x hx; simp at hx; rcases hx with rfl | rfl <;> simp, ⟨_, List.mem_cons_self, rfl⟩, hbU.grown hg' hbU.size (fun g e => by injection e with e; omega)⟩
      · go_upto_region 12 with (fail)
        obtain ⟨V, hV, vE, vX, vT, vM, hbV, hsV⟩ : ∃ V, V = (W9.alloc (.cells #[.int .i64 0, .int .i64 1, .int .i64 2] 3)).setCell ⟨M + 1, 4, none⟩ (.slice (some ⟨W9.heap.size, 0, none⟩) 3 3) ∧ V.heap[w.heap.size]? = some (lawRow (.slice none 0 0) (.slice none 0 0) (.slice none 0 0)) ∧ V.heap[w.heap.size + 1 + 1]? = some (lawRow (.slice A2 m c2) (.slice (some ⟨M + 1, 0, none⟩) 1 1) (.slice (some ⟨w.heap.size + 1, 0, none⟩) 4 4)) ∧ V.heap[M + 1]? = some (.cells #[.int .i64 0, .int .i64 few, .int .i64 730, .int .i64 25, .slice (some ⟨W9.heap.size, 0, none⟩) 3 3] 31 (0, 0)) ∧ V.heap[W9.heap.size]? = some (.cells #[.int .i64 0, .int .i64 1, .int .i64 2] 3 (0, 0)) ∧ Below w.heap.size w V ∧ W9.heap.size < V.heap.size := by
          have hbA : Below W9.heap.size W9 (W9.alloc (.cells #[.int .i64 0, .int .i64 1, .int .i64 2] 3)) := (Below.refl _ W9).alloc (Nat.le_refl _) _
          refine ⟨_, rfl, ?_, ?_, ?_, ?_, (hb9.trans (hbA.mono hb9.size)).setCell (p := ⟨M + 1, 4, none⟩) (by show w.heap.size ≤ M + 1; omega) _, by simp⟩
          · exact (heap_setCell_other _ ⟨M + 1, 4, none⟩ w.heap.size _ (by show w.heap.size ≠ M + 1; omega)).trans ((hbA.block _ (by omega)).trans rE)
          · exact (heap_setCell_other _ ⟨M + 1, 4, none⟩ (w.heap.size + 1 + 1) _ (by show w.heap.size + 1 + 1 ≠ M + 1; omega)).trans ((hbA.block _ (by omega)).trans rX)
          · rw [heap_setCell_same _ (M + 1) 4 _ _ _ ((hbA.block _ (by omega)).trans rT)]; rfl
          · exact (heap_setCell_other _ ⟨M + 1, 4, none⟩ W9.heap.size _ (by show W9.heap.size ≠ M + 1; omega)).trans (heap_alloc_new W9 _)
        rw [← hV]
        clear hV x0 x1 x2 t4 ft4 ct4 rE rX rT rM
        have hsX := (Array.getElem?_eq_some_iff.1 vX).1
        have hsT := (Array.getElem?_eq_some_iff.1 vT).1
        have hsM := (Array.getElem?_eq_some_iff.1 vM).1
        obtain ⟨o0, o1, o2⟩ := law_cells vX
        obtain ⟨sv, hsv⟩ : ∃ v, v = Value.slice (some ⟨M + 1, 0, none⟩) 1 1 := ⟨_, rfl⟩
        rw [← hsv] at o1
        have hbA : Below V.heap.size V ((V.alloc (.cells #[.int .i64 0, .int .i64 1] 3)).alloc (.cells #[.int .i64 36000, .int .i64 few, .int .i64 730, .int .i64 25, .slice (some ⟨V.heap.size, 0, none⟩) 2 2] 31)) := ((Below.refl _ V).alloc (Nat.le_refl _) _).alloc (by simp) _
        have aT := (hbA.block _ hsT).trans vT
        have aX := (hbA.block _ hsX).trans vX
        have aE := (hbA.block w.heap.size (by omega)).trans vE
        have aM := (hbA.block _ hsM).trans vM
        have aN : ((V.alloc (.cells #[.int .i64 0, .int .i64 1] 3)).alloc (.cells #[.int .i64 36000, .int .i64 few, .int .i64 730, .int .i64 25, .slice (some ⟨V.heap.size, 0, none⟩) 2 2] 31)).heap[V.heap.size]? = some (.cells #[.int .i64 0, .int .i64 1] 3 (0, 0)) := (Below.heap_alloc _ _ _ (by simp)).trans (heap_alloc_new V _)
        have hsA : ((V.alloc (.cells #[.int .i64 0, .int .i64 1] 3)).alloc (.cells #[.int .i64 36000, .int .i64 few, .int .i64 730, .int .i64 25, .slice (some ⟨V.heap.size, 0, none⟩) 2 2] 31)).heap.size = V.heap.size + 2 := by simp
        have hownT := own_full (base := w.heap.size + 3) (n := 1) (sz := 5) aT (by omega) rfl (by unfold maxLen; omega)
        rw [← hsv] at hownT
        have HSV := Lib.hid hsv
        clear hsv
        have hne : ∀ i : Nat, i ≠ M + 1 → some i ≠ sv.ownBlock := fun i hi e => by rw [HSV.out] at e; have e2 : some i = some (M + 1) := e; injection e2 with e3; exact hi e3
        have hge : ∀ g : Nat, sv.ownBlock = some g → g = M + 1 := fun g e => by rw [HSV.out] at e; have e2 : some (M + 1) = some g := e; injection e2 with e3; exact e3.symm
        have hWz := hbV.size
        have HSA := Lib.hid hsA
        clear hsA
        go_upto_region 17 with (at_builtin; go_loud (refine wpList_append_rd (by rfl) (.tmp 59) (.tmp 63) 24 (by rfl) (w.heap.size + 3) 31 i1 _ 5 56 Tryz.underlying24 hi1 hu0 hu1 hu2 rfl (by omega) sv 1 (flat Rv.cells [(⟨⟨0, few, 730, 25, [0, 1, 2]⟩, some ⟨W9.heap.size, 0, none⟩, 3⟩ : Rv)]) (by rfl) hownT (V.heap.size + 2) (some ⟨V.heap.size + 1, 0, none⟩) 1 1 (flat Rv.cells [(⟨⟨36000, few, 730, 25, [0, 1]⟩, some ⟨V.heap.size, 0, none⟩, 2⟩ : Rv)]) (by rfl) (Rd.built (cs := #[.int .i64 36000, .int .i64 few, .int .i64 730, .int .i64 25, .slice (some ⟨V.heap.size, 0, none⟩) 2 2]) (heap_alloc2_new V _ _) (by omega) rfl) (rv_one _) (by unfold maxLen; omega) (by omega) (by rw [HSA.out]; omega) ?_); intro vq wq hown4 hg4 hat4; obtain ⟨Aq, cq, rfl, _, _, _⟩ := own_form hown4; have qX := (hg4.block (w.heap.size + 1 + 1) (by rw [HSA.out]; omega) (hne _ (by omega))).trans aX; have z0 := frozen_of_row wq (w.heap.size + 1 + 1) 1 _ _ qX; have q0 := (law_cells qX).2.1)
        have qE := (hg4.block w.heap.size (by rw [HSA.out]; omega) (hne _ (by omega))).trans aE
        have qM := (hg4.block W9.heap.size (by rw [HSA.out]; omega) (hne _ (by omega))).trans aM
        have qN := (hg4.block V.heap.size (by rw [HSA.out]; omega) (hne _ (by omega))).trans aN
        have hbq : Below w.heap.size w wq := (hbV.trans (hbA.mono hbV.size)).grown hg4 (by rw [HSA.out]; omega) (fun g e => by rw [hge g e]; omega)
        have hgz : V.heap.size + 2 ≤ wq.heap.size := by have := hg4.size; rw [HSA.out] at this; exact this
        obtain ⟨U, hU⟩ : ∃ U, U = wq.setCell ⟨w.heap.size + 1 + 1, 1, none⟩ (.slice Aq 2 cq) := ⟨_, rfl⟩
        have hUg : wq.grownBy U (some (w.heap.size + 1 + 1)) := by rw [hU]; exact Kp.set wq 1 _
        have uX : U.heap[w.heap.size + 1 + 1]? = some (lawRow (.slice A2 m c2) (.slice Aq 2 cq) (.slice (some ⟨w.heap.size + 1, 0, none⟩) 4 4)) := by rw [hU, heap_setCell_same wq (w.heap.size + 1 + 1) 1 _ _ _ qX]; rfl
        have hbU : Below w.heap.size w U := by rw [hU]; exact hbq.setCell (p := ⟨w.heap.size + 1 + 1, 1, none⟩) (by show w.heap.size ≤ w.heap.size + 1 + 1; omega) _
        rw [← hU]
        have hown5 := hown4.kept hUg (.inr (fun e => by have h7 : w.heap.size + 3 ≤ w.heap.size + 1 + 1 := (hown4.lt _ e).1; omega))
        have uE := (hUg.block w.heap.size (by omega) (fun e => by injection e with e; omega)).trans qE
        have uM := (hUg.block W9.heap.size (by omega) (fun e => by injection e with e; omega)).trans qM
        have uN := (hUg.block V.heap.size (by omega) (fun e => by injection e with e; omega)).trans qN
        have hUz : V.heap.size + 2 ≤ U.heap.size := Nat.le_trans hgz hUg.size
        clear hU q0 z0 qX qE qM qN aT aX aE aM aN o0 o1 o2 hown4 hbA hownT
        obtain ⟨v0, v1, v2⟩ := law_cells uX
        go_wp2_with (refine wpList_store_row (by rfl) 27 (.tmp 2) (.tmp 83) (by rfl) w.heap.size _ _ [.slice A2 m c2, .slice Aq 2 cq, .slice (some ⟨w.heap.size + 1, 0, none⟩) 4 4] (by rfl) (by rfl) uE (by rfl) (by kernel_rfl) (law_one _ _ _ _ _ _ _ _ _) ?_; intro W' hw' hg' hs')
        obtain ⟨u0, u1, u2⟩ := law_cells hw'
        exact bodyPost_ret (v := .agg #[.slice A2 m c2, .slice Aq 2 cq, .slice (some ⟨w.heap.size + 1, 0, none⟩) 4 4]) (by simp [results, Tryz.f4, go_sem, u0, u1, u2]) rfl ⟨_, _, _, Aq, cq, [(⟨⟨0, few, 730, 25, [0, 1, 2]⟩, some ⟨W9.heap.size, 0, none⟩, 3⟩ : Rv), (⟨⟨36000, few, 730, 25, [0, 1]⟩, some ⟨V.heap.size, 0, none⟩, 2⟩ : Rv)], _, _, _, rfl, ⟨Rd.ofOwn (hown5.kept hg' (.inr (fun e => by have h7 : w.heap.size + 3 ≤ w.heap.size := (hown5.lt _ e).1; omega))), rfl, fun x hx => by rcases List.mem_cons.1 hx with rfl | hx; exact rd_row ((hg'.block W9.heap.size (by omega) (fun e => by injection e with e; omega)).trans uM) rfl; obtain rfl := List.mem_singleton.1 hx; exact rd_row ((hg'.block V.heap.size (by omega) (fun e => by injection e with e; omega)).trans uN) rfl⟩, by simp, by intro x hx; simp at hx; rcases hx with rfl | rfl <;> simp, ⟨_, List.mem_cons_self, rfl⟩, hbU.grown hg' hbU.size (fun g e => by injection e with e; omega)⟩
end Go.Proofs.YtghmmcdeejhcjaaGreat
