/- The walk of SpansParts. -/
import Derived.Test.YtjhbicopmgdlcaaSpClipP
import Derived.Test.YtjhbicopmgdlcaaSpPrefR
import Derived.Test.YtjhbicopmgdlcaaSpChain
namespace Go.Proofs.Ytjhbicopmgdlcaa
open Go.RowKit

theorem Ds.to {w w' w'' : World} {A : Option Addr} {n : Nat} {l : List Sp} (h : Ds w A n l) (hb : Below w'.heap.size w' w'') (hw : w'.heap = w.heap) : Ds w'' A n l := by
  refine Ds.below (w := w') ⟨?_, h.2⟩ hb
  have h1 := h.1
  rw [← hw] at h1
  exact h1.keep fun p _ => by unfold World.cell?; rw [hw]
theorem row_to {w w' w'' : World} {b : Nat} {o : Obj} (h : w.heap[b]? = some o) (hb : Below w'.heap.size w' w'') (hw : w'.heap = w.heap) : w''.heap[b]? = some o := by
  have hl : b < w'.heap.size := by rw [hw]; exact (Array.getElem?_eq_some_iff.1 h).1
  rw [hb.block b hl, hw, h]

theorem ds_set {w : World} {A : Option Addr} {n b i j : Nat} {l : List Sp} {u v : Value} (h : Ds w A n l) (hne : ∀ g o, A = some ⟨g, o, none⟩ → g ≠ b) : Ds ((w.setCell ⟨b, i, none⟩ u).setCell ⟨b, j, none⟩ v) A n l := by
  refine ⟨⟨h.1.1, fun hn => ?_⟩, h.2⟩
  obtain ⟨g, o, e, hg, hc⟩ := h.1.2 hn
  have hgb := hne g o e
  refine ⟨g, o, e, by simpa using hg, fun k u hk => ?_⟩
  rw [World.cell?_setCell_other _ _ _ _ (fun e => by injection e with e; exact hgb e.symm), World.cell?_setCell_other _ _ _ _ (fun e => by injection e with e; exact hgb e.symm)]
  exact hc k u hk
/-- What small returns of new spans lies in memory of the call's own. -/
def RetSn (w : World) (n : Nat) (e : Ending) (w' : World) : Prop := ∃ A c l, e = .returned (.slice A n c) ∧ Ds w' A n l ∧ (∀ g o, A = some ⟨g, o, none⟩ → w.heap.size ≤ g) ∧ Below w.heap.size w w'
set_option maxHeartbeats 4000000 in
theorem small_own (A : Option Addr) (n c : Nat) (l : List Sp) (s : Int) (w : World) (h : Ds w A n l) (hn : n ≤ 1000) (hs : s.tmod 4 ≠ 0) : Calls Try.prog 15 #[.slice A n c, .int .i64 s] w (RetSn w n) := by
  obtain ⟨i0, hi0, hz0, hz1, hz2⟩ := info_parts info_span
  have hb : (s.tmod 4 == 0) = false := beq_eq_false_iff_ne.2 hs
  obtain ⟨p, k, hp, hp4, hk0, hk1, hcell⟩ := scale_row s w
  have hp4' : (p : Int) < 4 := by omega
  have hp0 : (0 : Int) ≤ (p : Int) := by omega
  have HN := Lib.hid h.2
  have hrd := h.1
  clear hs h
  go_enter Try.func15, Try.ntmps15
  go_wp2_with fail
  refine (pick_any s 4 _ (by omega)).mono ?_
  rintro e w' ⟨rfl, rfl⟩
  rw [hp]
  have HP := Lib.hid hp
  clear hp
  go_wp2_with fail
  go_loopw [6, 7] (fun v i wr => ∃ (j : Nat) (O : List Sp), j ≤ n ∧ i = .int .i64 (j : Int) ∧ O.length = j ∧ (∀ s ∈ O, s.ok) ∧ wr.ownsRow w.heap.size 36 2 v j (flat Sp.cells O) ∧ Below w.heap.size w wr) (fun _ i _ => n - (intOf i).toNat)
  case atStart => exact ⟨0, [], by omega, rfl, rfl, by simp, World.ownsRow_nil _ _ _ _, (Below.refl _ _).alloc (Nat.le_refl _) _⟩
  case round =>
    obtain ⟨j, O, hj, rfl, hOl, hOo, hown, hbr⟩ := hrel
    have hwsz := hbr.size
    have HOL := Lib.hid hOl
    have HOO := Lib.hid hOo
    clear hOl hOo
    by_cases hlt : j < n
    · have hjl : j < l.length := by rw [HN.out]; exact hlt
      obtain ⟨x, hx⟩ : ∃ x, l[j]? = some x := ⟨_, List.getElem?_eq_getElem hjl⟩
      obtain ⟨_, g, o, rfl, hgb, e0, e1⟩ := sp_cells (hrd.below hbr) hx
      obtain ⟨A2, c2, rfl, _, _, _⟩ := own_form hown
      have hlo : (0 : Int) ≤ (j : Int) := by omega
      have hhi : (j : Int) < (n : Int) := by omega
      clear hx hcell
      go_wp2_with fail
      refine (pick_any x.f k _ (by omega)).mono ?_
      rintro e w' ⟨rfl, rfl⟩
      have hpb := pick_bd2 x.f k hk0 hk1
      generalize pick x.f k = q at *
      go_wp2_with fail
      have hk3 : k / 3 + 2 ≤ 4611686018427387904 := by omega
      have hk30 : 0 ≤ k / 3 + 2 := by omega
      have hk31 : k / 3 + 2 ≤ 73108 := by omega
      refine (pick_any x.t _ _ hk3).mono ?_
      rintro e w' ⟨rfl, rfl⟩
      have hpb2 := pick_bd2 x.t (k / 3 + 2) hk30 hk31
      generalize pick x.t (k / 3 + 2) = r at *
      go_wp2_with (at_builtin; go_loud (refine wpList_append_rd (by rfl) (.tmp 32) (.tmp 47) 22 (by rfl) w.heap.size 36 i0 _ 2 16 Try.underlying22 hi0 hz0 hz1 hz2 rfl (by omega) (.slice A2 j c2) j (flat Sp.cells O) (by rfl) (hown.alloc _) (wr.heap.size + 1) (some ⟨wr.heap.size, 0, none⟩) 1 1 [.int .i64 (q - 3), .int .i64 (q - 3 + r - 1)] (by rfl) (Rd.built (heap_alloc_new wr _) (by omega) rfl) (by intro u hu; simp at hu; rcases hu with rfl | rfl <;> rfl) (by unfold maxLen; omega) (by omega) (by simp; omega) ?_); intro v4 w4 hown4 hg4 hat4)
      have hb4 := (hbr.alloc hwsz (.cells #[.int .i64 (q - 3), .int .i64 (q - 3 + r - 1)] 36)).grown hg4 (by simp; omega) (fun g e => by have := (hown.lt g e).1; omega)
      have e2 : flat Sp.cells (O ++ [Sp.mk (q - 3) (q - 3 + r - 1)]) = flat Sp.cells O ++ [.int .i64 (q - 3), .int .i64 (q - 3 + r - 1)] := by rw [flat_append, flat_one]; rfl
      refine ⟨⟨j + 1, O ++ [Sp.mk (q - 3) (q - 3 + r - 1)], by omega, by go_num, by rw [List.length_append, HOL.out]; rfl, fun s hs => ?_, ?_, hb4⟩, by simp [intOf]; omega⟩
      · rcases List.mem_append.1 hs with hs | hs
        · exact HOO.out s hs
        · rw [List.mem_singleton.1 hs]
          exact ⟨⟨by show _ ≤ q - 3; omega, by show q - 3 ≤ _; omega⟩, ⟨by show _ ≤ q - 3 + r - 1; omega, by show q - 3 + r - 1 ≤ _; omega⟩⟩
      · rw [e2]
        exact hown4
    · obtain rfl : j = n := by omega
      obtain ⟨A2, c2, rfl, _, _, _⟩ := own_form hown
      go_wp2_with fail
      go_ret
      exact ⟨A2, c2, O, rfl, Ds.ofOwn hown HOL.out, fun g o e => by subst e; exact (hown.lt g rfl).1, hbr⟩
def RetPr (w : World) (e : Ending) (w' : World) : Prop := ∃ m, e = .returned (.int .i64 m) ∧ I64 m ∧ Below w.heap.size w w'
theorem probe_pr (n s : Int) (hn : I64 n) (w : World) : Calls Try.prog 28 #[.int .i64 n, .int .i64 s] w (RetPr w) := probe_any n s hn w

set_option maxRecDepth 100000 in
set_option maxHeartbeats 4000000 in
theorem walkSpansParts (A : Option Addr) (n c : Nat) (l : List Sp) (f t q s : Int) (w : World) (h : Ds w A n l) (hok : ∀ s ∈ l, s.ok) (_ : n ≤ maxLen) (hf : I64 f) (ht : I64 t) (hq : I64 q) (_ : I64 s) :
    Calls Try.prog 5 #[.slice A n c, .agg #[.int .i64 f, .int .i64 t], .int .i64 q, .int .i64 s] w fun e w' => e = .returned (.bool true) ∧ Below w.heap.size w w' := by
  have hrow0 : (w.alloc (.cells #[.int .i64 f, .int .i64 t] 36)).heap[w.heap.size]? = some (.cells #[.int .i64 f, .int .i64 t] 36 (0, 0)) := heap_alloc_new w _
  have hb0 := (Below.refl w.heap.size w).alloc (Nat.le_refl _) (.cells #[.int .i64 f, .int .i64 t] 36)
  by_cases hbig : 60 < n
  · have hbig2 : (60 : Int) < (n : Int) := by omega
    clear hrow0
    go_enter Try.func5, Try.ntmps5
    go_wp2_with fail
    go_ret
    exact ⟨rfl, hb0⟩
  have hbig2 : ¬ (60 : Int) < (n : Int) := by omega
  go_enter Try.func5, Try.ntmps5
  go_wp2_with fail
  obtain ⟨w0, hW⟩ : ∃ W, W = w.alloc (.cells #[.int .i64 f, .int .i64 t] 36) := ⟨_, rfl⟩
  rw [← hW] at hrow0 hb0 ⊢
  clear hW
  by_cases hs : s.tmod 4 = 0
  · refine (small_any A n c l s w0 (h.below hb0) hok (by omega)).mono ?_
    rintro e w1 ⟨A1, c1, la, rfl, hx1, -, hb1⟩
    have hrow1 := row_to hrow0 hb1 rfl
    have hbb1 := hb0.trans (hb1.mono hb0.size)
    clear h hrow0 hb0 hb1
    have hs2 : (s.tmod 4 != 0) = false := by simp [hs]
    clear hs
    go_wp2_with fail
    have s0 : w1.cell? ⟨w.heap.size, 0, none⟩ = some (.int .i64 f) := by rw [cell_of_row w1 _ 0 _ _ _ hrow1]; rfl
    have s1 : w1.cell? ⟨w.heap.size, 1, none⟩ = some (.int .i64 t) := by rw [cell_of_row w1 _ 1 _ _ _ hrow1]; rfl
    have hBC := nfc_len (la := la) (lb := [⟨f, t⟩]) (m := 1) (fun x y => x && y) rfl hx1.2 rfl
    have hBP : (nf fun x => dset la x && decide (befL (nf (dset la)) x < q)).length ≤ 2 * n := by rw [← prefL_nf]; exact Nat.le_trans (prefL_length _ _) (nf_length_le hx1.2)
    have HBC := Lib.hid hBC
    have HBP := Lib.hid hBP
    clear hBC hBP
    go_region_held3 (fun w' => w'.cell? ⟨w.heap.size, 0, none⟩ = some (.int .i64 f) ∧ w'.cell? ⟨w.heap.size, 1, none⟩ = some (.int .i64 t)) (go_keep)
      (first
        | (go_at_call 17; (with_reducible refine (awake_any _).mono ?_); rintro e u1 ⟨rfl, hc1⟩
           have r1 := row_to hrow1 hc1 rfl
           have x1 := hx1.to hc1 rfl
           have bb1 : Below w.heap.size w u1 := by first | exact hbb1.trans (hc1.mono hbb1.size) | exact hbb1.drew.trans (hc1.mono hbb1.drew.size)
           have p0 : u1.cell? ⟨w.heap.size, 0, none⟩ = some (.int .i64 f) := by rw [cell_of_row u1 _ 0 _ _ _ r1]; rfl
           have p1 : u1.cell? ⟨w.heap.size, 1, none⟩ = some (.int .i64 t) := by rw [cell_of_row u1 _ 1 _ _ _ r1]; rfl)
        | (go_at_call 29; (with_reducible refine (clip_any f t x1 (by omega)).mono ?_); intro e u2 hr; obtain ⟨mC, kC, AC, cC, HMC, rfl, hlC, hC1, hc2⟩ := hr.open HBC.out
           have r2 := row_to r1 hc2 rfl
           have x2 := x1.to hc2 rfl
           have bb2 : Below w.heap.size w u2 := by first | exact bb1.trans (hc2.mono bb1.size) | exact bb1.drew.trans (hc2.mono bb1.drew.size)
           have p0 : u2.cell? ⟨w.heap.size, 0, none⟩ = some (.int .i64 f) := by rw [cell_of_row u2 _ 0 _ _ _ r2]; rfl
           have p1 : u2.cell? ⟨w.heap.size, 1, none⟩ = some (.int .i64 t) := by rw [cell_of_row u2 _ 1 _ _ _ r2]; rfl)
        | (go_at_call 30; (with_reducible refine (rclip_any f t x2 (by omega)).mono ?_); intro e u3 hr; obtain ⟨mR, kR, AR, cR, HMR, rfl, hlR, hR1, hc3⟩ := hr.open HBC.out
           have r3 := row_to r2 hc3 rfl
           have x3 := x2.to hc3 rfl
           have hC2 := hC1.to hc3 rfl
           have hR2 := hR1
           have bb3 : Below w.heap.size w u3 := by first | exact bb2.trans (hc3.mono bb2.size) | exact bb2.drew.trans (hc3.mono bb2.drew.size)
           have p0 : u3.cell? ⟨w.heap.size, 0, none⟩ = some (.int .i64 f) := by rw [cell_of_row u3 _ 0 _ _ _ r3]; rfl
           have p1 : u3.cell? ⟨w.heap.size, 1, none⟩ = some (.int .i64 t) := by rw [cell_of_row u3 _ 1 _ _ _ r3]; rfl)
        | (go_at_call 18; (with_reducible refine (sames_true hC2 hR2 (same_nf HMC HMR fun _ _ => rfl) (by omega) (by omega)).mono ?_); rintro e u4 ⟨rfl, hc4⟩
           have r4 := row_to r3 hc4 rfl
           have x4 := x3.to hc4 rfl
           have bb4 : Below w.heap.size w u4 := by first | exact bb3.trans (hc4.mono bb3.size) | exact bb3.drew.trans (hc4.mono bb3.drew.size)
           have p0 : u4.cell? ⟨w.heap.size, 0, none⟩ = some (.int .i64 f) := by rw [cell_of_row u4 _ 0 _ _ _ r4]; rfl
           have p1 : u4.cell? ⟨w.heap.size, 1, none⟩ = some (.int .i64 t) := by rw [cell_of_row u4 _ 1 _ _ _ r4]; rfl)
        | (go_at_call 31; (with_reducible refine (prefix_any q x4 (by omega) hq).mono ?_); intro e u5 hr; obtain ⟨mP, kP, AP, cP, HMP, rfl, hlP, hP1, hc5⟩ := hr.open HBP.out
           have r5 := row_to r4 hc5 rfl
           have x5 := x4.to hc5 rfl
           have bb5 : Below w.heap.size w u5 := by first | exact bb4.trans (hc5.mono bb4.size) | exact bb4.drew.trans (hc5.mono bb4.drew.size)
           have p0 : u5.cell? ⟨w.heap.size, 0, none⟩ = some (.int .i64 f) := by rw [cell_of_row u5 _ 0 _ _ _ r5]; rfl
           have p1 : u5.cell? ⟨w.heap.size, 1, none⟩ = some (.int .i64 t) := by rw [cell_of_row u5 _ 1 _ _ _ r5]; rfl)
        | (go_at_call 32; (with_reducible refine (rprefix_any q x5 (by omega) hq).mono ?_); intro e u6 hr; obtain ⟨mK, kK, AK, cK, HMK, rfl, hlK, hK1, hc6⟩ := hr.open HBP.out
           have r6 := row_to r5 hc6 rfl
           have x6 := x5.to hc6 rfl
           have hP2 := hP1.to hc6 rfl
           have hK2 := hK1
           have bb6 : Below w.heap.size w u6 := by first | exact bb5.trans (hc6.mono bb5.size) | exact bb5.drew.trans (hc6.mono bb5.drew.size)
           have p0 : u6.cell? ⟨w.heap.size, 0, none⟩ = some (.int .i64 f) := by rw [cell_of_row u6 _ 0 _ _ _ r6]; rfl
           have p1 : u6.cell? ⟨w.heap.size, 1, none⟩ = some (.int .i64 t) := by rw [cell_of_row u6 _ 1 _ _ _ r6]; rfl)
        | (go_at_call 18; (with_reducible refine (sames_true hP2 hK2 (same_nf HMP HMK fun _ _ => rfl) (by omega) (by omega)).mono ?_); rintro e u7 ⟨rfl, hc7⟩
           have r7 := row_to r6 hc7 rfl
           have x7 := x6.to hc7 rfl
           have bb7 : Below w.heap.size w u7 := by first | exact bb6.trans (hc7.mono bb6.size) | exact bb6.drew.trans (hc7.mono bb6.drew.size)
           have p0 : u7.cell? ⟨w.heap.size, 0, none⟩ = some (.int .i64 f) := by rw [cell_of_row u7 _ 0 _ _ _ r7]; rfl
           have p1 : u7.cell? ⟨w.heap.size, 1, none⟩ = some (.int .i64 t) := by rw [cell_of_row u7 _ 1 _ _ _ r7]; rfl))
    go_wp2_with fail
    go_ret
    exact ⟨rfl, bb7⟩
  · have hlt0 : w.heap.size < w0.heap.size := (Array.getElem?_eq_some_iff.1 hrow0).1
    refine (small_own A n c l s w0 (h.below hb0) (by omega) hs).mono ?_
    rintro e w1 ⟨A1, c1, la, rfl, hx1, hsep, hb1⟩
    have hrow1 := row_to hrow0 hb1 rfl
    have hbb1 := hb0.trans (hb1.mono hb0.size)
    have hne : ∀ g o, A1 = some ⟨g, o, none⟩ → g ≠ w.heap.size := fun g o e => by have := hsep g o e; omega
    have HNE := Lib.hid hne
    clear h hrow0 hb0 hb1 hsep hlt0 hne
    have hs2 : (s.tmod 4 != 0) = true := by simp [hs]
    have hgl : w.heap.size < w1.heap.size := (Array.getElem?_eq_some_iff.1 hrow1).1
    have c0 : w1.cell? ⟨w.heap.size, 0, none⟩ = some (.int .i64 f) := by rw [cell_of_row w1 _ 0 _ _ _ hrow1]; rfl
    have c1' : w1.cell? ⟨w.heap.size, 1, none⟩ = some (.int .i64 t) := by rw [cell_of_row w1 _ 1 _ _ _ hrow1]; rfl
    clear hs
    go_wp2_with fail
    go_region_with (first
        | (go_at_call 28; (with_reducible refine (probe_pr f s hf _).mono ?_); rintro e w2 ⟨f2, rfl, hf2, hb2⟩
           have hrow2 := row_to hrow1 hb2 rfl
           have hx2 := hx1.to hb2 rfl
           have hbb2 : Below w.heap.size w w2 := by first | exact hbb1.trans (hb2.mono hbb1.size) | exact hbb1.drew.trans (hb2.mono hbb1.drew.size)
           have p0 : w2.cell? ⟨w.heap.size, 0, none⟩ = some (.int .i64 f) := by rw [cell_of_row w2 _ 0 _ _ _ hrow2]; rfl
           have p1 : w2.cell? ⟨w.heap.size, 1, none⟩ = some (.int .i64 t) := by rw [cell_of_row w2 _ 1 _ _ _ hrow2]; rfl)
        | (go_at_call 28; (with_reducible refine (probe_pr t s ht _).mono ?_); rintro e w3 ⟨t2, rfl, ht2, hb3⟩
           have hrow3 := row_to hrow2 hb3 rfl
           have hx3 := hx2.to hb3 rfl
           have hbb3 := hbb2.trans (hb3.mono hbb2.size)
           have p0 : w3.cell? ⟨w.heap.size, 0, none⟩ = some (.int .i64 f) := by rw [cell_of_row w3 _ 0 _ _ _ hrow3]; rfl
           have p1 : w3.cell? ⟨w.heap.size, 1, none⟩ = some (.int .i64 t) := by rw [cell_of_row w3 _ 1 _ _ _ hrow3]; rfl
           have z0 := frozen_of_row w3 w.heap.size 0 _ _ hrow3
           have z1 := frozen_of_row w3 w.heap.size 1 _ _ hrow3))
    all_goals go_wp2_with fail
    all_goals as_aux_lemma =>
      have hrow4 : ((w3.setCell ⟨w.heap.size, 0, none⟩ (.int .i64 f2)).setCell ⟨w.heap.size, 1, none⟩ (.int .i64 t2)).heap[w.heap.size]? = some (.cells #[.int .i64 f2, .int .i64 t2] 36 (0, 0)) := heap_setCell_same _ w.heap.size 1 _ _ _ (heap_setCell_same w3 w.heap.size 0 _ _ _ hrow3)
      have hbb4 := (hbb3.setCell (p := ⟨w.heap.size, 0, none⟩) (Nat.le_refl _) (.int .i64 f2)).setCell (p := ⟨w.heap.size, 1, none⟩) (Nat.le_refl _) (.int .i64 t2)
      have hx4 : Ds ((w3.setCell ⟨w.heap.size, 0, none⟩ (.int .i64 f2)).setCell ⟨w.heap.size, 1, none⟩ (.int .i64 t2)) A1 n la := ds_set hx3 HNE.out
      obtain ⟨w4, hW⟩ : ∃ W, W = (w3.setCell ⟨w.heap.size, 0, none⟩ (.int .i64 f2)).setCell ⟨w.heap.size, 1, none⟩ (.int .i64 t2) := ⟨_, rfl⟩
      rw [← hW] at hrow4 hbb4 hx4 ⊢
      clear hW hrow3 hbb3 hx3 hrow2 hbb2 hx2 hrow1 hbb1 hx1 hb2 hb3 p0 p1 z0 z1 c0 c1'
      refine (probe_pr q s hq _).mono ?_
      rintro e w5 ⟨q2, rfl, hq2, hb5⟩
      have hrow5 := row_to hrow4 hb5 rfl
      have hx5 := hx4.to hb5 rfl
      have hbb5 := hbb4.trans (hb5.mono hbb4.size)
      clear hrow4 hx4 hbb4 hb5
      go_wp2_with fail
      have s0 : w5.cell? ⟨w.heap.size, 0, none⟩ = some (.int .i64 f2) := by rw [cell_of_row w5 _ 0 _ _ _ hrow5]; rfl
      have s1 : w5.cell? ⟨w.heap.size, 1, none⟩ = some (.int .i64 t2) := by rw [cell_of_row w5 _ 1 _ _ _ hrow5]; rfl
      have hBC := nfc_len (la := la) (lb := [⟨f2, t2⟩]) (m := 1) (fun x y => x && y) rfl hx5.2 rfl
      have hBP : (nf fun x => dset la x && decide (befL (nf (dset la)) x < q2)).length ≤ 2 * n := by rw [← prefL_nf]; exact Nat.le_trans (prefL_length _ _) (nf_length_le hx5.2)
      have HBC := Lib.hid hBC
      have HBP := Lib.hid hBP
      clear hBC hBP
      go_region_held3 (fun w' => w'.cell? ⟨w.heap.size, 0, none⟩ = some (.int .i64 f2) ∧ w'.cell? ⟨w.heap.size, 1, none⟩ = some (.int .i64 t2)) (go_keep)
        (first
          | (go_at_call 17; (with_reducible refine (awake_any _).mono ?_); rintro e u1 ⟨rfl, hc1⟩
             have r1 := row_to hrow5 hc1 rfl
             have x1 := hx5.to hc1 rfl
             have bb1 : Below w.heap.size w u1 := by first | exact hbb5.trans (hc1.mono hbb5.size) | exact hbb5.drew.trans (hc1.mono hbb5.drew.size)
             have p0 : u1.cell? ⟨w.heap.size, 0, none⟩ = some (.int .i64 f2) := by rw [cell_of_row u1 _ 0 _ _ _ r1]; rfl
             have p1 : u1.cell? ⟨w.heap.size, 1, none⟩ = some (.int .i64 t2) := by rw [cell_of_row u1 _ 1 _ _ _ r1]; rfl)
          | (go_at_call 29; (with_reducible refine (clip_any f2 t2 x1 (by omega)).mono ?_); intro e u2 hr; obtain ⟨mC, kC, AC, cC, HMC, rfl, hlC, hC1, hc2⟩ := hr.open HBC.out
             have r2 := row_to r1 hc2 rfl
             have x2 := x1.to hc2 rfl
             have bb2 : Below w.heap.size w u2 := by first | exact bb1.trans (hc2.mono bb1.size) | exact bb1.drew.trans (hc2.mono bb1.drew.size)
             have p0 : u2.cell? ⟨w.heap.size, 0, none⟩ = some (.int .i64 f2) := by rw [cell_of_row u2 _ 0 _ _ _ r2]; rfl
             have p1 : u2.cell? ⟨w.heap.size, 1, none⟩ = some (.int .i64 t2) := by rw [cell_of_row u2 _ 1 _ _ _ r2]; rfl)
          | (go_at_call 30; (with_reducible refine (rclip_any f2 t2 x2 (by omega)).mono ?_); intro e u3 hr; obtain ⟨mR, kR, AR, cR, HMR, rfl, hlR, hR1, hc3⟩ := hr.open HBC.out
             have r3 := row_to r2 hc3 rfl
             have x3 := x2.to hc3 rfl
             have hC2 := hC1.to hc3 rfl
             have hR2 := hR1
             have bb3 : Below w.heap.size w u3 := by first | exact bb2.trans (hc3.mono bb2.size) | exact bb2.drew.trans (hc3.mono bb2.drew.size)
             have p0 : u3.cell? ⟨w.heap.size, 0, none⟩ = some (.int .i64 f2) := by rw [cell_of_row u3 _ 0 _ _ _ r3]; rfl
             have p1 : u3.cell? ⟨w.heap.size, 1, none⟩ = some (.int .i64 t2) := by rw [cell_of_row u3 _ 1 _ _ _ r3]; rfl)
          | (go_at_call 18; (with_reducible refine (sames_true hC2 hR2 (same_nf HMC HMR fun _ _ => rfl) (by omega) (by omega)).mono ?_); rintro e u4 ⟨rfl, hc4⟩
             have r4 := row_to r3 hc4 rfl
             have x4 := x3.to hc4 rfl
             have bb4 : Below w.heap.size w u4 := by first | exact bb3.trans (hc4.mono bb3.size) | exact bb3.drew.trans (hc4.mono bb3.drew.size)
             have p0 : u4.cell? ⟨w.heap.size, 0, none⟩ = some (.int .i64 f2) := by rw [cell_of_row u4 _ 0 _ _ _ r4]; rfl
             have p1 : u4.cell? ⟨w.heap.size, 1, none⟩ = some (.int .i64 t2) := by rw [cell_of_row u4 _ 1 _ _ _ r4]; rfl)
          | (go_at_call 31; (with_reducible refine (prefix_any q2 x4 (by omega) hq2).mono ?_); intro e u5 hr; obtain ⟨mP, kP, AP, cP, HMP, rfl, hlP, hP1, hc5⟩ := hr.open HBP.out
             have r5 := row_to r4 hc5 rfl
             have x5 := x4.to hc5 rfl
             have bb5 : Below w.heap.size w u5 := by first | exact bb4.trans (hc5.mono bb4.size) | exact bb4.drew.trans (hc5.mono bb4.drew.size)
             have p0 : u5.cell? ⟨w.heap.size, 0, none⟩ = some (.int .i64 f2) := by rw [cell_of_row u5 _ 0 _ _ _ r5]; rfl
             have p1 : u5.cell? ⟨w.heap.size, 1, none⟩ = some (.int .i64 t2) := by rw [cell_of_row u5 _ 1 _ _ _ r5]; rfl)
          | (go_at_call 32; (with_reducible refine (rprefix_any q2 x5 (by omega) hq2).mono ?_); intro e u6 hr; obtain ⟨mK, kK, AK, cK, HMK, rfl, hlK, hK1, hc6⟩ := hr.open HBP.out
             have r6 := row_to r5 hc6 rfl
             have x6 := x5.to hc6 rfl
             have hP2 := hP1.to hc6 rfl
             have hK2 := hK1
             have bb6 : Below w.heap.size w u6 := by first | exact bb5.trans (hc6.mono bb5.size) | exact bb5.drew.trans (hc6.mono bb5.drew.size)
             have p0 : u6.cell? ⟨w.heap.size, 0, none⟩ = some (.int .i64 f2) := by rw [cell_of_row u6 _ 0 _ _ _ r6]; rfl
             have p1 : u6.cell? ⟨w.heap.size, 1, none⟩ = some (.int .i64 t2) := by rw [cell_of_row u6 _ 1 _ _ _ r6]; rfl)
          | (go_at_call 18; (with_reducible refine (sames_true hP2 hK2 (same_nf HMP HMK fun _ _ => rfl) (by omega) (by omega)).mono ?_); rintro e u7 ⟨rfl, hc7⟩
             have r7 := row_to r6 hc7 rfl
             have x7 := x6.to hc7 rfl
             have bb7 : Below w.heap.size w u7 := by first | exact bb6.trans (hc7.mono bb6.size) | exact bb6.drew.trans (hc7.mono bb6.drew.size)
             have p0 : u7.cell? ⟨w.heap.size, 0, none⟩ = some (.int .i64 f2) := by rw [cell_of_row u7 _ 0 _ _ _ r7]; rfl
             have p1 : u7.cell? ⟨w.heap.size, 1, none⟩ = some (.int .i64 t2) := by rw [cell_of_row u7 _ 1 _ _ _ r7]; rfl))
      go_wp2_with fail
      go_ret
      exact ⟨rfl, bb7⟩
end Go.Proofs.Ytjhbicopmgdlcaa

