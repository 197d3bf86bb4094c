/- claims, near and awake of the laws. -/
import Derived.Test.YtkncfhdfobcjeaaOvO
import Derived.Test.YtkncfhdfobcjeaaOvG
import Derived.Test.YtkncfhdfobcjeaaOverC
import Derived.Test.YtkncfhdfobcjeaaOvL
namespace Go.Proofs.Ytkncfhdfobcjeaa
open Go.RowKit

theorem row5 (s : Int) (w : World) : ∃ (p : Nat) (k : Int), pick s 5 = p ∧ p < 5 ∧ 0 ≤ k ∧ k ≤ 2000 ∧ (w.alloc (.cells #[.int .i64 0, .int .i64 30, .int .i64 30, .int .i64 120, .int .i64 2000] 3)).cell? ⟨w.heap.size, p, none⟩ = some (.int .i64 k) := by
  obtain ⟨h1, h2⟩ := pick_bd s 5 (by omega)
  have hc : pick s 5 = 0 ∨ pick s 5 = 1 ∨ pick s 5 = 2 ∨ pick s 5 = 3 ∨ pick s 5 = 4 := by omega
  rcases hc with h | h | h | h | h
  · exact ⟨0, 0, h, by omega, by omega, by omega, by rw [World.cell?_alloc_new]; rfl⟩
  · exact ⟨1, 30, h, by omega, by omega, by omega, by rw [World.cell?_alloc_new]; rfl⟩
  · exact ⟨2, 30, h, by omega, by omega, by omega, by rw [World.cell?_alloc_new]; rfl⟩
  · exact ⟨3, 120, h, by omega, by omega, by omega, by rw [World.cell?_alloc_new]; rfl⟩
  · exact ⟨4, 2000, h, by omega, by omega, by omega, by rw [World.cell?_alloc_new]; rfl⟩
theorem pick_bd3 (n k : Int) (h0 : 0 ≤ k) (hk : k ≤ 2012) : 0 ≤ pick n k ∧ pick n k ≤ 2012 := by
  by_cases h : k < 1
  · simp [pick, h]
  · have := pick_bd n k (by omega)
    omega
set_option maxHeartbeats 2000000 in
theorem near_any (n s : Int) (hn : I64 n) (w : World) : Calls Try.prog 33 #[.int .i64 n, .int .i64 s] w fun e w' => ∃ m, e = .returned (.int .i64 m) ∧ I64 m ∧ Below w.heap.size w w' := by
  by_cases h : s.tmod 5 = 0
  · have hb : (s.tmod 5 == 0) = true := beq_iff_eq.2 h
    clear h
    go_enter Try.func33, Try.ntmps33
    go_wp2_with fail
    go_ret
    exact ⟨n, rfl, hn, Below.refl _ _⟩
  · have hb : (s.tmod 5 == 0) = false := beq_eq_false_iff_ne.2 h
    obtain ⟨p, k, hp, hp4, hk0, hk1, hcell⟩ := row5 s w
    have hp4' : (p : Int) < 5 := by omega
    have hp0 : (0 : Int) ≤ (p : Int) := by omega
    clear h
    go_enter Try.func33, Try.ntmps33
    go_wp2_with fail
    refine (pick_any s 5 _ (by omega)).mono ?_
    rintro e w' ⟨rfl, rfl⟩
    rw [hp]
    have HP := Lib.hid hp
    clear hp
    go_wp2_with fail
    refine (pick_any n (k + 12) _ (by omega)).mono ?_
    rintro e w' ⟨rfl, rfl⟩
    have hpb := pick_bd3 n (k + 12) (by omega) (by omega)
    generalize pick n (k + 12) = q at *
    go_wp2_with fail
    go_ret
    exact ⟨q - 1, rfl, ⟨by omega, by omega⟩, (Below.refl _ _).alloc (Nat.le_refl _) _⟩
/-- What claims returns: as many claims, of numbers. -/
def RetPs (w : World) (n : Nat) (e : Ending) (w' : World) : Prop := ∃ A c C, e = .returned (.slice A n c) ∧ Rd w' w'.heap.size 4 A n (flat Pr.cells C) ∧ C.length = n ∧ (∀ p ∈ C, p.ok) ∧ Below w.heap.size w w'
theorem small_ok {a b c d : Int} (h1 : 0 ≤ a ∧ a ≤ 9000) (h2 : 0 ≤ b ∧ b ≤ 9000) (h3 : 0 ≤ c ∧ c ≤ 9000) (h4 : 0 ≤ d ∧ d ≤ 9000) : Pr.ok ⟨a, b, c, d⟩ :=
  ⟨⟨by show _ ≤ a; omega, by show a ≤ _; omega⟩, ⟨by show _ ≤ b; omega, by show b ≤ _; omega⟩, ⟨by show _ ≤ c; omega, by show c ≤ _; omega⟩, ⟨by show _ ≤ d; omega, by show d ≤ _; omega⟩⟩
theorem cc_pr (R : List Pc) : flat Pc.cc R = flat Pr.ccells (R.map Pc.pr) := by
  induction R with
  | nil => rfl
  | cons p R ih => rw [List.map_cons, flat_cons, flat_cons, ih]; rfl
/-- What Resolve returns, read as a list of counted days. -/
theorem RetCt.open {w w' : World} {C : List Pr} {e : Ending} (h : RetCt w C e w') {n : Nat} (hC : C.length ≤ n) : ∃ A c R, e = .returned (.slice A (List.length R) c) ∧ Res C R ∧ (∀ p ∈ R, Two p) ∧ R.length ≤ 5 * n ∧ Rd w' w'.heap.size 4 A R.length (flat Pr.ccells (R.map Pc.pr)) ∧ Below w.heap.size w w' := by
  obtain ⟨A, c, R, h1, h2, h3, _, h4, h5⟩ := h
  have hl := res_length h2
  refine ⟨A, c, R, h1, h2, h3, by omega, ?_, h5⟩
  rw [← cc_pr]
  exact Rd.ofOwn h4

theorem pick_to (n k a : Int) (w : World) (hk : k ≤ 4611686018427387904) (h : pick n k = a) : Calls Try.prog 15 #[.int .i64 n, .int .i64 k] w fun e w' => e = .returned (.int .i64 a) ∧ w = w' := by
  rw [← h]
  exact pick_any n k w hk
theorem atV_form (C : List Pr) (m : Int) : ∃ s r b, atV C m = .tuple #[.int .i64 s, .int .i64 r, .bool b] := by
  unfold atV
  cases atC C m with
  | none => exact ⟨_, _, _, rfl⟩
  | some p => obtain ⟨s, r⟩ := p; exact ⟨_, _, _, rfl⟩

set_option maxRecDepth 100000 in
set_option maxHeartbeats 8000000 in
theorem claims_any {A : Option Addr} {n c : Nat} {l : List Pr} (s : Int) {w : World} (h : Rd w w.heap.size 4 A n (flat Pr.cells l)) (hl : l.length = n) (hok : ∀ p ∈ l, p.ok) (hn : n ≤ 1000) : Calls Try.prog 28 #[.slice A n c, .int .i64 s] w (RetPs w n) := by
  obtain ⟨i0, hi0, hz0, hz1, hz2⟩ := info_parts info_period
  by_cases hs : s.tmod 5 = 0
  · have hb : (s.tmod 5 == 0) = true := beq_iff_eq.2 hs
    have HL := Lib.hid hl
    clear hs hl
    go_enter Try.func28, Try.ntmps28
    go_wp2_with fail
    go_ret
    exact ⟨A, c, l, rfl, h, HL.out, hok, Below.refl _ _⟩
  · have hb : (s.tmod 5 == 0) = false := beq_eq_false_iff_ne.2 hs
    obtain ⟨p, k, hp, hp4, hk0, hk1, hcell⟩ := row5 s w
    have hp4' : (p : Int) < 5 := by omega
    have hp0 : (0 : Int) ≤ (p : Int) := by omega
    have HN := Lib.hid hl
    clear hs hl
    go_enter Try.func28, Try.ntmps28
    go_wp2_with fail
    refine (pick_any s 5 _ (by omega)).mono ?_
    rintro e w' ⟨rfl, rfl⟩
    rw [hp]
    have HP := Lib.hid hp
    clear hp
    go_wp2_with fail
    go_loopw [6, 7] (fun v i wr => ∃ (j : Nat) (O : List Pr), j ≤ n ∧ i = .int .i64 (j : Int) ∧ O.length = j ∧ (∀ s ∈ O, s.ok) ∧ wr.ownsRow w.heap.size 50 4 v j (flat Pr.cells O) ∧ Below w.heap.size w wr) (fun _ i _ => n - (intOf i).toNat)
    case atStart => exact ⟨0, [], by omega, rfl, rfl, by simp, World.ownsRow_nil _ _ _ _, (Below.refl _ _).alloc (Nat.le_refl _) _⟩
    case round =>
      obtain ⟨j, O, hj, rfl, hOl, hOo, hown, hbr⟩ := hrel
      have hwsz := hbr.size
      have HOL := Lib.hid hOl
      have HOO := Lib.hid hOo
      clear hOl hOo
      by_cases hlt : j < n
      · have hjl : j < l.length := by rw [HN.out]; exact hlt
        obtain ⟨x, hx⟩ : ∃ x, l[j]? = some x := ⟨_, List.getElem?_eq_getElem hjl⟩
        obtain ⟨_, g, o, rfl, hgb, hc⟩ := (h.below hbr).elem pr_len hx (by omega)
        have e0 : wr.cell? ⟨g, o + j * 4, none⟩ = some (.int .i64 x.s) := hc 0 _ rfl
        have e1 : wr.cell? ⟨g, o + j * 4 + 1, none⟩ = some (.int .i64 x.r) := hc 1 _ rfl
        have e2 : wr.cell? ⟨g, o + j * 4 + 2, none⟩ = some (.int .i64 x.f) := hc 2 _ rfl
        have e3 : wr.cell? ⟨g, o + j * 4 + 3, none⟩ = some (.int .i64 x.t) := hc 3 _ rfl
        obtain ⟨A2, c2, rfl, _, _, _⟩ := own_form hown
        have hlo : (0 : Int) ≤ (j : Int) := by omega
        have hhi : (j : Int) < (n : Int) := by omega
        clear hx hcell hc
        go_wp2_with fail
        refine (pick_any x.f k _ (by omega)).mono ?_
        rintro e w' ⟨rfl, rfl⟩
        have hpb := pick_bd3 x.f k hk0 (by omega)
        generalize pick x.f k = q at *
        go_wp2_with fail
        obtain ⟨a, ha⟩ : ∃ a, pick x.s 4 = a := ⟨_, rfl⟩
        obtain ⟨b, hb4⟩ : ∃ a, pick x.r 4 = a := ⟨_, rfl⟩
        obtain ⟨r, hr⟩ : ∃ a, pick x.t (k / 3 + 2) = a := ⟨_, rfl⟩
        have hk3 : k / 3 + 2 ≤ 4611686018427387904 := by omega
        have hpa := pick_bd3 x.s 4 (by omega) (by omega)
        have hpr := pick_bd3 x.r 4 (by omega) (by omega)
        have hpb2 := pick_bd3 x.t (k / 3 + 2) (by omega) (by omega)
        rw [ha] at hpa
        rw [hb4] at hpr
        rw [hr] at hpb2
        have HA := Lib.hid ha
        have HB := Lib.hid hb4
        have hkw : IntKind.i64.wrap (IntKind.i64.wrap (k.tdiv 3) + 2) = k / 3 + 2 := by
          rw [Int.tdiv_eq_ediv_of_nonneg hk0, IntWalk.i64_in (k / 3) (by omega), IntWalk.i64_in _ (by omega)]
        have hr2 : pick x.t (IntKind.i64.wrap (IntKind.i64.wrap (k.tdiv 3) + 2)) = r := by rw [hkw]; exact hr
        have HR := Lib.hid hr2
        have HK3 : Hid (IntKind.i64.wrap (IntKind.i64.wrap (k.tdiv 3) + 2) ≤ 4611686018427387904) := Lib.hid (by rw [hkw]; exact hk3)
        clear ha hb4 hr hr2 hkw hk3
        go_region_held3 (fun w' => w'.cell? ⟨g, o + j * 4, none⟩ = some (.int .i64 x.s) ∧ w'.cell? ⟨g, o + j * 4 + 1, none⟩ = some (.int .i64 x.r) ∧ w'.cell? ⟨g, o + j * 4 + 3, none⟩ = some (.int .i64 x.t)) (go_keep)
          (first
            | (go_at_call 15; ((with_reducible refine (pick_to x.s 4 a _ (by omega) HA.out).mono ?_)); rintro e w' ⟨rfl, rfl⟩)
            | (go_at_call 15; ((with_reducible refine (pick_to x.r 4 b _ (by omega) HB.out).mono ?_)); rintro e w' ⟨rfl, rfl⟩)
            | (go_at_call 15; ((with_reducible refine (pick_to x.t (IntKind.i64.wrap (IntKind.i64.wrap (k.tdiv 3) + 2)) r _ HK3.out HR.out).mono ?_)); rintro e w' ⟨rfl, rfl⟩))
        all_goals
          have hw1 : IntKind.i64.wrap (1 + b) = 1 + b := IntWalk.i64_in _ (by omega)
          have hw2 : IntKind.i64.wrap (q + r) = q + r := IntWalk.i64_in _ (by omega)
          rw [hw1, hw2]
          have hrow : (wr.alloc (.cells #[.int .i64 a, .int .i64 (1 + b), .int .i64 q, .int .i64 (q + r)] 50)).drew.heap[wr.heap.size]? = some (.cells #[.int .i64 a, .int .i64 (1 + b), .int .i64 q, .int .i64 (q + r)] 50 (0, 0)) := heap_alloc_new wr _
          have hbA := ((Below.refl wr.heap.size wr).alloc (Nat.le_refl _) (.cells #[.int .i64 a, .int .i64 (1 + b), .int .i64 q, .int .i64 (q + r)] 50)).drew
          have hgl : g < wr.heap.size := by omega
          obtain ⟨W, hW⟩ : ∃ W, W = (wr.alloc (.cells #[.int .i64 a, .int .i64 (1 + b), .int .i64 q, .int .i64 (q + r)] 50)).drew := ⟨_, rfl⟩
          rw [← hW] at hrow hbA ⊢
          clear hW hw1 hw2
          have hownW := own_under hown hbA
          have hbW := hbr.trans (hbA.mono hwsz)
          have e1W : W.cell? ⟨g, o + j * 4 + 1, none⟩ = some (.int .i64 x.r) := (hbA.cell (p := ⟨g, o + j * 4 + 1, none⟩) hgl).trans e1
          clear e0 e1 e2 e3 hbA
          have x0 : W.cell? ⟨wr.heap.size, 0, none⟩ = some (.int .i64 a) := by rw [cell_of_row W _ 0 _ _ _ hrow]; rfl
          have x1 : W.cell? ⟨wr.heap.size, 1, none⟩ = some (.int .i64 (1 + b)) := by rw [cell_of_row W _ 1 _ _ _ hrow]; rfl
          have x2 : W.cell? ⟨wr.heap.size, 2, none⟩ = some (.int .i64 q) := by rw [cell_of_row W _ 2 _ _ _ hrow]; rfl
          have x3 : W.cell? ⟨wr.heap.size, 3, none⟩ = some (.int .i64 (q + r)) := by rw [cell_of_row W _ 3 _ _ _ hrow]; rfl
          have xf0 := frozen_of_row W wr.heap.size 0 _ _ hrow
          have xf1 := frozen_of_row W wr.heap.size 1 _ _ hrow
          have hzW : wr.heap.size < W.heap.size := (Array.getElem?_eq_some_iff.1 hrow).1
          go_wp2_with fail
          refine (pick_any x.r 31 _ (by omega)).mono ?_
          rintro e w' ⟨rfl, rfl⟩
          obtain ⟨t, ht⟩ : ∃ t, (pick x.r 31 == 30) = t := ⟨_, rfl⟩
          generalize pick x.r 31 = y at *
          cases t
          · clear xf0 xf1
            go_wp2_with (at_builtin; go_loud (refine wpList_append_rd (by rfl) (.tmp 70) (.tmp 72) 41 (by rfl) w.heap.size 50 i0 _ 4 32 Try.underlying41 hi0 hz0 hz1 hz2 rfl (by omega) (.slice A2 j c2) j (flat Pr.cells O) (by rfl) (hownW.alloc _) (W.heap.size + 1) (some ⟨W.heap.size, 0, none⟩) 1 1 [.int .i64 a, .int .i64 (1 + b), .int .i64 q, .int .i64 (q + r)] (by rfl) (Rd.built (heap_alloc_new W _) (by omega) rfl) (by intro u hu; simp at hu; rcases hu with rfl | rfl | rfl | rfl <;> rfl) (by unfold maxLen; omega) (by omega) (by simp; omega) ?_); intro v4 w4 hown4 hg4 hat4)
            have hb4 := (hbW.alloc hbW.size (.cells #[.int .i64 a, .int .i64 (1 + b), .int .i64 q, .int .i64 (q + r)] 50)).grown hg4 (by have := hbW.size; simp; omega) (fun g e => by have := (hownW.lt g e).1; omega)
            have ef : flat Pr.cells (O ++ [(⟨a, 1 + b, q, q + r⟩ : Pr)]) = flat Pr.cells O ++ [.int .i64 a, .int .i64 (1 + b), .int .i64 q, .int .i64 (q + r)] := by rw [flat_append, flat_one]; rfl
            refine ⟨⟨j + 1, O ++ [(⟨a, 1 + b, q, q + r⟩ : Pr)], by omega, by go_num, by rw [List.length_append, HOL.out]; rfl, fun s hs => ?_, ?_, hb4⟩, by simp [intOf]; omega⟩
            · rcases List.mem_append.1 hs with hs | hs
              · exact HOO.out s hs
              · rw [List.mem_singleton.1 hs]
                exact small_ok (by omega) (by omega) (by omega) (by omega)
            · rw [ef]
              exact hown4
          · go_upto_region 12 with (fail)
            have hrow1 : (W.setCell ⟨wr.heap.size, 1, none⟩ (.int .i64 0)).heap[wr.heap.size]? = some (.cells #[.int .i64 a, .int .i64 0, .int .i64 q, .int .i64 (q + r)] 50 (0, 0)) := heap_setCell_same W wr.heap.size 1 _ _ (.int .i64 0) hrow
            have hrow2 : ((W.setCell ⟨wr.heap.size, 1, none⟩ (.int .i64 0)).setCell ⟨wr.heap.size, 0, none⟩ (.int .i64 9)).heap[wr.heap.size]? = some (.cells #[.int .i64 9, .int .i64 0, .int .i64 q, .int .i64 (q + r)] 50 (0, 0)) := heap_setCell_same _ wr.heap.size 0 _ _ (.int .i64 9) hrow1
            have hne : (Value.slice A2 j c2).ownBlock ≠ some wr.heap.size := fun e => by have := (hown.lt wr.heap.size e).2; omega
            have hown2 := ownsRow_setCell_ne (p := ⟨wr.heap.size, 0, none⟩) (ownsRow_setCell_ne (p := ⟨wr.heap.size, 1, none⟩) hownW hne (.int .i64 0)) hne (.int .i64 9)
            have hb2 := (hbW.setCell (p := ⟨wr.heap.size, 1, none⟩) hwsz (.int .i64 0)).setCell (p := ⟨wr.heap.size, 0, none⟩) hwsz (.int .i64 9)
            obtain ⟨V, hV⟩ : ∃ V, V = (W.setCell ⟨wr.heap.size, 1, none⟩ (.int .i64 0)).setCell ⟨wr.heap.size, 0, none⟩ (.int .i64 9) := ⟨_, rfl⟩
            rw [← hV] at hrow2 hown2 hb2 ⊢
            clear hV x0 x1 x2 x3 xf0 xf1 hownW hbW hrow hrow1 e1W
            have hzV : wr.heap.size < V.heap.size := (Array.getElem?_eq_some_iff.1 hrow2).1
            have x0 : V.cell? ⟨wr.heap.size, 0, none⟩ = some (.int .i64 9) := by rw [cell_of_row V _ 0 _ _ _ hrow2]; rfl
            have x1 : V.cell? ⟨wr.heap.size, 1, none⟩ = some (.int .i64 0) := by rw [cell_of_row V _ 1 _ _ _ hrow2]; rfl
            have x2 : V.cell? ⟨wr.heap.size, 2, none⟩ = some (.int .i64 q) := by rw [cell_of_row V _ 2 _ _ _ hrow2]; rfl
            have x3 : V.cell? ⟨wr.heap.size, 3, none⟩ = some (.int .i64 (q + r)) := by rw [cell_of_row V _ 3 _ _ _ hrow2]; rfl
            go_wp2_with (at_builtin; go_loud (refine wpList_append_rd (by rfl) (.tmp 70) (.tmp 72) 41 (by rfl) w.heap.size 50 i0 _ 4 32 Try.underlying41 hi0 hz0 hz1 hz2 rfl (by omega) (.slice A2 j c2) j (flat Pr.cells O) (by rfl) (hown2.alloc _) (V.heap.size + 1) (some ⟨V.heap.size, 0, none⟩) 1 1 [.int .i64 9, .int .i64 0, .int .i64 q, .int .i64 (q + r)] (by rfl) (Rd.built (heap_alloc_new V _) (by omega) rfl) (by intro u hu; simp at hu; rcases hu with rfl | rfl | rfl | rfl <;> rfl) (by unfold maxLen; omega) (by omega) (by simp; omega) ?_); intro v4 w4 hown4 hg4 hat4)
            have hb4 := (hb2.alloc hb2.size (.cells #[.int .i64 9, .int .i64 0, .int .i64 q, .int .i64 (q + r)] 50)).grown hg4 (by have := hb2.size; simp; omega) (fun g e => by have := (hown2.lt g e).1; omega)
            have ef : flat Pr.cells (O ++ [(⟨9, 0, q, q + r⟩ : Pr)]) = flat Pr.cells O ++ [.int .i64 9, .int .i64 0, .int .i64 q, .int .i64 (q + r)] := by rw [flat_append, flat_one]; rfl
            refine ⟨⟨j + 1, O ++ [(⟨9, 0, q, q + r⟩ : Pr)], by omega, by go_num, by rw [List.length_append, HOL.out]; rfl, fun s hs => ?_, ?_, hb4⟩, by simp [intOf]; omega⟩
            · rcases List.mem_append.1 hs with hs | hs
              · exact HOO.out s hs
              · rw [List.mem_singleton.1 hs]
                exact small_ok (by omega) (by omega) (by omega) (by omega)
            · rw [ef]
              exact hown4
      · obtain rfl : j = n := by omega
        obtain ⟨A2, c2, rfl, _, _, _⟩ := own_form hown
        go_wp2_with fail
        go_ret
        exact ⟨A2, c2, O, rfl, Rd.ofOwn hown, HOL.out, HOO.out, hbr⟩

end Go.Proofs.Ytkncfhdfobcjeaa
