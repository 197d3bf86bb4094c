/- Lemmas (no conditions): OvA -/
import Derived.Test.YtnlopdmhdiegnaaGreatDoorPk08
set_option linter.unusedSimpArgs false
set_option linter.unusedVariables false
set_option maxRecDepth 100000
set_option maxHeartbeats 64000000
namespace Go.Proofs.YtnlopdmhdiegnaaGreatDoor
open Go.RowKit
section
def Pr.cells (p : Pr) : List Value := [.int .i64 p.s, .int .i64 p.r, .int .i64 p.f, .int .i64 p.t]
def Pr.ccells (p : Pr) : List Value := [.int .i64 p.f, .int .i64 p.t, .int .i64 p.s, .int .i64 p.r]
theorem pr_len (x : Pr) : x.cells.length = 4 := rfl
theorem pc_len (x : Pr) : x.ccells.length = 4 := rfl
theorem info_period : (Tryz.prog.info? 288).map (fun i => (i.zero, i.size, i.bytes)) = some (some (.agg #[.int .i64 0, .int .i64 0, .int .i64 0, .int .i64 0]), 4, 32) := by kernel_rfl
theorem info_counted : (Tryz.prog.info? 236).map (fun i => (i.zero, i.size, i.bytes)) = some (some (.agg #[.int .i64 0, .int .i64 0, .int .i64 0, .int .i64 0]), 4, 32) := by kernel_rfl
theorem ofL_take {C : List Pr} {k : Nat} {p : Pr} (h : C[k]? = some p) (s r : Int) : ofL (C.take (k + 1)) s r = ofL (C.take k) s r ++ if p.s = s /\ (r = 0 ∨ p.r = r) then [p.sp] else [] := by
 rw [List.take_add_one, h, Option.toList_some]
 unfold ofL
 rw [List.filter_append, List.map_append, List.filter_cons]
 by_cases hc : p.s = s /\ (r = 0 ∨ p.r = r)
 ·rw [if_pos hc, if_pos (by simpa using hc)]
  rfl
 ·rw [if_neg hc, if_neg (by simpa using hc)]
  rfl
theorem ofL_length (C : List Pr) (s r : Int) : (ofL C s r).length <= C.length := by
 unfold ofL
 rw [List.length_map]
 exact List.length_filter_le _ _
theorem of_any0 {A : Option Addr} {n c : Nat} {C : List Pr} {w : World} (s : Int) (h : Rd w w.heap.size 4 A n (flat Pr.cells C)) (hn : C.length = n) (hn2 : n <= 5000) :
  Calls Tryz.prog 234 #[.slice A n c, .int .i64 s, .int .i64 0] w (RetNf w (Dd C s 0)) := by
 rw [show Dd C s 0 = dset (ofL C s 0) from rfl]
 obtain ⟨i0, hi0, hz0, hz1, hz2⟩ := info_parts info_span
 have HN := Lib.hid hn
 clear hn
 go_enter Tryz.func234, Tryz.ntmps234
 go_wp2_with fail
 go_loopw [7, 12] (fun v i wr => ∃ k : Nat, k <= n /\ i = .int .i64 (k : Int) /\ wr.ownsRow w.heap.size 32 2 v (ofL (C.take k) s 0).length (flat Sp.cells (ofL (C.take k) s 0)) /\ Below w.heap.size w wr) (fun _ i _ => n - (intOf i).toNat)
 case atStart => exact ⟨0, by omega, rfl, World.ownsRow_nil _ _ _ _, Below.refl _ _⟩
 case round =>
  obtain ⟨k, hk, rfl, hown, hb⟩ := hrel
  have hwsz := hb.size
  have hol := ofL_length (C.take k) s 0
  have htl : (C.take k).length <= n := by rw [List.length_take]; omega
  obtain ⟨A1, c1, rfl, hnc1, hcm1, hA1⟩ := own_form hown
  by_cases hlt : k < n
  ·have hkl : k < C.length := by rw [HN.out]; exact hlt
   obtain ⟨x, hx⟩ : ∃ x, C[k]? = some x := ⟨_, List.getElem?_eq_getElem hkl⟩
   obtain ⟨_, g, o, rfl, hgb, hc⟩ := (h.below hb).elem pr_len hx (by omega)
   have e0 : wr.cell? ⟨g, o + k * 4, none⟩ = some (.int .i64 x.s) := hc 0 _ rfl
   have e1 : wr.cell? ⟨g, o + k * 4 + 1, none⟩ = some (.int .i64 x.r) := hc 1 _ rfl
   have e2 : wr.cell? ⟨g, o + k * 4 + 2, none⟩ = some (.int .i64 x.f) := hc 2 _ rfl
   have e3 : wr.cell? ⟨g, o + k * 4 + 3, none⟩ = some (.int .i64 x.t) := hc 3 _ rfl
   have hst := ofL_take hx s 0
   have HST := Lib.hid hst
   have hlo : (0 : Int) <= (k : Int) := by omega
   have hhi : (k : Int) < (n : Int) := by omega
   clear hx hc hst
   generalize ofL (C.take k) s 0 = O at *
   go_upto_region 5 with (fail)
   have hrow := heap_alloc_new wr (.cells #[.int .i64 x.s, .int .i64 x.r, .int .i64 x.f, .int .i64 x.t] 288)
   have hbA := (Below.refl wr.heap.size wr).alloc (Nat.le_refl _) (.cells #[.int .i64 x.s, .int .i64 x.r, .int .i64 x.f, .int .i64 x.t] 288)
   have hownA := hown.alloc (.cells #[.int .i64 x.s, .int .i64 x.r, .int .i64 x.f, .int .i64 x.t] 288)
   obtain ⟨W, hW⟩ : ∃ W, W = wr.alloc (.cells #[.int .i64 x.s, .int .i64 x.r, .int .i64 x.f, .int .i64 x.t] 288) := ⟨_, rfl⟩
   rw [<- hW] at hrow hbA hownA ⊢
   clear hW e0 e1 e2 e3 hown
   have hbw := hb.trans (hbA.mono hwsz)
   have hzw := hbw.size
   have e0 : W.cell? ⟨wr.heap.size, 0, none⟩ = some (.int .i64 x.s) := by rw [cell_of_row W _ 0 _ _ _ hrow]; rfl
   have e1 : W.cell? ⟨wr.heap.size, 1, none⟩ = some (.int .i64 x.r) := by rw [cell_of_row W _ 1 _ _ _ hrow]; rfl
   have e2 : W.cell? ⟨wr.heap.size, 2, none⟩ = some (.int .i64 x.f) := by rw [cell_of_row W _ 2 _ _ _ hrow]; rfl
   have e3 : W.cell? ⟨wr.heap.size, 3, none⟩ = some (.int .i64 x.t) := by rw [cell_of_row W _ 3 _ _ _ hrow]; rfl
   clear hrow hbA hb
   by_cases hs : x.s = s
   ·have b1 : (x.s == s) = true := beq_iff_eq.2 hs
    have HS2 : Hid (ofL (C.take (k + 1)) s 0 = O ++ [⟨x.f, x.t⟩]) := by have := HST.out; rw [if_pos ⟨hs, .inl rfl⟩] at this; exact this
    have e4 : flat Sp.cells (O ++ [Sp.mk x.f x.t]) = flat Sp.cells O ++ [.int .i64 x.f, .int .i64 x.t] := by rw [flat_append, flat_one]; rfl
    have e5 : (O ++ [Sp.mk x.f x.t]).length = O.length + 1 := by simp
    have E4 := Lib.hid e4
    have E5 := Lib.hid e5
    clear e4 e5 hs HST
    go_wp2_with (at_builtin; go_loud (refine wpList_append_rd (by rfl) (.tmp 30) (.tmp 33) 180 (by rfl) w.heap.size 32 i0 _ 2 16 Tryz.underlying180 hi0 hz0 hz1 hz2 rfl (by omega) _ O.length (flat Sp.cells O) (by rfl) (hownA.alloc _) (W.heap.size + 1) (some ⟨W.heap.size, 0, none⟩) 1 1 [.int .i64 x.f, .int .i64 x.t] (by rfl) (Rd.built (heap_alloc_new W _) (by omega) rfl) (by intro u hu; simp at hu; rcases hu with rfl | rfl <;> rfl) (by unfold maxLen; omega) (by omega) (by simp; omega) ?_); intro v4 w4 hown4 hg4 hat4)
    have hb4 := (hbw.alloc hzw (.cells #[.int .i64 x.f, .int .i64 x.t] 32)).grown hg4 (by simp; omega) (fun g e => (hownA.lt g e).1)
    go_roundw
    case rel => exact ⟨k + 1, by omega, by go_num, by rw [HS2.out, E4.out, E5.out]; exact hown4, hb4⟩
    case measure => simp [intOf]; omega
   ·have b1 : (x.s == s) = false := beq_eq_false_iff_ne.2 hs
    have HS2 : Hid (ofL (C.take (k + 1)) s 0 = O) := by have := HST.out; rw [if_neg (fun e => hs e.1), List.append_nil] at this; exact this
    clear hs HST
    go_wp2_with fail
    go_roundw
    case rel => exact ⟨k + 1, by omega, by go_num, by rw [HS2.out]; exact hownA, hbw⟩
    case measure => simp [intOf]; omega
  ·have hkN : C.take k = C := List.take_of_length_le (by have := HN.out; omega)
   rw [hkN] at hown hol ⊢
   clear htl hkN
   go_wp2_with fail
   refine (make_nf (l := ofL C s 0) (Ds.ofOwn hown rfl) (by have := HN.out; omega)).mono ?_
   rintro e w5 ⟨A5, c5, rfl, hown5, hb5⟩
   go_wp2_with fail
   go_ret
   exact ⟨A5, c5, rfl, ownsRow_base hown5 hwsz, hb.trans (hb5.mono hwsz)⟩
theorem of_any1 {A : Option Addr} {n c : Nat} {C : List Pr} {w : World} (s : Int) (r : Int) (hr0 : ¬ r = 0) (h : Rd w w.heap.size 4 A n (flat Pr.cells C)) (hn : C.length = n) (hn2 : n <= 5000) :
  Calls Tryz.prog 234 #[.slice A n c, .int .i64 s, .int .i64 r] w (RetNf w (Dd C s r)) := by
 have b2 : (r == 0) = false := beq_eq_false_iff_ne.2 hr0
 have HR0 := Lib.hid hr0
 clear hr0
 rw [show Dd C s r = dset (ofL C s r) from rfl]
 obtain ⟨i0, hi0, hz0, hz1, hz2⟩ := info_parts info_span
 have HN := Lib.hid hn
 clear hn
 go_enter Tryz.func234, Tryz.ntmps234
 go_wp2_with fail
 go_loopw [7, 12] (fun v i wr => ∃ k : Nat, k <= n /\ i = .int .i64 (k : Int) /\ wr.ownsRow w.heap.size 32 2 v (ofL (C.take k) s r).length (flat Sp.cells (ofL (C.take k) s r)) /\ Below w.heap.size w wr) (fun _ i _ => n - (intOf i).toNat)
 case atStart => exact ⟨0, by omega, rfl, World.ownsRow_nil _ _ _ _, Below.refl _ _⟩
 case round =>
  obtain ⟨k, hk, rfl, hown, hb⟩ := hrel
  have hwsz := hb.size
  have hol := ofL_length (C.take k) s r
  have htl : (C.take k).length <= n := by rw [List.length_take]; omega
  obtain ⟨A1, c1, rfl, hnc1, hcm1, hA1⟩ := own_form hown
  by_cases hlt : k < n
  ·have hkl : k < C.length := by rw [HN.out]; exact hlt
   obtain ⟨x, hx⟩ : ∃ x, C[k]? = some x := ⟨_, List.getElem?_eq_getElem hkl⟩
   obtain ⟨_, g, o, rfl, hgb, hc⟩ := (h.below hb).elem pr_len hx (by omega)
   have e0 : wr.cell? ⟨g, o + k * 4, none⟩ = some (.int .i64 x.s) := hc 0 _ rfl
   have e1 : wr.cell? ⟨g, o + k * 4 + 1, none⟩ = some (.int .i64 x.r) := hc 1 _ rfl
   have e2 : wr.cell? ⟨g, o + k * 4 + 2, none⟩ = some (.int .i64 x.f) := hc 2 _ rfl
   have e3 : wr.cell? ⟨g, o + k * 4 + 3, none⟩ = some (.int .i64 x.t) := hc 3 _ rfl
   have hst := ofL_take hx s r
   have HST := Lib.hid hst
   have hlo : (0 : Int) <= (k : Int) := by omega
   have hhi : (k : Int) < (n : Int) := by omega
   clear hx hc hst
   generalize ofL (C.take k) s r = O at *
   go_upto_region 5 with (fail)
   have hrow := heap_alloc_new wr (.cells #[.int .i64 x.s, .int .i64 x.r, .int .i64 x.f, .int .i64 x.t] 288)
   have hbA := (Below.refl wr.heap.size wr).alloc (Nat.le_refl _) (.cells #[.int .i64 x.s, .int .i64 x.r, .int .i64 x.f, .int .i64 x.t] 288)
   have hownA := hown.alloc (.cells #[.int .i64 x.s, .int .i64 x.r, .int .i64 x.f, .int .i64 x.t] 288)
   obtain ⟨W, hW⟩ : ∃ W, W = wr.alloc (.cells #[.int .i64 x.s, .int .i64 x.r, .int .i64 x.f, .int .i64 x.t] 288) := ⟨_, rfl⟩
   rw [<- hW] at hrow hbA hownA ⊢
   clear hW e0 e1 e2 e3 hown
   have hbw := hb.trans (hbA.mono hwsz)
   have hzw := hbw.size
   have e0 : W.cell? ⟨wr.heap.size, 0, none⟩ = some (.int .i64 x.s) := by rw [cell_of_row W _ 0 _ _ _ hrow]; rfl
   have e1 : W.cell? ⟨wr.heap.size, 1, none⟩ = some (.int .i64 x.r) := by rw [cell_of_row W _ 1 _ _ _ hrow]; rfl
   have e2 : W.cell? ⟨wr.heap.size, 2, none⟩ = some (.int .i64 x.f) := by rw [cell_of_row W _ 2 _ _ _ hrow]; rfl
   have e3 : W.cell? ⟨wr.heap.size, 3, none⟩ = some (.int .i64 x.t) := by rw [cell_of_row W _ 3 _ _ _ hrow]; rfl
   clear hrow hbA hb
   by_cases hs : x.s = s
   ·have b1 : (x.s == s) = true := beq_iff_eq.2 hs
    by_cases hr : x.r = r
    ·have b3 : (x.r == r) = true := beq_iff_eq.2 hr
     have HS2 : Hid (ofL (C.take (k + 1)) s r = O ++ [⟨x.f, x.t⟩]) := by have := HST.out; rw [if_pos ⟨hs, .inr hr⟩] at this; exact this
     have e4 : flat Sp.cells (O ++ [Sp.mk x.f x.t]) = flat Sp.cells O ++ [.int .i64 x.f, .int .i64 x.t] := by rw [flat_append, flat_one]; rfl
     have e5 : (O ++ [Sp.mk x.f x.t]).length = O.length + 1 := by simp
     have E4 := Lib.hid e4
     have E5 := Lib.hid e5
     clear e4 e5 hs hr HST
     go_wp2_with (at_builtin; go_loud (refine wpList_append_rd (by rfl) (.tmp 30) (.tmp 33) 180 (by rfl) w.heap.size 32 i0 _ 2 16 Tryz.underlying180 hi0 hz0 hz1 hz2 rfl (by omega) _ O.length (flat Sp.cells O) (by rfl) (hownA.alloc _) (W.heap.size + 1) (some ⟨W.heap.size, 0, none⟩) 1 1 [.int .i64 x.f, .int .i64 x.t] (by rfl) (Rd.built (heap_alloc_new W _) (by omega) rfl) (by intro u hu; simp at hu; rcases hu with rfl | rfl <;> rfl) (by unfold maxLen; omega) (by omega) (by simp; omega) ?_); intro v4 w4 hown4 hg4 hat4)
     have hb4 := (hbw.alloc hzw (.cells #[.int .i64 x.f, .int .i64 x.t] 32)).grown hg4 (by simp; omega) (fun g e => (hownA.lt g e).1)
     go_roundw
     case rel => exact ⟨k + 1, by omega, by go_num, by rw [HS2.out, E4.out, E5.out]; exact hown4, hb4⟩
     case measure => simp [intOf]; omega
    ·have b3 : (x.r == r) = false := beq_eq_false_iff_ne.2 hr
     have HS2 : Hid (ofL (C.take (k + 1)) s r = O) := by have := HST.out; rw [if_neg (fun e => e.2.elim HR0.out hr), List.append_nil] at this; exact this
     clear hs hr HST
     go_wp2_with fail
     go_roundw
     case rel => exact ⟨k + 1, by omega, by go_num, by rw [HS2.out]; exact hownA, hbw⟩
     case measure => simp [intOf]; omega
   ·have b1 : (x.s == s) = false := beq_eq_false_iff_ne.2 hs
    have HS2 : Hid (ofL (C.take (k + 1)) s r = O) := by have := HST.out; rw [if_neg (fun e => hs e.1), List.append_nil] at this; exact this
    clear hs HST
    go_wp2_with fail
    go_roundw
    case rel => exact ⟨k + 1, by omega, by go_num, by rw [HS2.out]; exact hownA, hbw⟩
    case measure => simp [intOf]; omega
  ·have hkN : C.take k = C := List.take_of_length_le (by have := HN.out; omega)
   rw [hkN] at hown hol ⊢
   clear htl hkN
   go_wp2_with fail
   refine (make_nf (l := ofL C s r) (Ds.ofOwn hown rfl) (by have := HN.out; omega)).mono ?_
   rintro e w5 ⟨A5, c5, rfl, hown5, hb5⟩
   go_wp2_with fail
   go_ret
   exact ⟨A5, c5, rfl, ownsRow_base hown5 hwsz, hb.trans (hb5.mono hwsz)⟩
theorem of_any {A : Option Addr} {n c : Nat} {C : List Pr} {w : World} (s r : Int) (h : Rd w w.heap.size 4 A n (flat Pr.cells C)) (hn : C.length = n) (hn2 : n <= 5000) :
  Calls Tryz.prog 234 #[.slice A n c, .int .i64 s, .int .i64 r] w (RetNf w (Dd C s r)) := by
 by_cases hr : r = 0
 ·subst hr
  exact of_any0 s h hn hn2
 ·exact of_any1 s r hr h hn hn2
theorem ofc_any0 {A : Option Addr} {n c : Nat} {C : List Pr} {w : World} (s : Int) (h : Rd w w.heap.size 4 A n (flat Pr.ccells C)) (hn : C.length = n) (hn2 : n <= 5000) :
  Calls Tryz.prog 82 #[.slice A n c, .int .i64 s, .int .i64 0] w (RetNf w (Dd C s 0)) := by
 rw [show Dd C s 0 = dset (ofL C s 0) from rfl]
 obtain ⟨i0, hi0, hz0, hz1, hz2⟩ := info_parts info_span
 have HN := Lib.hid hn
 clear hn
 go_enter Tryz.func82, Tryz.ntmps82
 go_wp2_with fail
 go_loopw [7, 12] (fun v i wr => ∃ k : Nat, k <= n /\ i = .int .i64 (k : Int) /\ wr.ownsRow w.heap.size 32 2 v (ofL (C.take k) s 0).length (flat Sp.cells (ofL (C.take k) s 0)) /\ Below w.heap.size w wr) (fun _ i _ => n - (intOf i).toNat)
 case atStart => exact ⟨0, by omega, rfl, World.ownsRow_nil _ _ _ _, Below.refl _ _⟩
 case round =>
  obtain ⟨k, hk, rfl, hown, hb⟩ := hrel
  have hwsz := hb.size
  have hol := ofL_length (C.take k) s 0
  have htl : (C.take k).length <= n := by rw [List.length_take]; omega
  obtain ⟨A1, c1, rfl, hnc1, hcm1, hA1⟩ := own_form hown
  by_cases hlt : k < n
  ·have hkl : k < C.length := by rw [HN.out]; exact hlt
   obtain ⟨x, hx⟩ : ∃ x, C[k]? = some x := ⟨_, List.getElem?_eq_getElem hkl⟩
   obtain ⟨_, g, o, rfl, hgb, hc⟩ := (h.below hb).elem pc_len hx (by omega)
   have e0 : wr.cell? ⟨g, o + k * 4, none⟩ = some (.int .i64 x.f) := hc 0 _ rfl
   have e1 : wr.cell? ⟨g, o + k * 4 + 1, none⟩ = some (.int .i64 x.t) := hc 1 _ rfl
   have e2 : wr.cell? ⟨g, o + k * 4 + 2, none⟩ = some (.int .i64 x.s) := hc 2 _ rfl
   have e3 : wr.cell? ⟨g, o + k * 4 + 3, none⟩ = some (.int .i64 x.r) := hc 3 _ rfl
   have hst := ofL_take hx s 0
   have HST := Lib.hid hst
   have hlo : (0 : Int) <= (k : Int) := by omega
   have hhi : (k : Int) < (n : Int) := by omega
   clear hx hc hst
   generalize ofL (C.take k) s 0 = O at *
   go_upto_region 5 with (fail)
   have hrow := heap_alloc_new wr (.cells #[.int .i64 x.f, .int .i64 x.t, .int .i64 x.s, .int .i64 x.r] 236)
   have hbA := (Below.refl wr.heap.size wr).alloc (Nat.le_refl _) (.cells #[.int .i64 x.f, .int .i64 x.t, .int .i64 x.s, .int .i64 x.r] 236)
   have hownA := hown.alloc (.cells #[.int .i64 x.f, .int .i64 x.t, .int .i64 x.s, .int .i64 x.r] 236)
   obtain ⟨W, hW⟩ : ∃ W, W = wr.alloc (.cells #[.int .i64 x.f, .int .i64 x.t, .int .i64 x.s, .int .i64 x.r] 236) := ⟨_, rfl⟩
   rw [<- hW] at hrow hbA hownA ⊢
   clear hW e0 e1 e2 e3 hown
   have hbw := hb.trans (hbA.mono hwsz)
   have hzw := hbw.size
   have e0 : W.cell? ⟨wr.heap.size, 0, none⟩ = some (.int .i64 x.f) := by rw [cell_of_row W _ 0 _ _ _ hrow]; rfl
   have e1 : W.cell? ⟨wr.heap.size, 1, none⟩ = some (.int .i64 x.t) := by rw [cell_of_row W _ 1 _ _ _ hrow]; rfl
   have e2 : W.cell? ⟨wr.heap.size, 2, none⟩ = some (.int .i64 x.s) := by rw [cell_of_row W _ 2 _ _ _ hrow]; rfl
   have e3 : W.cell? ⟨wr.heap.size, 3, none⟩ = some (.int .i64 x.r) := by rw [cell_of_row W _ 3 _ _ _ hrow]; rfl
   clear hrow hbA hb
   by_cases hs : x.s = s
   ·have b1 : (x.s == s) = true := beq_iff_eq.2 hs
    have HS2 : Hid (ofL (C.take (k + 1)) s 0 = O ++ [⟨x.f, x.t⟩]) := by have := HST.out; rw [if_pos ⟨hs, .inl rfl⟩] at this; exact this
    have e4 : flat Sp.cells (O ++ [Sp.mk x.f x.t]) = flat Sp.cells O ++ [.int .i64 x.f, .int .i64 x.t] := by rw [flat_append, flat_one]; rfl
    have e5 : (O ++ [Sp.mk x.f x.t]).length = O.length + 1 := by simp
    have E4 := Lib.hid e4
    have E5 := Lib.hid e5
    clear e4 e5 hs HST
    go_wp2_with (at_builtin; go_loud (refine wpList_append_rd (by rfl) (.tmp 30) (.tmp 33) 180 (by rfl) w.heap.size 32 i0 _ 2 16 Tryz.underlying180 hi0 hz0 hz1 hz2 rfl (by omega) _ O.length (flat Sp.cells O) (by rfl) (hownA.alloc _) (W.heap.size + 1) (some ⟨W.heap.size, 0, none⟩) 1 1 [.int .i64 x.f, .int .i64 x.t] (by rfl) (Rd.built (heap_alloc_new W _) (by omega) rfl) (by intro u hu; simp at hu; rcases hu with rfl | rfl <;> rfl) (by unfold maxLen; omega) (by omega) (by simp; omega) ?_); intro v4 w4 hown4 hg4 hat4)
    have hb4 := (hbw.alloc hzw (.cells #[.int .i64 x.f, .int .i64 x.t] 32)).grown hg4 (by simp; omega) (fun g e => (hownA.lt g e).1)
    go_roundw
    case rel => exact ⟨k + 1, by omega, by go_num, by rw [HS2.out, E4.out, E5.out]; exact hown4, hb4⟩
    case measure => simp [intOf]; omega
   ·have b1 : (x.s == s) = false := beq_eq_false_iff_ne.2 hs
    have HS2 : Hid (ofL (C.take (k + 1)) s 0 = O) := by have := HST.out; rw [if_neg (fun e => hs e.1), List.append_nil] at this; exact this
    clear hs HST
    go_wp2_with fail
    go_roundw
    case rel => exact ⟨k + 1, by omega, by go_num, by rw [HS2.out]; exact hownA, hbw⟩
    case measure => simp [intOf]; omega
  ·have hkN : C.take k = C := List.take_of_length_le (by have := HN.out; omega)
   rw [hkN] at hown hol ⊢
   clear htl hkN
   go_wp2_with fail
   refine (make_nf (l := ofL C s 0) (Ds.ofOwn hown rfl) (by have := HN.out; omega)).mono ?_
   rintro e w5 ⟨A5, c5, rfl, hown5, hb5⟩
   go_wp2_with fail
   go_ret
   exact ⟨A5, c5, rfl, ownsRow_base hown5 hwsz, hb.trans (hb5.mono hwsz)⟩
theorem ofc_any1 {A : Option Addr} {n c : Nat} {C : List Pr} {w : World} (s : Int) (r : Int) (hr0 : ¬ r = 0) (h : Rd w w.heap.size 4 A n (flat Pr.ccells C)) (hn : C.length = n) (hn2 : n <= 5000) :
  Calls Tryz.prog 82 #[.slice A n c, .int .i64 s, .int .i64 r] w (RetNf w (Dd C s r)) := by
 have b2 : (r == 0) = false := beq_eq_false_iff_ne.2 hr0
 have HR0 := Lib.hid hr0
 clear hr0
 rw [show Dd C s r = dset (ofL C s r) from rfl]
 obtain ⟨i0, hi0, hz0, hz1, hz2⟩ := info_parts info_span
 have HN := Lib.hid hn
 clear hn
 go_enter Tryz.func82, Tryz.ntmps82
 go_wp2_with fail
 go_loopw [7, 12] (fun v i wr => ∃ k : Nat, k <= n /\ i = .int .i64 (k : Int) /\ wr.ownsRow w.heap.size 32 2 v (ofL (C.take k) s r).length (flat Sp.cells (ofL (C.take k) s r)) /\ Below w.heap.size w wr) (fun _ i _ => n - (intOf i).toNat)
 case atStart => exact ⟨0, by omega, rfl, World.ownsRow_nil _ _ _ _, Below.refl _ _⟩
 case round =>
  obtain ⟨k, hk, rfl, hown, hb⟩ := hrel
  have hwsz := hb.size
  have hol := ofL_length (C.take k) s r
  have htl : (C.take k).length <= n := by rw [List.length_take]; omega
  obtain ⟨A1, c1, rfl, hnc1, hcm1, hA1⟩ := own_form hown
  by_cases hlt : k < n
  ·have hkl : k < C.length := by rw [HN.out]; exact hlt
   obtain ⟨x, hx⟩ : ∃ x, C[k]? = some x := ⟨_, List.getElem?_eq_getElem hkl⟩
   obtain ⟨_, g, o, rfl, hgb, hc⟩ := (h.below hb).elem pc_len hx (by omega)
   have e0 : wr.cell? ⟨g, o + k * 4, none⟩ = some (.int .i64 x.f) := hc 0 _ rfl
   have e1 : wr.cell? ⟨g, o + k * 4 + 1, none⟩ = some (.int .i64 x.t) := hc 1 _ rfl
   have e2 : wr.cell? ⟨g, o + k * 4 + 2, none⟩ = some (.int .i64 x.s) := hc 2 _ rfl
   have e3 : wr.cell? ⟨g, o + k * 4 + 3, none⟩ = some (.int .i64 x.r) := hc 3 _ rfl
   have hst := ofL_take hx s r
   have HST := Lib.hid hst
   have hlo : (0 : Int) <= (k : Int) := by omega
   have hhi : (k : Int) < (n : Int) := by omega
   clear hx hc hst
   generalize ofL (C.take k) s r = O at *
   go_upto_region 5 with (fail)
   have hrow := heap_alloc_new wr (.cells #[.int .i64 x.f, .int .i64 x.t, .int .i64 x.s, .int .i64 x.r] 236)
   have hbA := (Below.refl wr.heap.size wr).alloc (Nat.le_refl _) (.cells #[.int .i64 x.f, .int .i64 x.t, .int .i64 x.s, .int .i64 x.r] 236)
   have hownA := hown.alloc (.cells #[.int .i64 x.f, .int .i64 x.t, .int .i64 x.s, .int .i64 x.r] 236)
   obtain ⟨W, hW⟩ : ∃ W, W = wr.alloc (.cells #[.int .i64 x.f, .int .i64 x.t, .int .i64 x.s, .int .i64 x.r] 236) := ⟨_, rfl⟩
   rw [<- hW] at hrow hbA hownA ⊢
   clear hW e0 e1 e2 e3 hown
   have hbw := hb.trans (hbA.mono hwsz)
   have hzw := hbw.size
   have e0 : W.cell? ⟨wr.heap.size, 0, none⟩ = some (.int .i64 x.f) := by rw [cell_of_row W _ 0 _ _ _ hrow]; rfl
   have e1 : W.cell? ⟨wr.heap.size, 1, none⟩ = some (.int .i64 x.t) := by rw [cell_of_row W _ 1 _ _ _ hrow]; rfl
   have e2 : W.cell? ⟨wr.heap.size, 2, none⟩ = some (.int .i64 x.s) := by rw [cell_of_row W _ 2 _ _ _ hrow]; rfl
   have e3 : W.cell? ⟨wr.heap.size, 3, none⟩ = some (.int .i64 x.r) := by rw [cell_of_row W _ 3 _ _ _ hrow]; rfl
   clear hrow hbA hb
   by_cases hs : x.s = s
   ·have b1 : (x.s == s) = true := beq_iff_eq.2 hs
    by_cases hr : x.r = r
    ·have b3 : (x.r == r) = true := beq_iff_eq.2 hr
     have HS2 : Hid (ofL (C.take (k + 1)) s r = O ++ [⟨x.f, x.t⟩]) := by have := HST.out; rw [if_pos ⟨hs, .inr hr⟩] at this; exact this
     have e4 : flat Sp.cells (O ++ [Sp.mk x.f x.t]) = flat Sp.cells O ++ [.int .i64 x.f, .int .i64 x.t] := by rw [flat_append, flat_one]; rfl
     have e5 : (O ++ [Sp.mk x.f x.t]).length = O.length + 1 := by simp
     have E4 := Lib.hid e4
     have E5 := Lib.hid e5
     clear e4 e5 hs hr HST
     go_wp2_with (at_builtin; go_loud (refine wpList_append_rd (by rfl) (.tmp 30) (.tmp 33) 180 (by rfl) w.heap.size 32 i0 _ 2 16 Tryz.underlying180 hi0 hz0 hz1 hz2 rfl (by omega) _ O.length (flat Sp.cells O) (by rfl) (hownA.alloc _) (W.heap.size + 1) (some ⟨W.heap.size, 0, none⟩) 1 1 [.int .i64 x.f, .int .i64 x.t] (by rfl) (Rd.built (heap_alloc_new W _) (by omega) rfl) (by intro u hu; simp at hu; rcases hu with rfl | rfl <;> rfl) (by unfold maxLen; omega) (by omega) (by simp; omega) ?_); intro v4 w4 hown4 hg4 hat4)
     have hb4 := (hbw.alloc hzw (.cells #[.int .i64 x.f, .int .i64 x.t] 32)).grown hg4 (by simp; omega) (fun g e => (hownA.lt g e).1)
     go_roundw
     case rel => exact ⟨k + 1, by omega, by go_num, by rw [HS2.out, E4.out, E5.out]; exact hown4, hb4⟩
     case measure => simp [intOf]; omega
    ·have b3 : (x.r == r) = false := beq_eq_false_iff_ne.2 hr
     have HS2 : Hid (ofL (C.take (k + 1)) s r = O) := by have := HST.out; rw [if_neg (fun e => e.2.elim HR0.out hr), List.append_nil] at this; exact this
     clear hs hr HST
     go_wp2_with fail
     go_roundw
     case rel => exact ⟨k + 1, by omega, by go_num, by rw [HS2.out]; exact hownA, hbw⟩
     case measure => simp [intOf]; omega
   ·have b1 : (x.s == s) = false := beq_eq_false_iff_ne.2 hs
    have HS2 : Hid (ofL (C.take (k + 1)) s r = O) := by have := HST.out; rw [if_neg (fun e => hs e.1), List.append_nil] at this; exact this
    clear hs HST
    go_wp2_with fail
    go_roundw
    case rel => exact ⟨k + 1, by omega, by go_num, by rw [HS2.out]; exact hownA, hbw⟩
    case measure => simp [intOf]; omega
  ·have hkN : C.take k = C := List.take_of_length_le (by have := HN.out; omega)
   rw [hkN] at hown hol ⊢
   clear htl hkN
   go_wp2_with fail
   refine (make_nf (l := ofL C s r) (Ds.ofOwn hown rfl) (by have := HN.out; omega)).mono ?_
   rintro e w5 ⟨A5, c5, rfl, hown5, hb5⟩
   go_wp2_with fail
   go_ret
   exact ⟨A5, c5, rfl, ownsRow_base hown5 hwsz, hb.trans (hb5.mono hwsz)⟩
theorem ofc_any {A : Option Addr} {n c : Nat} {C : List Pr} {w : World} (s r : Int) (h : Rd w w.heap.size 4 A n (flat Pr.ccells C)) (hn : C.length = n) (hn2 : n <= 5000) :
  Calls Tryz.prog 82 #[.slice A n c, .int .i64 s, .int .i64 r] w (RetNf w (Dd C s r)) := by
 by_cases hr : r = 0
 ·subst hr
  exact ofc_any0 s h hn hn2
 ·exact ofc_any1 s r hr h hn hn2
end
end Go.Proofs.YtnlopdmhdiegnaaGreatDoor
