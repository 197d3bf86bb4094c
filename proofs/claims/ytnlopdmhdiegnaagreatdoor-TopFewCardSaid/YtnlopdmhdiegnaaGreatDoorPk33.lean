/- Lemmas (no conditions): Cvb, Toc, Awb, Era -/
import Derived.Test.YtnlopdmhdiegnaaGreatDoorPk32
set_option linter.unusedSimpArgs false
set_option linter.unusedVariables false
set_option maxRecDepth 100000
set_option maxHeartbeats 64000000
namespace Go.Proofs.YtnlopdmhdiegnaaGreatDoor
open Go.RowKit
section
def Po (w : World) (B O : Nat) (P : List Pr) : Prop := ∃ A c, w.heap[O]? = some (.cells #[.slice A P.length c] 224 (0, 0)) /\ w.ownsRow B 288 4 (.slice A P.length c) P.length (flat Pr.cells P)
def Kt (O : Nat) (w w' : World) : Prop := ∀ g cs t fr, w.heap[g]? = some (.cells cs t fr) -> t ≠ 288 -> g ≠ O -> w'.heap[g]? = some (.cells cs t fr)
theorem Kt.refl (O : Nat) (w : World) : Kt O w w := fun _ _ _ _ h _ _ => h
theorem Kt.trans {O : Nat} {a b c : World} (h : Kt O a b) (k : Kt O b c) : Kt O a c := fun g cs t fr h1 h2 h3 => k g cs t fr (h g cs t fr h1 h2 h3) h2 h3
theorem Kt.below {O : Nat} {w w' : World} (h : Below w.heap.size w w') : Kt O w w' := fun g cs t fr h1 _ _ => (h.block g (gis h1).1).trans h1
theorem Po.below {w w' : World} {B O : Nat} {P : List Pr} (h : Po w B O P) (hb : Below w.heap.size w w') : Po w' B O P := by
 obtain ⟨A, c, h1, h2⟩ := h
 exact ⟨A, c, (hb.block O (gis h1).1).trans h1, h2.kept (row := none) (grownBy_of_below hb none) (Classical.em _)⟩
theorem claim_nil {A : Option Addr} {c O X : Nat} (rank : Int) (w : World) :
  Calls Tryz.prog 178 #[.int .i64 rank, .slice A 0 c, .pointer (some ⟨O, 0, none⟩), .pointer (some ⟨X, 0, none⟩)] w fun e w' => e = .returned (.tuple #[]) /\ w' = w := by
 go_enter Tryz.func178, Tryz.ntmps178
 go_wp2_with fail
 refine wp_loop_rounds 1 ?_
 rw [rounds_succ]
 go_wp2_with fail
 go_end0
 exact ⟨rfl, rfl⟩
theorem flat_snocP (P : List Pr) (q : Pr) : flat Pr.cells (P ++ [q]) = flat Pr.cells P ++ [.int .i64 q.s, .int .i64 q.r, .int .i64 q.f, .int .i64 q.t] := by rw [flat_append, flat_one]; rfl
theorem claim_one {A : Option Addr} {c B O X : Nat} {s : Sp} {P : List Pr} {w : World} (rank st : Int) (hS : Rd w w.heap.size 2 A 1 (flat Sp.cells [s])) (hX : w.cell? ⟨X, 0, none⟩ = some (.int .i64 st)) (hXl : X < w.heap.size) (hP : Po w B O P) (hPl : P.length <= 1000) (hB : B <= O) :
  Calls Tryz.prog 178 #[.int .i64 rank, .slice A 1 c, .pointer (some ⟨O, 0, none⟩), .pointer (some ⟨X, 0, none⟩)] w fun e w' => e = .returned (.tuple #[]) /\ Po w' B O (P ++ [⟨st, rank, s.f, s.t⟩]) /\ Kt O w w' /\ Below B w w' := by
 obtain ⟨i0, hi0, hz0, hz1, hz2⟩ := info_parts info_period
 obtain ⟨_, g, o, rfl, hgb, e0, e1⟩ := sp_cells hS (k := 0) (x := s) rfl
 rw [Nat.zero_mul, Nat.add_zero] at e0 e1
 obtain ⟨A1, c1, hO, hown⟩ := hP
 have lO := (gis hO).1
 clear hS
 go_enter Tryz.func178, Tryz.ntmps178
 go_wp2_with fail
 refine wp_loop_rounds 2 ?_
 rw [rounds_succ]
 go_upto_region 3 with (fail)
 obtain ⟨W, hW, bW, rW⟩ := box_new w (.cells #[.int .i64 s.f, .int .i64 s.t] 32)
 rw [hW]
 clear hW
 have x0 : W.cell? ⟨w.heap.size, 0, none⟩ = some (.int .i64 s.f) := by rw [cell_of_row _ _ _ _ _ _ rW]; rfl
 have x1 : W.cell? ⟨w.heap.size, 1, none⟩ = some (.int .i64 s.t) := by rw [cell_of_row _ _ _ _ _ _ rW]; rfl
 have hXW : W.cell? ⟨X, 0, none⟩ = some (.int .i64 st) := (bW.cell (by exact hXl)).trans hX
 have hOW := (bW.block _ lO).trans hO
 have pO : W.cell? ⟨O, 0, none⟩ = some (.slice A1 P.length c1) := by rw [cell_of_row _ _ _ _ _ _ hOW]; rfl
 have hownW := hown.kept (row := none) (grownBy_of_below bW none) (Classical.em _)
 have lW := (gis rW).1
 obtain ⟨_, _, ee, hnc1, hcm1, _⟩ := own_form hownW
 injection ee with ea _ e2
 subst ea e2
 have hno := own_ne hownW hOW (by decide)
 have hOl : O < W.heap.size := by omega
 have hbB : Below B w W := bW.mono (by omega)
 clear hown hX hO rW e0 e1
 go_wp2_with (at_builtin; go_loud (refine wpList_append_rd (by rfl) (.tmp 14) (.tmp 20) 224 (by rfl) B 288 i0 _ 4 32 Tryz.underlying224 hi0 hz0 hz1 hz2 rfl (by omega) (.slice A1 P.length c1) P.length (flat Pr.cells P) (by rfl) (hownW.alloc _) (W.heap.size + 1) (some ⟨W.heap.size, 0, none⟩) 1 1 [.int .i64 st, .int .i64 rank, .int .i64 s.f, .int .i64 s.t] (by rfl) (Rd.built (heap_alloc_new W _) (by omega) rfl) (by intro u hu; simp at hu; rcases hu with rfl | rfl | rfl | rfl <;> rfl) (by unfold maxLen; omega) (by omega) (by simp; omega) ?_); intro v4 w4 hown4 hg4 hat4
              obtain ⟨A4, c4, rfl, hnc4, hcm4, hA4⟩ := own_form hown4
              have hO4 := (hg4.block O (by simp; omega) (fun e => hno e.symm)).trans ((Below.heap_alloc _ _ _ (by omega)).trans hOW)
              have d4 : w4.cell? ⟨O, 0, none⟩ = some (.slice A1 P.length c1) := by rw [cell_of_row w4 O 0 _ _ _ hO4]; rfl
              have f4 := frozen_of_row w4 O 0 _ _ hO4)
 have hno4 := own_ne hown4 hO4 (by decide)
 rw [rounds_succ]
 go_wp2_with fail
 go_end0
 refine ⟨rfl, ⟨A4, c4, ?_, ?_⟩, ?_, ?_⟩
 ·rw [List.length_append]
  exact heap_setCell_same w4 O 0 _ _ (.slice A4 (P.length + 1) c4) hO4
 ·rw [List.length_append, flat_snocP]
  exact ownsRow_setCell_ne (p := ⟨O, 0, none⟩) hown4 hno4 _
 ·intro g cs t fr h1 h2 h3
  have gW := (bW.block g (gis h1).1).trans h1
  have lg := (gis gW).1
  rw [heap_setCell_other w4 ⟨O, 0, none⟩ g _ h3, hg4.block g (by simp; omega) (fun e => own_ne hownW gW (fun e2 => h2 e2.symm) e.symm), Below.heap_alloc _ _ _ lg]
  exact gW
 ·exact ((hbB.alloc (by omega) (.cells #[.int .i64 st, .int .i64 rank, .int .i64 s.f, .int .i64 s.t] 288)).grown hg4 (by simp; omega) (fun g e => (hownW.lt g e).1)).setCell (p := ⟨O, 0, none⟩) hB _
end
section
def frV (q0 q1 q2 q3 q4 q5 : Bool) (o B : Int) : Int × Int := if !q0 && q1 && q2 then (o, B) else if q3 && q4 && q5 then (1, 1) else (0, 1)
def frW (ws : List Sp) (md : Int) (s : Nat) : Int × Int := frV (fW ws md s) (decide (0 < dW ws s)) (decide (0 < bT ws md 6)) (bT ws md 6 == 0) (decide (0 < sT ws 6)) ((s : Int) == lT ws 6) (dW ws s) (bT ws md 6)
theorem tot_at (ws : List Sp) (md : Int) : ∀ i : Nat, i < 6 -> (totA ws md 6)[i]? = some (.int .i64 (dW ws i)) /\ (totA ws md 6)[6 + i]? = some (.bool (fW ws md i))
 | 0, _ => ⟨rfl, rfl⟩ | 1, _ => ⟨rfl, rfl⟩ | 2, _ => ⟨rfl, rfl⟩ | 3, _ => ⟨rfl, rfl⟩ | 4, _ => ⟨rfl, rfl⟩ | 5, _ => ⟨rfl, rfl⟩
abbrev totV (ws : List Sp) (md : Int) : Value := .agg #[.int .i64 (dW ws 0), .int .i64 (dW ws 1), .int .i64 (dW ws 2), .int .i64 (dW ws 3), .int .i64 (dW ws 4), .int .i64 (dW ws 5), .bool (fW ws md 0), .bool (fW ws md 1), .bool (fW ws md 2), .bool (fW ws md 3), .bool (fW ws md 4), .bool (fW ws md 5), .int .i64 (sT ws 6), .int .i64 (bT ws md 6), .int .i64 (lT ws 6)]
theorem fraction_any (ws : List Sp) (md : Int) {s : Nat} (hs : s < 6) (w : World) :
  Calls Tryz.prog 39 #[totV ws md, .int .i64 (s : Int)] w fun e w' => e = .returned (.tuple #[.int .i64 (frW ws md s).1, .int .i64 (frW ws md s).2]) /\ Below w.heap.size w w' := by
 have j1 : decide ((s : Int) < 0) = false := decide_eq_false (by omega)
 have j2 : decide ((6 : Int) <= (s : Int)) = false := decide_eq_false (by omega)
 have hlo : (0 : Int) <= (s : Int) := by omega
 have hhi : (s : Int) < 6 := by omega
 unfold frW
 obtain ⟨W, hW, bW, rW⟩ : ∃ W, w.alloc (.cells #[.int .i64 (dW ws 0), .int .i64 (dW ws 1), .int .i64 (dW ws 2), .int .i64 (dW ws 3), .int .i64 (dW ws 4), .int .i64 (dW ws 5), .bool (fW ws md 0), .bool (fW ws md 1), .bool (fW ws md 2), .bool (fW ws md 3), .bool (fW ws md 4), .bool (fW ws md 5), .int .i64 (sT ws 6), .int .i64 (bT ws md 6), .int .i64 (lT ws 6)] 109) = W /\ Below w.heap.size w W /\ W.heap[w.heap.size]? = some (.cells (totA ws md 6).toArray 109 (0, 0)) :=
  ⟨_, rfl, (Below.refl _ _).alloc (Nat.le_refl _) _, heap_alloc_new w _⟩
 have k1 := row_cell rW (tot_at ws md s hs).1
 have k2 := row_cell rW (tot_at ws md s hs).2
 have k3 := row_cell rW (i := 12) (v := .int .i64 (sT ws 6)) rfl
 have k4 := row_cell rW (i := 13) (v := .int .i64 (bT ws md 6)) rfl
 have k5 := row_cell rW (i := 14) (v := .int .i64 (lT ws 6)) rfl
 obtain ⟨q0, e0⟩ : ∃ b, fW ws md s = b := ⟨_, rfl⟩
 rw [e0] at k2 ⊢
 obtain ⟨o, eo⟩ : ∃ o, dW ws s = o := ⟨_, rfl⟩
 rw [eo] at k1 ⊢
 obtain ⟨B, eB⟩ : ∃ o, bT ws md 6 = o := ⟨_, rfl⟩
 rw [eB] at k4 ⊢
 obtain ⟨S, eS⟩ : ∃ o, sT ws 6 = o := ⟨_, rfl⟩
 rw [eS] at k3 ⊢
 obtain ⟨M, eM⟩ : ∃ o, lT ws 6 = o := ⟨_, rfl⟩
 rw [eM] at k5 ⊢
 obtain ⟨q1, e1⟩ : ∃ b, decide (0 < o) = b := ⟨_, rfl⟩
 obtain ⟨q2, e2⟩ : ∃ b, decide (0 < B) = b := ⟨_, rfl⟩
 obtain ⟨q3, e3⟩ : ∃ b, (B == 0) = b := ⟨_, rfl⟩
 obtain ⟨q4, e4⟩ : ∃ b, decide (0 < S) = b := ⟨_, rfl⟩
 obtain ⟨q5, e5⟩ : ∃ b, ((s : Int) == M) = b := ⟨_, rfl⟩
 rw [e1, e2, e3, e4, e5]
 clear rW hs
 have HE := Lib.hid (show dW ws s = o /\ bT ws md 6 = B /\ sT ws 6 = S /\ lT ws 6 = M /\ fW ws md s = q0 from ⟨eo, eB, eS, eM, e0⟩)
 clear eo eB eS eM e0
 go_enter Tryz.func39, Tryz.ntmps39
 go_upto_region 1 with (fail)
 clear hW
 cases q0 with
 | true =>
  cases q3 with
  | false =>
   go_wp2_with fail
   go_ret2
   exact ⟨by rfl, bW⟩
  | true =>
   cases q4 with
   | false =>
    go_wp2_with fail
    go_ret2
    exact ⟨by rfl, bW⟩
   | true =>
    cases q5 with
    | false =>
     go_wp2_with fail
     go_ret2
     exact ⟨by rfl, bW⟩
    | true =>
     go_wp2_with fail
     go_ret2
     exact ⟨by rfl, bW⟩
 | false =>
  cases q1 with
  | false =>
   cases q3 with
   | false =>
    go_wp2_with fail
    go_ret2
    exact ⟨by rfl, bW⟩
   | true =>
    cases q4 with
    | false =>
     go_wp2_with fail
     go_ret2
     exact ⟨by rfl, bW⟩
    | true =>
     cases q5 with
     | false =>
      go_wp2_with fail
      go_ret2
      exact ⟨by rfl, bW⟩
     | true =>
      go_wp2_with fail
      go_ret2
      exact ⟨by rfl, bW⟩
  | true =>
   cases q2 with
   | false =>
    cases q3 with
    | false =>
     go_wp2_with fail
     go_ret2
     exact ⟨by rfl, bW⟩
    | true =>
     cases q4 with
     | false =>
      go_wp2_with fail
      go_ret2
      exact ⟨by rfl, bW⟩
     | true =>
      cases q5 with
      | false =>
       go_wp2_with fail
       go_ret2
       exact ⟨by rfl, bW⟩
      | true =>
       go_wp2_with fail
       go_ret2
       exact ⟨by rfl, bW⟩
   | true =>
    go_upto_region 4 with (fail)
    go_quiet (fail)
    go_wp2_with fail
    go_ret2
    exact ⟨by rfl, below_drewN bW nq⟩
end
section
theorem adays_any {A KA : Option Addr} {n c kn kc : Nat} {K : List Pr} {rk : List Int} {w : World} (st : Int) (h : Rd w w.heap.size 4 A n (flat Pr.ccells K)) (hn : K.length = n) (hn2 : n <= 400) (hK : Rd w w.heap.size 1 KA kn (ints rk)) (hk0 : 0 < kn) (hkn : kn <= 1000) :
  Calls Tryz.prog 75 #[.slice A n c, .int .i64 st, .slice KA kn kc] w fun e w' => e = .returned (.int .i64 (lenL (nf (dset (dsL K st rk))))) /\ Below w.heap.size w w' := by
 obtain ⟨i0, hi0, hz0, hz1, hz2⟩ := info_parts info_span
 have HN := Lib.hid hn
 obtain ⟨qs, hqs⟩ : ∃ b, decide (st < 0) = b := ⟨_, rfl⟩
 have HQS := Lib.hid hqs
 clear hn
 go_enter Tryz.func75, Tryz.ntmps75
 go_wp2_with fail
 go_loopw [7, 12] (fun v i wr => ∃ k : Nat, k <= n /\ i = .int .i64 (k : Int) /\ wr.ownsRow w.heap.size 32 2 v (dsL (K.take k) st rk).length (flat Sp.cells (dsL (K.take k) st rk)) /\ Below w.heap.size w wr) (fun _ i _ => n - (intOf i).toNat)
 case atStart => exact ⟨0, by omega, rfl, World.ownsRow_nil _ _ _ _, Below.refl _ _⟩
 case round =>
  obtain ⟨k, hk, rfl, hown, hb⟩ := hrel
  have hwsz := hb.size
  have hol := dsL_length (K.take k) st rk
  have htl : (K.take k).length <= n := by rw [List.length_take]; omega
  obtain ⟨A1, c1, rfl, hnc1, hcm1, hA1⟩ := own_form hown
  by_cases hlt : k < n
  ·have hkl : k < K.length := by rw [HN.out]; exact hlt
   obtain ⟨x, hx⟩ : ∃ x, K[k]? = some x := ⟨_, List.getElem?_eq_getElem hkl⟩
   obtain ⟨_, g, o, rfl, hgb, hc⟩ := (h.below hb).elem pc_len hx (by omega)
   have e0 : wr.cell? ⟨g, o + k * 4, none⟩ = some (.int .i64 x.f) := hc 0 _ rfl
   have e1 : wr.cell? ⟨g, o + k * 4 + 1, none⟩ = some (.int .i64 x.t) := hc 1 _ rfl
   have e2 : wr.cell? ⟨g, o + k * 4 + 2, none⟩ = some (.int .i64 x.s) := hc 2 _ rfl
   have e3 : wr.cell? ⟨g, o + k * 4 + 3, none⟩ = some (.int .i64 x.r) := hc 3 _ rfl
   have HST := Lib.hid (dsL_take hx st rk)
   have hlo : (0 : Int) <= (k : Int) := by omega
   have hhi : (k : Int) < (n : Int) := by omega
   clear hx hc
   generalize dsL (K.take k) st rk = O at *
   go_upto_region 5 with (fail)
   obtain ⟨W, hW, bW, rW⟩ := box_new wr (.cells #[.int .i64 x.f, .int .i64 x.t, .int .i64 x.s, .int .i64 x.r] 236)
   have hownA := hown.kept (row := none) (grownBy_of_below bW none) (Classical.em _)
   rw [hW]
   clear hW
   have s0 : W.cell? ⟨wr.heap.size, 0, none⟩ = some (.int .i64 x.f) := by rw [cell_of_row _ _ _ _ _ _ rW]; rfl
   have s1 : W.cell? ⟨wr.heap.size, 1, none⟩ = some (.int .i64 x.t) := by rw [cell_of_row _ _ _ _ _ _ rW]; rfl
   have s2 : W.cell? ⟨wr.heap.size, 2, none⟩ = some (.int .i64 x.s) := by rw [cell_of_row _ _ _ _ _ _ rW]; rfl
   have s3 : W.cell? ⟨wr.heap.size, 3, none⟩ = some (.int .i64 x.r) := by rw [cell_of_row _ _ _ _ _ _ rW]; rfl
   have hbw := hb.trans (bW.mono hwsz)
   have hzw := hbw.size
   have hint := has_int (c := kc) x.r ((hK.below hbw).mono hzw) hk0 hkn
   obtain ⟨qr, hqr⟩ : ∃ b, decide (x.r ∈ rk) = b := ⟨_, rfl⟩
   rw [hqr] at hint
   obtain ⟨qe, hqe⟩ : ∃ b, (x.s == st) = b := ⟨_, rfl⟩
   have HWN : Hid (wantP st rk x = ((qs || qe) && qr)) := Lib.hid (by unfold wantP; rw [HQS.out, hqr, hqe])
   have e4 : flat Sp.cells (O ++ [Sp.mk x.f x.t]) = flat Sp.cells O ++ [.int .i64 x.f, .int .i64 x.t] := by rw [flat_append, flat_one]; rfl
   have e5 : (O ++ [Sp.mk x.f x.t]).length = O.length + 1 := by simp
   have E4 := Lib.hid e4
   have E5 := Lib.hid e5
   clear e0 e1 e2 e3 hown hb rW bW e4 e5 hqr
   obtain ⟨qo, hqo⟩ : ∃ b, (qs || qe) = b := ⟨_, rfl⟩
   have HQO := Lib.hid hqo
   have hgo : (qo = false) ∨ (qo = true) := by cases qo <;> simp
   rcases hgo with rfl | rfl
   ·have hs0 : qs = false := by have := HQO.out; revert this; cases qs <;> simp
    have hs1 : qe = false := by have := HQO.out; rw [hs0] at this; simpa using this
    subst hs0 hs1
    have HS2 : Hid (dsL (K.take (k + 1)) st rk = O) := Lib.hid (by rw [HST.out, HWN.out]; simp)
    clear HST HWN
    go_wp2_with fail
    go_roundw
    case rel => exact ⟨k + 1, by omega, by go_num, by rw [HS2.out]; exact hownA, hbw⟩
    case measure => simp [intOf]; omega
   ·cases qs with
    | true =>
     cases qr with
     | false =>
      have HS2 : Hid (dsL (K.take (k + 1)) st rk = O) := Lib.hid (by rw [HST.out, HWN.out]; simp)
      clear HST HWN
      go_wp2_with fail
      refine hint.mono ?_
      rintro e w2 ⟨rfl, rfl⟩
      go_wp2_with fail
      go_roundw
      case rel => exact ⟨k + 1, by omega, by go_num, by rw [HS2.out]; exact hownA, hbw⟩
      case measure => simp [intOf]; omega
     | true =>
      have HS2 : Hid (dsL (K.take (k + 1)) st rk = O ++ [⟨x.f, x.t⟩]) := Lib.hid (by rw [HST.out, HWN.out]; rfl)
      clear HST HWN
      go_wp2_with fail
      refine hint.mono ?_
      rintro e w2 ⟨rfl, rfl⟩
      go_wp2_with (at_builtin; go_loud (refine wpList_append_rd (by rfl) (.tmp 30) (.tmp 33) 180 (by rfl) w.heap.size 32 i0 _ 2 16 Tryz.underlying180 hi0 hz0 hz1 hz2 rfl (by omega) (.slice A1 O.length c1) O.length (flat Sp.cells O) (by rfl) (hownA.alloc _) (w2.heap.size + 1) (some ⟨w2.heap.size, 0, none⟩) 1 1 [.int .i64 x.f, .int .i64 x.t] (by rfl) (Rd.built (heap_alloc_new w2 _) (by omega) rfl) (by intro u hu; simp at hu; rcases hu with rfl | rfl <;> rfl) (by unfold maxLen; omega) (by omega) (by simp; omega) ?_); intro v4 w4 hown4 hg4 hat4)
      have hb4 := (hbw.alloc hzw (.cells #[.int .i64 x.f, .int .i64 x.t] 32)).grown hg4 (by simp; omega) (fun g e => (hownA.lt g e).1)
      go_roundw
      case rel => exact ⟨k + 1, by omega, by go_num, by rw [HS2.out, E4.out, E5.out]; exact hown4, hb4⟩
      case measure => simp [intOf]; omega
    | false =>
     have hs1 : qe = true := by have := HQO.out; simpa using this
     subst hs1
     cases qr with
     | false =>
      have HS2 : Hid (dsL (K.take (k + 1)) st rk = O) := Lib.hid (by rw [HST.out, HWN.out]; simp)
      clear HST HWN
      go_wp2_with fail
      refine hint.mono ?_
      rintro e w2 ⟨rfl, rfl⟩
      go_wp2_with fail
      go_roundw
      case rel => exact ⟨k + 1, by omega, by go_num, by rw [HS2.out]; exact hownA, hbw⟩
      case measure => simp [intOf]; omega
     | true =>
      have HS2 : Hid (dsL (K.take (k + 1)) st rk = O ++ [⟨x.f, x.t⟩]) := Lib.hid (by rw [HST.out, HWN.out]; rfl)
      clear HST HWN
      go_wp2_with fail
      refine hint.mono ?_
      rintro e w2 ⟨rfl, rfl⟩
      go_wp2_with (at_builtin; go_loud (refine wpList_append_rd (by rfl) (.tmp 30) (.tmp 33) 180 (by rfl) w.heap.size 32 i0 _ 2 16 Tryz.underlying180 hi0 hz0 hz1 hz2 rfl (by omega) (.slice A1 O.length c1) O.length (flat Sp.cells O) (by rfl) (hownA.alloc _) (w2.heap.size + 1) (some ⟨w2.heap.size, 0, none⟩) 1 1 [.int .i64 x.f, .int .i64 x.t] (by rfl) (Rd.built (heap_alloc_new w2 _) (by omega) rfl) (by intro u hu; simp at hu; rcases hu with rfl | rfl <;> rfl) (by unfold maxLen; omega) (by omega) (by simp; omega) ?_); intro v4 w4 hown4 hg4 hat4)
      have hb4 := (hbw.alloc hzw (.cells #[.int .i64 x.f, .int .i64 x.t] 32)).grown hg4 (by simp; omega) (fun g e => (hownA.lt g e).1)
      go_roundw
      case rel => exact ⟨k + 1, by omega, by go_num, by rw [HS2.out, E4.out, E5.out]; exact hown4, hb4⟩
      case measure => simp [intOf]; omega
  ·have hkN : K.take k = K := List.take_of_length_le (by have := HN.out; omega)
   rw [hkN] at hown hol ⊢
   clear htl hkN
   go_wp2_with fail
   refine (days_any (Ds.ofOwn hown rfl) (by have := HN.out; omega)).mono ?_
   rintro e w5 ⟨rfl, hb5⟩
   go_wp2_with fail
   go_ret
   exact ⟨rfl, hb.trans (hb5.mono hwsz)⟩
end
section
theorem amount_ok (x : Int) (h0 : 0 <= x) (h1 : x <= 1000) (w : World) : Calls Tryz.prog 203 #[.int .i64 x] w fun e w' => e = .returned (.bool true) /\ w' = w := by
 have q1 : decide ((-1000000000000 : Int) <= x) = true := decide_eq_true (by omega)
 have q2 : decide (x <= 1000000000000) = true := decide_eq_true (by omega)
 go_enter Tryz.func203, Tryz.ntmps203
 go_wp2_with fail
 go_ret
 exact ⟨rfl, rfl⟩
theorem currency_ok (w : World) : Calls Tryz.prog 114 #[.int .i64 1] w fun e w' => e = .returned (.bool true) /\ w' = w := by
 go_enter Tryz.func114, Tryz.ntmps114
 go_wp2_with fail
 go_ret
 exact ⟨rfl, rfl⟩
theorem rates_nil (w : World) : Calls Tryz.prog 63 #[.slice none 0 0] w fun e w' => e = .returned (.int .i64 0) /\ w' = w := by
 go_enter Tryz.func63, Tryz.ntmps63
 go_wp2_with fail
 refine wp_loop_rounds 1 ?_
 rw [rounds_succ]
 go_wp2_with fail
 go_ret
 exact ⟨rfl, rfl⟩
theorem vmonth_ok (m : Int) (h0 : 0 <= m) (h1 : m <= 2399) (w : World) : Calls Tryz.prog 225 #[.int .i64 m] w fun e w' => e = .returned (.bool true) /\ w' = w := by
 have q1 : decide (0 <= m) = true := decide_eq_true h0
 have q2 : decide (m <= 2399) = true := decide_eq_true h1
 go_enter Tryz.func225, Tryz.ntmps225
 go_wp2_with fail
 go_ret
 exact ⟨rfl, rfl⟩
theorem len_dec (n : Nat) : lenYM n 11 = 31 := rfl
theorem len_jan (n : Nat) : lenYM n 0 = 31 := rfl
theorem mdays_ok (n : Nat) (hn : n <= 199) (m : Int) (hm : m = 12 * (n : Int) + 11) (w : World) : Calls Tryz.prog 170 #[.int .i64 m] w fun e w' => e = .returned (.int .i64 31) /\ Below w.heap.size w w' := by
 have hq : m.tdiv 12 = (n : Int) := by rw [Int.tdiv_eq_ediv_of_nonneg (by omega)]; omega
 have hr : m.tmod 12 = 11 := by rw [Int.tmod_eq_emod_of_nonneg (by omega)]; omega
 have hw1 : IntKind.i64.wrap (1900 + (n : Int)) = 1900 + (n : Int) := IntWalk.i64_in _ (by omega)
 have hl := fun u => tlen_to (y := 1900 + (n : Int)) (z := 12) (l := 31) (k := 11) (by omega) (by omega) rfl (by rw [len_dec]; rfl) u
 have hv := vmonth_ok m (by omega) (by omega) w
 clear hm
 go_enter Tryz.func170, Tryz.ntmps170
 go_wp2_with fail
 refine hv.mono ?_
 rintro e w1 ⟨rfl, rfl⟩
 go_wp2_with fail
 refine (hl _).mono ?_
 rintro e w2 ⟨rfl, hb⟩
 go_wp2_with fail
 go_ret
 exact ⟨rfl, hb⟩
theorem month_ok (n : Nat) (hn : n <= 199) (m : Int) (hm : m = 12 * (n : Int) + 11) (w : World) : Calls Tryz.prog 115 #[.int .i64 m] w fun e w' => e = .returned (.bool true) /\ Below w.heap.size w w' := by
 go_enter Tryz.func115, Tryz.ntmps115
 have hmd := mdays_ok n hn m hm w
 clear hm
 go_wp2_with fail
 refine hmd.mono ?_
 rintro e w1 ⟨rfl, hb⟩
 go_wp2_with fail
 go_ret
 exact ⟨rfl, hb⟩
theorem convert_ok (x : Nat) (hx : x <= 1000) (n : Nat) (hn : n <= 199) (m : Int) (hm : m = 12 * (n : Int) + 11) (w : World) :
  Calls Tryz.prog 138 #[.int .i64 (x : Int), .int .i64 1, .int .i64 1, .int .i64 m, .slice none 0 0, .agg #[.int .i64 1, .int .i64 1]] w fun e w' => e = .returned (.tuple #[.int .i64 (x : Int), .int .i64 0]) /\ Below w.heap.size w w' := by
 obtain ⟨V, hV, c, s⟩ := rd_new w
 have lV := (gis s).1
 have row : ∀ (u : World), Below V.heap.size V u -> u.cell? ⟨w.heap.size, 0, none⟩ = some (.int .i64 1) /\ u.cell? ⟨w.heap.size, 1, none⟩ = some (.int .i64 1) := fun u hu => rdbox ((hu.block _ lV).trans s)
 have HR := Lib.hid row
 have ha := amount_ok (x : Int) (by omega) (by omega)
 have hmo := fun u => month_ok n hn m hm u
 clear hm
 have hs1 := fun u => msize_ok (x : Int) (by omega) (by omega) u
 have hd1 : ∀ u, Calls Tryz.prog 89 #[.bool false, .int .u64 0, .int .u64 (x : Int), .int .u64 1, .agg #[.int .i64 1, .int .i64 1]] u fun e w' => e = .returned (.tuple #[.int .i64 (x : Int), .int .i64 0]) /\ Below u.heap.size u w' := fun u => by
  have := divide_ok x 1 (by omega) (by omega) (by omega) (by rw [Nat.div_one]; omega) u
  rwa [Nat.div_one] at this
 have q1 : decide ((x : Int) < 0) = false := decide_eq_false (by omega)
 obtain ⟨g0, g1⟩ := row V (Below.refl _ _)
 clear row
 dsimp only [rdBox] at hV
 go_enter Tryz.func138, Tryz.ntmps138
 go_upto_region 1 with (fail)
 clear hV
 go_wp2_with fail
 refine (ha _).mono ?_
 rintro e w1 ⟨rfl, hw1⟩
 rw [hw1]
 clear hw1
 go_wp2_with fail
 refine (currency_ok _).mono ?_
 rintro e w2 ⟨rfl, hw2⟩
 rw [hw2]
 clear hw2
 go_wp2_with fail
 refine (currency_ok _).mono ?_
 rintro e w3 ⟨rfl, hw3⟩
 rw [hw3]
 clear hw3
 go_wp2_with fail
 refine (hmo _).mono ?_
 rintro e w4 ⟨rfl, b4⟩
 clear g0 g1
 obtain ⟨g0, g1⟩ := HR.out w4 b4
 go_wp2_with fail
 refine (validrd_ok _).mono ?_
 rintro e w5 ⟨rfl, b5⟩
 have hb5 := b4.trans (b5.mono b4.size)
 clear g0 g1 b4 b5
 obtain ⟨g0, g1⟩ := HR.out w5 hb5
 go_wp2_with fail
 refine (rates_nil _).mono ?_
 rintro e w6 ⟨rfl, hw6⟩
 rw [hw6]
 clear hw6
 go_upto_region 4 with (fail)
 go_region_held3 (fun w' => w'.cell? ⟨w.heap.size, 0, none⟩ = some (.int .i64 1) /\ w'.cell? ⟨w.heap.size, 1, none⟩ = some (.int .i64 1)) (exact HR.out _ (by first | exact hb5 | exact hb5.drew | exact hb7)) (first
  | (go_at_call 88; (with_reducible refine (hs1 _).mono ?_); rintro e w7 ⟨rfl, rfl⟩)
  | (go_at_call 89; (with_reducible refine (hd1 _).mono ?_); rintro e w7 ⟨rfl, b7⟩
     have hb7 : Below V.heap.size V w7 := hb5.drew.trans (b7.mono hb5.size)))
 all_goals
  go_wp2_with fail
  go_ret2
  exact ⟨rfl, c.trans (hb7.mono c.size)⟩
theorem erank_ok {x : Fc} (hk : x.k = 1) (st : Int) (w : World) : Calls Tryz.prog 198 #[.agg #[.int .i64 x.i, .int .i64 x.n, .int .i64 x.v, .bool x.g, .int .i64 x.p, .int .i64 x.k, .int .i64 x.s, .int .i64 x.f, .int .i64 x.t, .int .i64 x.e, .int .i64 x.h, .int .i64 x.c, .int .i64 x.a, .int .i64 x.r], .int .i64 st] w fun e w' => e = .returned (.int .i64 1) /\ Below w.heap.size w w' := by
 have HK := Lib.hid hk
 clear hk
 go_enter Tryz.func198, Tryz.ntmps198
 go_upto_region 1 with (fail)
 obtain ⟨W, hW, fx, hzW, hbA, _⟩ := fact_box w x
 rw [<- hW] at ⊢
 clear hW
 obtain ⟨t0, t1, t2, t3, t4, t5, t6, t7, t8, t9, t10, t11, t12, t13⟩ := fx.of0
 rw [HK.out] at t5
 go_wp2_with fail
 go_ret
 exact ⟨rfl, hbA⟩
theorem part_bd {a d l : Int} (ha : 0 <= a) (ha2 : a <= 1000) (hd : 0 <= d) (hdl : d <= l) (hl : 0 < l) (hl2 : l <= 36500) : (0 <= a * d /\ a * d <= 36500000) /\ 0 <= (a * d).tdiv l /\ (a * d).tdiv l <= 1000 := by
 have h1 : 0 <= a * d := Int.mul_nonneg ha hd
 have h2 : a * d <= 1000 * l := Int.mul_le_mul ha2 hdl hd (by omega)
 refine ⟨⟨h1, by omega⟩, Int.tdiv_nonneg h1 (by omega), ?_⟩
 rw [Int.tdiv_eq_ediv_of_nonneg h1]
 exact Int.ediv_le_of_le_mul hl h2
theorem part_ok {x : Fc} (hv : Vld x) (hx : x.f < x.t /\ x.t - x.f <= 36500 /\ 0 <= x.a /\ x.a <= 1000) (d : Int) (hd : -73050 <= d /\ d <= 73050) (w : World) : Calls Tryz.prog 139 #[.agg #[.int .i64 x.i, .int .i64 x.n, .int .i64 x.v, .bool x.g, .int .i64 x.p, .int .i64 x.k, .int .i64 x.s, .int .i64 x.f, .int .i64 x.t, .int .i64 x.e, .int .i64 x.h, .int .i64 x.c, .int .i64 x.a, .int .i64 x.r], .int .i64 d] w fun e w' => (∃ v : Nat, v <= 1000 /\ e = .returned (.int .i64 (v : Int))) /\ Below w.heap.size w w' := by
 have hsp := hv.sp
 have hwl : IntKind.i64.wrap (x.t - x.f) = x.t - x.f := IntWalk.i64_in _ (by omega)
 have hnz : ¬ x.t - x.f = 0 := by omega
 have HV := Lib.hid hv
 have HX := Lib.hid hx
 obtain ⟨q1, e1⟩ : ∃ b, decide (d < 0) = b := ⟨_, rfl⟩
 obtain ⟨q2, e2⟩ : ∃ b, decide (x.t - x.f < d) = b := ⟨_, rfl⟩
 clear hv hx hsp
 go_enter Tryz.func139, Tryz.ntmps139
 go_upto_region 1 with (fail)
 obtain ⟨W, hW, fx, hzW, hbA, _⟩ := fact_box w x
 rw [<- hW] at ⊢
 clear hW
 obtain ⟨t0, t1, t2, t3, t4, t5, t6, t7, t8, t9, t10, t11, t12, t13⟩ := fx.of0
 go_wp2_with fail
 refine (tvalidE HV.out _).mono ?_
 rintro e w1 ⟨rfl, b1⟩
 have fx1 := fx.to b1 (by omega)
 have hb1 := hbA.trans (b1.mono hbA.size)
 clear t0 t1 t2 t3 t4 t5 t6 t7 t8 t9 t10 t11 t12 t13 fx
 obtain ⟨t0, t1, t2, t3, t4, t5, t6, t7, t8, t9, t10, t11, t12, t13⟩ := fx1.of0
 cases q1 with
 | true =>
  go_wp2_with fail
  go_ret
  exact ⟨⟨0, by omega, rfl⟩, hb1⟩
 | false =>
  cases q2 with
  | true =>
   go_wp2_with fail
   go_ret
   exact ⟨⟨0, by omega, rfl⟩, hb1⟩
  | false =>
   have hd0 : 0 <= d := by have := of_decide_eq_false e1; omega
   have hd1 : d <= x.t - x.f := by have := of_decide_eq_false e2; omega
   obtain ⟨h1, h2, h3, h4⟩ := HX.out
   obtain ⟨⟨m0, m1⟩, m2, m3⟩ := part_bd h3 h4 hd0 hd1 (by omega) h2
   have hwm : IntKind.i64.wrap (x.a * d) = x.a * d := IntWalk.i64_in _ (by omega)
   have hwq : IntKind.i64.wrap ((x.a * d).tdiv (x.t - x.f)) = (x.a * d).tdiv (x.t - x.f) := IntWalk.i64_in _ (by omega)
   obtain ⟨v, hv⟩ : ∃ v : Nat, (v : Int) = (x.a * d).tdiv (x.t - x.f) := ⟨((x.a * d).tdiv (x.t - x.f)).toNat, by omega⟩
   have HVV := Lib.hid (show v <= 1000 /\ (v : Int) = (x.a * d).tdiv (x.t - x.f) from ⟨by omega, hv⟩)
   clear h1 h2 h3 h4 m0 m1 m2 m3 hd0 hd1 hv
   go_wp2_with fail
   go_ret
   exact ⟨⟨v, HVV.out.1, by rw [HVV.out.2]; rfl⟩, hb1⟩
end
end Go.Proofs.YtnlopdmhdiegnaaGreatDoor
