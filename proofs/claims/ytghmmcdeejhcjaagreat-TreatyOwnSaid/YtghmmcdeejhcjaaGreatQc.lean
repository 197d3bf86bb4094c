/- The reader's name, whole, of, binary. The reader's of and binary; level, signOf, Args. Trees of expressions in memory; a whole row stored. The reader's expr: expressions by levels, over fewer tokens. The reader's expr at the levels 0 and 3. -/
import Derived.Test.YtghmmcdeejhcjaaGreatQb
import Derived.Deep.LoopGhost
namespace Go.Proofs.YtghmmcdeejhcjaaGreat
open Go.RowKit

/-- Is the next token of a kind? -/
def kdB (K : RC) (a : Nat) (b : Bool) (k : Int) : Bool := !b && (match K.L[a]? with | none => false | some x => x.k == k)
theorem kdB_true {K : RC} {a : Nat} {b : Bool} {k : Int} (h : kdB K a b k = true) : b = false ∧ ∃ x, K.L[a]? = some x ∧ x.k = k := by
  unfold kdB at h
  cases b
  · cases hx : K.L[a]? with
    | none => rw [hx] at h; cases h
    | some x => rw [hx] at h; exact ⟨rfl, x, rfl, by simpa using h⟩
  · cases h
set_option maxHeartbeats 4000000 in
theorem kind_fn {R : Nat} {K : RC} {a : Nat} {b : Bool} {w : World} (h : Rdr w R K a b) {k : Int} {v : Bool} (hv : kdB K a b k = v) : Calls Tryz.prog 36 #[.pointer (some ⟨R, 0, none⟩), .int .i64 k] w fun e w' => e = .returned (.bool v) ∧ ∃ q, w' = w.drewN q := by
  rw [← hv]
  have c0 : w.cell? ⟨R, 0, none⟩ = some (.slice K.A K.L.length K.c) := by rw [cell_of_row _ _ _ _ _ _ h.row]; rfl
  have c1 : w.cell? ⟨R, 1, none⟩ = some (.int .i64 (a : Int)) := by rw [cell_of_row _ _ _ _ _ _ h.row]; rfl
  have c3 : w.cell? ⟨R, 3, none⟩ = some (.bool b) := by rw [cell_of_row _ _ _ _ _ _ h.row]; rfl
  have hL := h.len
  cases b
  · by_cases hlt : a < K.L.length
    · obtain ⟨x, hx⟩ : ∃ x, K.L[a]? = some x := ⟨_, List.getElem?_eq_getElem hlt⟩
      obtain ⟨_, g, o, hA, hgR, hc⟩ := h.toks.elem tk_len hx (by omega)
      have e1 : w.cell? ⟨g, o + a * 3, none⟩ = some (.int .i64 x.k) := hc 0 _ rfl
      have hd : decide ((a : Int) < (K.L.length : Int)) = true := decide_eq_true (by omega)
      have hlo : (0 : Int) ≤ (a : Int) := by omega
      have hhi : (a : Int) < (K.L.length : Int) := by omega
      rw [hA] at c0
      rw [show kdB K a false k = (x.k == k) by unfold kdB; rw [hx]; rfl]
      clear hx hc hA hv
      go_enter Tryz.func36, Tryz.ntmps36
      go_upto_region 1 with (fail)
      go_quiet (fail)
      go_wp2_with fail
      go_ret
      exact ⟨rfl, _, rfl⟩
    · have hd : decide ((a : Int) < (K.L.length : Int)) = false := decide_eq_false (by omega)
      rw [show kdB K a false k = false by unfold kdB; rw [List.getElem?_eq_none (by omega)]; rfl]
      clear hv
      go_enter Tryz.func36, Tryz.ntmps36
      go_upto_region 1 with (fail)
      go_quiet (fail)
      go_wp2_with fail
      go_ret
      exact ⟨rfl, _, rfl⟩
  · rw [show kdB K a true k = false from rfl]
    clear hv
    go_enter Tryz.func36, Tryz.ntmps36
    go_upto_region 1 with (fail)
    go_quiet (fail)
    go_wp2_with fail
    go_ret
    exact ⟨rfl, _, rfl⟩
/-- A string is returned, of few bytes; the reader has moved or is bad. -/
def RetName (R : Nat) (K : RC) (a : Nat) (b : Bool) (w : World) (e : Ending) (w' : World) : Prop := ∃ s : ByteArray, e = .returned (.string s) ∧ s.size ≤ 100000 ∧ Mv R K a b w w'
set_option maxRecDepth 100000 in
set_option maxHeartbeats 4000000 in
theorem name_any {R : Nat} {K : RC} {a : Nat} {b : Bool} {w : World} (h : Rdr w R K a b) : Calls Tryz.prog 22 #[.pointer (some ⟨R, 0, none⟩)] w (RetName R K a b w) := by
  obtain ⟨v, hv⟩ : ∃ v, kdB K a b 1 = v := ⟨_, rfl⟩
  have HV := Lib.hid hv
  cases v
  · clear hv
    go_enter Tryz.func22, Tryz.ntmps22
    go_upto_region 1 with (fail)
    go_quiet ((go_at_call 36; exact Calls.quiet_of (kind_fn (h.to (below_N _ _)) HV.out)))
    go_wp2_with fail
    refine (stop_any (h.to (below_N _ _))).mono ?_
    rintro e w2 ⟨rfl, h2, hk2⟩
    go_wp2_with fail
    go_ret
    exact ⟨_, rfl, by decide, a, true, Nat.le_refl _, (fun _ => rfl), h2, (Kp.of (below_N _ _)).trans hk2⟩
  · obtain ⟨rfl, x, hx, hx1⟩ := kdB_true hv
    have hlt := (List.getElem?_eq_some_iff.1 hx).1
    have hL := h.len
    have hxo := (h.ok x (List.mem_of_getElem? hx)).1
    have c0 : w.cell? ⟨R, 0, none⟩ = some (.slice K.A K.L.length K.c) := by rw [cell_of_row _ _ _ _ _ _ h.row]; rfl
    have c1 : w.cell? ⟨R, 1, none⟩ = some (.int .i64 (a : Int)) := by rw [cell_of_row _ _ _ _ _ _ h.row]; rfl
    obtain ⟨_, g, o, hA, hgR, hc⟩ := h.toks.elem tk_len hx (by omega)
    have e1 : w.cell? ⟨g, o + a * 3 + 1, none⟩ = some (.string x.t) := hc 1 _ rfl
    have hlo : (0 : Int) ≤ (a : Int) := by omega
    have hhi : (a : Int) < (K.L.length : Int) := by omega
    rw [hA] at c0
    clear hv hx hx1 hc
    have HA := Lib.hid hA
    clear hA
    go_enter Tryz.func22, Tryz.ntmps22
    go_upto_region 1 with (fail)
    go_region_held3 (fun w' => w'.cell? ⟨R, 0, none⟩ = some (.slice (some ⟨g, o, none⟩) K.L.length K.c) ∧ w'.cell? ⟨R, 1, none⟩ = some (.int .i64 (a : Int)) ∧ w'.cell? ⟨g, o + a * 3 + 1, none⟩ = some (.string x.t)) (go_keep)
      (first
        | (go_at_call 36; refine (kind_fn (h.to (below_N w 1)) HV.out).mono ?_; rintro e w1 ⟨rfl, q1, rfl⟩)
        | (go_at_call 37; refine (isname_any x.t hxo _).mono ?_; rintro e w1 ⟨nb, rfl, rfl⟩))
    cases nb
    · go_wp2_with fail
      refine (stop_any (h.to (below_N w (1 + q1)))).mono ?_
      rintro e w2 ⟨rfl, h2, hk2⟩
      go_wp2_with fail
      go_ret
      exact ⟨_, rfl, by decide, a, true, Nat.le_refl _, (fun _ => rfl), h2, (Kp.of (below_N _ _)).trans hk2⟩
    · have z1 := frozen_of_row w R 1 _ _ h.row
      go_upto_region 5 with (fail)
      obtain ⟨V, hV⟩ : ∃ V, V = (w.drewN (1 + q1)).setCell ⟨R, 1, none⟩ (.int .i64 ((a : Int) + 1)) := ⟨_, rfl⟩
      have h2 : Rdr V R K (a + 1) false := by rw [hV]; exact (h.to (below_N w (1 + q1))).set 1 (.int .i64 ((a : Int) + 1)) (by simp) hlt
      have hk2 : Kp R w V := by rw [hV]; exact (Kp.of (below_N w (1 + q1))).trans (Kp.set _ 1 _)
      rw [← hV]
      clear hV c0 c1 e1 z1
      have c0 : V.cell? ⟨R, 0, none⟩ = some (.slice K.A K.L.length K.c) := by rw [cell_of_row _ _ _ _ _ _ h2.row]; rfl
      have c1 : V.cell? ⟨R, 1, none⟩ = some (.int .i64 ((a : Int) + 1)) := by rw [cell_of_row _ _ _ _ _ _ h2.row]; simp
      obtain ⟨x2, hx2⟩ : ∃ x, K.L[a]? = some x := ⟨_, List.getElem?_eq_getElem hlt⟩
      obtain ⟨_, g2, o2, hA2, hgR2, hc2⟩ := h2.toks.elem tk_len hx2 (by omega)
      have e1 : V.cell? ⟨g2, o2 + a * 3 + 1, none⟩ = some (.string x2.t) := hc2 1 _ rfl
      have hxo2 := (h.ok x2 (List.mem_of_getElem? hx2)).1
      have hw1 : IntKind.i64.wrap ((a : Int) + 1 - 1) = (a : Int) := by rw [show (a : Int) + 1 - 1 = (a : Int) by omega]; exact IntWalk.i64_in _ (by omega)
      rw [hA2] at c0
      clear hA2 hx2 hc2
      go_quiet (fail)
      go_wp2_with fail
      go_ret
      exact ⟨x2.t, rfl, hxo2, a + 1, false, Nat.le_succ _, (fun h => h), h2.to (below_N _ _), hk2.trans (Kp.of (below_N _ _))⟩
/-- A fraction lies in a block made since. -/
def FrIn (W : World) (v : Value) (wx : World) : Prop := ∃ (P : Nat) (n d : Int), v = .pointer (some ⟨P, 0, none⟩) ∧ W.heap.size ≤ P ∧ wx.cell? ⟨P, 0, none⟩ = some (.int .i64 n) ∧ wx.cell? ⟨P, 1, none⟩ = some (.int .i64 d) ∧ FrOk n d ∧ Below W.heap.size W wx
theorem frIn_new {W w2 : World} {n d : Int} (hf : FrOk n d) (hb : Below W.heap.size W w2) (t : TypeId) : FrIn W (.pointer (some ⟨w2.heap.size, 0, none⟩)) (w2.alloc (.cells #[.int .i64 n, .int .i64 d] t)) := by
  have hr := heap_alloc_new w2 (.cells #[.int .i64 n, .int .i64 d] t)
  exact ⟨_, n, d, rfl, hb.size, by rw [cell_of_row _ _ _ _ _ _ hr]; rfl, by rw [cell_of_row _ _ _ _ _ _ hr]; rfl, hf, hb.alloc hb.size _⟩
theorem frIn_old {W w2 : World} {n d : Int} {t : TypeId} (hf : FrOk n d) (hb : Below W.heap.size W w2) (hr : w2.heap[W.heap.size]? = some (.cells #[.int .i64 0, .int .i64 0] t (0, 0))) :
    FrIn W (.pointer (some ⟨W.heap.size, 0, none⟩)) ((w2.setCell ⟨W.heap.size, 0, none⟩ (.int .i64 n)).setCell ⟨W.heap.size, 1, none⟩ (.int .i64 d)) := by
  have h1 := heap_setCell_same w2 W.heap.size 0 _ _ (.int .i64 n) hr
  have h2 := heap_setCell_same _ W.heap.size 1 _ _ (.int .i64 d) h1
  refine ⟨_, n, d, rfl, Nat.le_refl _, by rw [cell_of_row _ _ _ _ _ _ h2]; rfl, by rw [cell_of_row _ _ _ _ _ _ h2]; rfl, hf, ?_⟩
  exact (hb.setCell (p := ⟨W.heap.size, 0, none⟩) (Nat.le_refl _) _).setCell (p := ⟨W.heap.size, 1, none⟩) (Nat.le_refl _) _
/-- A number in a range is returned; the reader has moved or is bad. -/
def RetNum (R : Nat) (K : RC) (a : Nat) (b : Bool) (lo hi : Int) (w : World) (e : Ending) (w' : World) : Prop := ∃ r : Int, e = .returned (.int .i64 r) ∧ lo ≤ r ∧ r ≤ hi ∧ Mv R K a b w w'
set_option maxRecDepth 100000 in
set_option maxHeartbeats 4000000 in
theorem rwhole_any {R : Nat} {K : RC} {a : Nat} {b : Bool} {w : World} (h : Rdr w R K a b) (lo hi : Int) (_hlo0 : 0 ≤ lo) (hhi0 : 0 ≤ hi) : Calls Tryz.prog 23 #[.pointer (some ⟨R, 0, none⟩), .int .i64 lo, .int .i64 hi] w (RetNum R K a b 0 hi w) := by
  obtain ⟨v, hv⟩ : ∃ v, kdB K a b 2 = v := ⟨_, rfl⟩
  have HV := Lib.hid hv
  cases v
  · clear hv
    go_enter Tryz.func23, Tryz.ntmps23
    go_wp2_with fail
    refine (kind_fn h HV.out).mono ?_
    rintro e w1 ⟨rfl, q1, rfl⟩
    go_wp2_with fail
    refine (stop_any (h.to (below_N _ _))).mono ?_
    rintro e w2 ⟨rfl, h2, hk2⟩
    go_wp2_with fail
    go_ret
    exact ⟨0, rfl, by omega, hhi0, a, true, Nat.le_refl _, (fun _ => rfl), h2, (Kp.of (below_N _ _)).trans hk2⟩
  · obtain ⟨rfl, x, hx, hx1⟩ := kdB_true hv
    have hlt := (List.getElem?_eq_some_iff.1 hx).1
    have hL := h.len
    have hRl := h.lt
    have hxo := (h.ok x (List.mem_of_getElem? hx)).1
    clear hv
    go_enter Tryz.func23, Tryz.ntmps23
    go_wp2_with fail
    refine (kind_fn h HV.out).mono ?_
    rintro e w1 ⟨rfl, q1, rfl⟩
    obtain ⟨W, hW⟩ : ∃ W, W = w.drewN q1 := ⟨_, rfl⟩
    have h1 : Rdr W R K a false := by rw [hW]; exact h.to (below_N _ _)
    have hb1 : Below w.heap.size w W := by rw [hW]; exact below_N _ _
    rw [← hW]
    clear hW
    have c0 : W.cell? ⟨R, 0, none⟩ = some (.slice K.A K.L.length K.c) := by rw [cell_of_row _ _ _ _ _ _ h1.row]; rfl
    have c1 : W.cell? ⟨R, 1, none⟩ = some (.int .i64 (a : Int)) := by rw [cell_of_row _ _ _ _ _ _ h1.row]; rfl
    obtain ⟨_, g, o, hA, hgR, hc⟩ := h1.toks.elem tk_len hx (by omega)
    have e1 : W.cell? ⟨g, o + a * 3 + 1, none⟩ = some (.string x.t) := hc 1 _ rfl
    have hlo : (0 : Int) ≤ (a : Int) := by omega
    have hhi : (a : Int) < (K.L.length : Int) := by omega
    have hRW := h1.lt
    have hgW : g < W.heap.size := by omega
    rw [hA] at c0
    clear hx hx1 hc
    have HA := Lib.hid hA
    clear hA
    have c0A := (World.cell?_alloc_lt W (.cells #[.int .i64 0, .int .i64 0] 38) ⟨R, 0, none⟩ hRW).trans c0
    have c1A := (World.cell?_alloc_lt W (.cells #[.int .i64 0, .int .i64 0] 38) ⟨R, 1, none⟩ hRW).trans c1
    have e1A := (World.cell?_alloc_lt W (.cells #[.int .i64 0, .int .i64 0] 38) ⟨g, o + a * 3 + 1, none⟩ hgW).trans e1
    have hn1 : R ≠ W.heap.size := by omega
    have hn2 : g ≠ W.heap.size := by omega
    have hn3 : ¬ W.heap.size = R := by omega
    have hn4 : ¬ W.heap.size = g := by omega
    go_upto_region 2 with (fail)
    go_cut [7, 8, 9] from 12 to 27 (fun v d k wx => ∃ (dim : Int) (ok : Bool), d = .int .i64 dim ∧ k = .bool ok ∧ FrIn W v wx)
    case first =>
     go_region_held3 (fun w' => w'.cell? ⟨R, 0, none⟩ = some (.slice (some ⟨g, o, none⟩) K.L.length K.c) ∧ w'.cell? ⟨R, 1, none⟩ = some (.int .i64 (a : Int)) ∧ w'.cell? ⟨g, o + a * 3 + 1, none⟩ = some (.string x.t)) (go_keep)
      (first
        | (go_at_call 38; ((with_reducible refine (decimal_any x.t hxo W.drew).mono ?_)); rintro e w2 ⟨nn, dd, dim, ok, rfl, hf, hd0, hd4, hb2⟩
           have k0 := (hb2.cell (p := ⟨R, 0, none⟩) (by simp <;> omega)).trans c0
           have k1 := (hb2.cell (p := ⟨R, 1, none⟩) (by simp <;> omega)).trans c1
           have k2 := (hb2.cell (p := ⟨g, o + a * 3 + 1, none⟩) (by simp <;> omega)).trans e1
           have hbW := (Below.refl W.heap.size W).drew.trans hb2)
        | (go_at_call 38; ((with_reducible refine (decimal_any x.t hxo (W.alloc (.cells #[.int .i64 0, .int .i64 0] 38)).drew).mono ?_)); rintro e w2 ⟨nn, dd, dim, ok, rfl, hf, hd0, hd4, hb2⟩
           have k0 := (hb2.cell (p := ⟨R, 0, none⟩) (by simp <;> omega)).trans c0A
           have k1 := (hb2.cell (p := ⟨R, 1, none⟩) (by simp <;> omega)).trans c1A
           have k2 := (hb2.cell (p := ⟨g, o + a * 3 + 1, none⟩) (by simp <;> omega)).trans e1A
           have hbW := ((Below.refl W.heap.size W).alloc (Nat.le_refl _) (.cells #[.int .i64 0, .int .i64 0] 38)).drew.trans (hb2.mono (by simp))
           have hrw := (hb2.block W.heap.size (by simp)).trans (heap_alloc_new W (.cells #[.int .i64 0, .int .i64 0] 38))
           have m0 : w2.cell? ⟨W.heap.size, 0, none⟩ = some (.int .i64 0) := by rw [cell_of_row _ _ _ _ _ _ hrw]; rfl
           have m1 : w2.cell? ⟨W.heap.size, 1, none⟩ = some (.int .i64 0) := by rw [cell_of_row _ _ _ _ _ _ hrw]; rfl
           have z0 := frozen_of_row w2 W.heap.size 0 _ _ hrw
           have z1 := frozen_of_row w2 W.heap.size 1 _ _ hrw))
     all_goals (go_wp2_with fail; go_meet)
     · exact ⟨_, _, rfl, rfl, frIn_new hf hbW _⟩
     · exact ⟨_, _, rfl, rfl, frIn_old hf hbW hrw⟩
    case rest =>
     obtain ⟨dim, ok, rfl, rfl, P, nn, dd, rfl, hP, p0, p1, hf, hbx⟩ := hcut
     have h2 := h1.to hbx
     have hk2 : Kp R w wc := (Kp.of hb1).trans (Kp.of hbx)
     obtain ⟨hf1, hf2, hf3, hf4⟩ := hf
     clear c0 c1 e1 c0A c1A e1A
     have hne : R ≠ P := by omega
     have stopC : ∀ (u : World), Rdr u R K a false → Calls Tryz.prog 35 #[.pointer (some ⟨R, 0, none⟩)] u fun e w' => e = .returned (.tuple #[]) ∧ Rdr w' R K a true ∧ Kp R u w' := fun u hu => stop_any hu
     have q1' : wc.cell? ⟨R, 1, none⟩ = some (.int .i64 (a : Int)) := by rw [cell_of_row _ _ _ _ _ _ h2.row]; rfl
     have z1' := frozen_of_row wc R 1 _ _ h2.row
     by_cases g1 : dim = 2
     · have d1 : (dim == 2) = true := beq_iff_eq.2 g1
       by_cases g2 : dd = 1
       · have d2 : (dd == 1) = true := beq_iff_eq.2 g2
         by_cases g3 : lo ≤ nn
         · have d3 : decide (lo ≤ nn) = true := decide_eq_true g3
           by_cases g4 : nn ≤ hi
           · have d4 : decide (nn ≤ hi) = true := decide_eq_true g4
             clear g1 g2
             go_wp2_with fail
             go_ret
             exact ⟨nn, rfl, hf1, g4, a + 1, false, Nat.le_succ _, (fun h => h), h2.set 1 (.int .i64 ((a : Int) + 1)) (by simp) hlt, hk2.trans (Kp.set _ 1 _)⟩
           · have d4 : decide (nn ≤ hi) = false := decide_eq_false g4
             clear g1 g2
             go_wp2_with fail
             refine (stopC _ h2).mono ?_
             rintro e w3 ⟨rfl, h3, hk3⟩
             go_wp2_with fail
             go_ret
             exact ⟨0, rfl, by omega, hhi0, a, true, Nat.le_refl _, (fun _ => rfl), h3, hk2.trans hk3⟩
         · have d3 : decide (lo ≤ nn) = false := decide_eq_false g3
           clear g1 g2
           go_wp2_with fail
           refine (stopC _ h2).mono ?_
           rintro e w3 ⟨rfl, h3, hk3⟩
           go_wp2_with fail
           go_ret
           exact ⟨0, rfl, by omega, hhi0, a, true, Nat.le_refl _, (fun _ => rfl), h3, hk2.trans hk3⟩
       · have d2 : (dd == 1) = false := beq_eq_false_iff_ne.2 g2
         clear g1 g2
         go_wp2_with fail
         refine (stopC _ h2).mono ?_
         rintro e w3 ⟨rfl, h3, hk3⟩
         go_wp2_with fail
         go_ret
         exact ⟨0, rfl, by omega, hhi0, a, true, Nat.le_refl _, (fun _ => rfl), h3, hk2.trans hk3⟩
     · have d1 : (dim == 2) = false := beq_eq_false_iff_ne.2 g1
       clear g1
       go_wp2_with fail
       refine (stopC _ h2).mono ?_
       rintro e w3 ⟨rfl, h3, hk3⟩
       go_wp2_with fail
       go_ret
       exact ⟨0, rfl, by omega, hhi0, a, true, Nat.le_refl _, (fun _ => rfl), h3, hk2.trans hk3⟩

theorem level_any (op : Int) (w : World) : Calls Tryz.prog 125 #[.int .i64 op] w (RetI w 0 7) := by
  go_enter Tryz.func125, Tryz.ntmps125
  go_wp2_with fail
  all_goals (go_ret; exact ⟨_, rfl, by omega, by omega, rfl⟩)
def RetS (w : World) (e : Ending) (w' : World) : Prop := ∃ s : ByteArray, e = .returned (.string s) ∧ s.size ≤ 100 ∧ w = w'
theorem signof_any (op : Int) (w : World) : Calls Tryz.prog 126 #[.int .i64 op] w (RetS w) := by
  go_enter Tryz.func126, Tryz.ntmps126
  go_wp2_with fail
  all_goals (go_ret; exact ⟨_, rfl, by decide, rfl⟩)
set_option maxHeartbeats 1000000 in
theorem args_any (op : Int) (w : World) : Calls Tryz.prog 128 #[.int .i64 op] w (RetI w (-1) 3) := by
  go_enter Tryz.func128, Tryz.ntmps128
  go_wp2_with fail
  all_goals (go_ret; exact ⟨_, rfl, by omega, by omega, rfl⟩)
theorem Rdr.alloc {w : World} {R : Nat} {K : RC} {a : Nat} {b : Bool} (h : Rdr w R K a b) (o : Obj) : Rdr (w.alloc o) R K a b := h.to ((Below.refl _ w).alloc (Nat.le_refl _) o)
theorem Kp.alloc (R : Nat) (w : World) (o : Obj) : Kp R w (w.alloc o) := Kp.of ((Below.refl _ w).alloc (Nat.le_refl _) o)
/-- The number of a binary operation that comes next, or 0. -/
def RetBin (K : RC) (a : Nat) (b : Bool) (w : World) (e : Ending) (w' : World) : Prop := ∃ r : Int, e = .returned (.int .i64 r) ∧ 0 ≤ r ∧ r ≤ 18 ∧ (r ≠ 0 → b = false ∧ a < K.L.length) ∧ Below w.heap.size w w'
set_option maxHeartbeats 2000000 in
theorem binary_any {R : Nat} {K : RC} {a : Nat} {b : Bool} {w : World} (h : Rdr w R K a b) (n : Int) : Calls Tryz.prog 91 #[.pointer (some ⟨R, 0, none⟩), .int .i64 n] w (RetBin K a b w) := by
  go_enter Tryz.func91, Tryz.ntmps91
  go_wp2_with fail
  go_loopw [5] (fun i wr => ∃ o : Int, 7 ≤ o ∧ o ≤ 19 ∧ i = .int .i64 o ∧ Below w.heap.size w wr) (fun i _ => 19 - (intOf i).toNat)
  case atStart => exact ⟨7, by omega, by omega, rfl, Below.refl _ _⟩
  case round =>
    obtain ⟨o, ho1, ho2, rfl, hbr⟩ := hrel
    have hsz := hbr.size
    by_cases hlt : o ≤ 18
    · go_wp2_with fail
      refine (level_any o _).mono ?_
      rintro e w1 ⟨l, rfl, hl1, hl2, rfl⟩
      by_cases he : l = n
      · have de : (l == n) = true := beq_iff_eq.2 he
        clear he
        go_wp2_with fail
        refine (signof_any o _).mono ?_
        rintro e w1 ⟨s, rfl, hs, rfl⟩
        go_wp2_with fail
        refine (is_any (h.to hbr) s).mono ?_
        rintro e w1 ⟨v, rfl, hv, hb1⟩
        have hbb := hbr.trans (hb1.mono hsz)
        cases v
        · go_wp2_with fail
          go_roundw
          case rel => exact ⟨o + 1, by omega, by omega, rfl, hbb⟩
          case measure => simp [intOf]; omega
        · obtain ⟨hbf, x, hx, -⟩ := hv rfl
          have hxl := (List.getElem?_eq_some_iff.1 hx).1
          clear hx hv
          have HB := Lib.hid hbf
          clear hbf
          go_wp2_with fail
          go_ret
          exact ⟨o, rfl, by omega, by omega, (fun _ => ⟨HB.out, hxl⟩), hbb⟩
      · have de : (l == n) = false := beq_eq_false_iff_ne.2 he
        clear he
        go_wp2_with fail
        go_roundw
        case rel => exact ⟨o + 1, by omega, by omega, rfl, hbr⟩
        case measure => simp [intOf]; omega
    · go_wp2_with fail
      go_ret
      exact ⟨0, rfl, by omega, by omega, (fun h => absurd rfl h), hbr⟩
set_option maxRecDepth 100000 in
set_option maxHeartbeats 4000000 in
theorem of_any {R : Nat} {K : RC} {a : Nat} {b : Bool} {w : World} (h : Rdr w R K a b) {k : Int} (hk : k = 1 ∨ k = 2 ∨ k = 3) : Calls Tryz.prog 41 #[.pointer (some ⟨R, 0, none⟩), .int .i64 k] w (RetNum R K a b 0 14 w) := by
  obtain ⟨v, hv⟩ : ∃ v, kdB K a b 1 = v := ⟨_, rfl⟩
  have HV := Lib.hid hv
  cases v
  · clear hv
    go_enter Tryz.func41, Tryz.ntmps41
    go_wp2_with fail
    refine (kind_fn h HV.out).mono ?_
    rintro e w1 ⟨rfl, q1, rfl⟩
    go_wp2_with fail
    refine (stop_any (h.to (below_N _ _))).mono ?_
    rintro e w2 ⟨rfl, h2, hk2⟩
    go_wp2_with fail
    go_ret
    exact ⟨0, rfl, by omega, by omega, a, true, Nat.le_refl _, (fun _ => rfl), h2, (Kp.of (below_N _ _)).trans hk2⟩
  · obtain ⟨rfl, x, hx, hx1⟩ := kdB_true hv
    have hlt := (List.getElem?_eq_some_iff.1 hx).1
    have hL := h.len
    clear hv
    have stopC : ∀ (u : World), Rdr u R K a false → Calls Tryz.prog 35 #[.pointer (some ⟨R, 0, none⟩)] u fun e w' => e = .returned (.tuple #[]) ∧ Rdr w' R K a true ∧ Kp R u w' := fun u hu => stop_any hu
    have HK := Lib.hid hk
    clear hk
    go_enter Tryz.func41, Tryz.ntmps41
    go_wp2_with fail
    refine (kind_fn h HV.out).mono ?_
    rintro e w1 ⟨rfl, q1, rfl⟩
    obtain ⟨W, hW⟩ : ∃ W, W = w.drewN q1 := ⟨_, rfl⟩
    have h1 : Rdr W R K a false := by rw [hW]; exact h.to (below_N _ _)
    have hb1 : Below w.heap.size w W := by rw [hW]; exact below_N _ _
    rw [← hW]
    clear hW
    have c0 : W.cell? ⟨R, 0, none⟩ = some (.slice K.A K.L.length K.c) := by rw [cell_of_row _ _ _ _ _ _ h1.row]; rfl
    have c1 : W.cell? ⟨R, 1, none⟩ = some (.int .i64 (a : Int)) := by rw [cell_of_row _ _ _ _ _ _ h1.row]; rfl
    obtain ⟨_, g, o, hA, hgR, hc⟩ := h1.toks.elem tk_len hx (by omega)
    have e1 : W.cell? ⟨g, o + a * 3 + 1, none⟩ = some (.string x.t) := hc 1 _ rfl
    have hlo : (0 : Int) ≤ (a : Int) := by omega
    have hhi : (a : Int) < (K.L.length : Int) := by omega
    rw [hA] at c0
    clear hx hx1 hc
    have HA := Lib.hid hA
    clear hA
    go_upto_region 2 with (fail)
    go_quiet (fail)
    obtain ⟨V, hV⟩ : ∃ V, V = W.drewN nq := ⟨_, rfl⟩
    have h2 : Rdr V R K a false := by rw [hV]; exact h1.to (below_N _ _)
    have hb2 : Below w.heap.size w V := by rw [hV]; exact hb1.trans ((below_N _ _).mono hb1.size)
    rw [← hV]
    clear hV c0 c1 e1 h1 hb1
    go_wp2_with fail
    refine (kindw_any x.t _).mono ?_
    rintro e w3 ⟨n1, rfl, a1, a2, rfl⟩
    go_wp2_with fail
    refine (benefitw_any x.t _).mono ?_
    rintro e w3 ⟨n2, rfl, b1, b2, rfl⟩
    go_wp2_with fail
    refine (modew_any x.t _).mono ?_
    rintro e w3 ⟨n3, rfl, d1, d2, rfl⟩
    have FB : ∀ o : Obj, Below V.heap.size V (V.alloc o) := fun o => (Below.refl _ V).alloc (Nat.le_refl _) o
    have hRV := h2.lt
    have z1 : ∀ o : Obj, (V.alloc o).frozen? ⟨R, 1, none⟩ = false := fun o => frozen_of_row _ R 1 _ _ (h2.to (FB o)).row
    have d1 : V.cell? ⟨R, 1, none⟩ = some (.int .i64 (a : Int)) := by rw [cell_of_row _ _ _ _ _ _ h2.row]; rfl
    have d1' : V.frozen? ⟨R, 1, none⟩ = false := frozen_of_row _ R 1 _ _ h2.row
    rcases HK.out with rfl | rfl | rfl
    · by_cases hp : 0 < n1
      · go_wp2_with fail
        go_ret
        exact ⟨n1, rfl, by omega, by omega, a + 1, false, Nat.le_succ _, (fun h => h), (h2.set (a' := a + 1) 1 (.int .i64 ((a : Int) + 1)) (by simp) hlt).alloc _, (Kp.of hb2).trans ((Kp.set V 1 _).trans (Kp.alloc _ _ _))⟩
      · go_wp2_with fail
        refine (stopC _ (h2.to (FB _))).mono ?_
        rintro e w4 ⟨rfl, h4, hk4⟩
        go_wp2_with fail
        go_ret
        exact ⟨0, rfl, by omega, by omega, a, true, Nat.le_refl _, (fun _ => rfl), h4, (Kp.of hb2).trans ((Kp.of (FB _)).trans hk4)⟩
    · by_cases hp : 0 < n2
      · go_wp2_with fail
        go_ret
        exact ⟨n2, rfl, by omega, by omega, a + 1, false, Nat.le_succ _, (fun h => h), (h2.set (a' := a + 1) 1 (.int .i64 ((a : Int) + 1)) (by simp) hlt).alloc _, (Kp.of hb2).trans ((Kp.set V 1 _).trans (Kp.alloc _ _ _))⟩
      · go_wp2_with fail
        refine (stopC _ (h2.to (FB _))).mono ?_
        rintro e w4 ⟨rfl, h4, hk4⟩
        go_wp2_with fail
        go_ret
        exact ⟨0, rfl, by omega, by omega, a, true, Nat.le_refl _, (fun _ => rfl), h4, (Kp.of hb2).trans ((Kp.of (FB _)).trans hk4)⟩
    · by_cases hp : 0 < n3
      · go_wp2_with fail
        go_ret
        exact ⟨n3, rfl, by omega, by omega, a + 1, false, Nat.le_succ _, (fun h => h), (h2.set (a' := a + 1) 1 (.int .i64 ((a : Int) + 1)) (by simp) hlt).alloc _, (Kp.of hb2).trans ((Kp.set V 1 _).trans (Kp.alloc _ _ _))⟩
      · go_wp2_with fail
        refine (stopC _ (h2.to (FB _))).mono ?_
        rintro e w4 ⟨rfl, h4, hk4⟩
        go_wp2_with fail
        go_ret
        exact ⟨0, rfl, by omega, by omega, a, true, Nat.le_refl _, (fun _ => rfl), h4, (Kp.of hb2).trans ((Kp.of (FB _)).trans hk4)⟩

/-- An expression, with the place of its operands. -/
inductive Ex where
  | mk (o n d m : Int) (s : ByteArray) (A : Option Addr) (c : Nat) (l : List Ex)
def Ex.cells : Ex → List Value
  | .mk o n d m s A c l => [.int .i64 o, .int .i64 n, .int .i64 d, .int .i64 m, .string s, .slice A l.length c]
def Ex.agg : Ex → Value
  | .mk o n d m s A c l => .agg #[.int .i64 o, .int .i64 n, .int .i64 d, .int .i64 m, .string s, .slice A l.length c]
theorem ex_len (x : Ex) : x.cells.length = 6 := by cases x; rfl
theorem ex_one (x : Ex) : ∀ u ∈ x.cells, u.oneCell' = true := by
  intro u hu
  cases x
  simp only [Ex.cells, List.mem_cons, List.not_mem_nil, or_false] at hu
  rcases hu with rfl | rfl | rfl | rfl | rfl | rfl <;> rfl
/-- The numbers of an expression are small. -/
def ExB (o n d m : Int) (s : ByteArray) : Prop := 0 ≤ o ∧ o ≤ 21 ∧ FrOk n d ∧ 0 ≤ m ∧ m ≤ 4 ∧ s.size ≤ 100000
/-- An expression whose operands lie in blocks of a kind. -/
inductive ExOk (P : Nat → Prop) (w : World) : Ex → Prop
  | leaf {o n d m : Int} {s : ByteArray} {c : Nat} (hb : ExB o n d m s) : ExOk P w (.mk o n d m s none c [])
  | node {o n d m : Int} {s : ByteArray} {g : Nat} {l : List Ex} (hb : ExB o n d m s) (hl : l.length ≤ 3) (hp : P g) (hr : w.heap[g]? = some (.cells (flat Ex.cells l).toArray 120 (0, 0))) (ha : ∀ x ∈ l, ExOk P w x) : ExOk P w (.mk o n d m s (some ⟨g, 0, none⟩) l.length l)
theorem ExOk.to {P Q : Nat → Prop} {w w' : World} {x : Ex} (h : ExOk P w x) (hf : ∀ g, P g → g < w.heap.size → w'.heap[g]? = w.heap[g]? ∧ Q g) : ExOk Q w' x := by
  induction h with
  | leaf hb => exact .leaf hb
  | node hb hl hp hr ha ih =>
    obtain ⟨h1, h2⟩ := hf _ hp (Array.getElem?_eq_some_iff.1 hr).1
    exact .node hb hl h2 (h1.trans hr) ih
theorem ExOk.kp {P : Nat → Prop} {R : Nat} {w w' : World} {x : Ex} (h : ExOk P w x) (hk : Kp R w w') (hR : ¬ P R) : ExOk P w' x :=
  h.to fun g hg hl => ⟨hk.block g hl (fun e => by injection e with e; subst e; exact hR hg), hg⟩
theorem ExOk.bel {P : Nat → Prop} {w w' : World} {x : Ex} (h : ExOk P w x) (hb : Below w.heap.size w w') : ExOk P w' x := h.to fun g hg hl => ⟨hb.block g hl, hg⟩
theorem ExOk.imp {P Q : Nat → Prop} {w : World} {x : Ex} (h : ExOk P w x) (hf : ∀ g, P g → g < w.heap.size → Q g) : ExOk Q w x := h.to fun g hg hl => ⟨rfl, hf g hg hl⟩
/-- An expression is returned, its operands in new blocks; the reader has moved or is bad. -/
def RetEx (R : Nat) (K : RC) (a : Nat) (b : Bool) (w : World) (e : Ending) (w' : World) : Prop := ∃ x : Ex, e = .returned x.agg ∧ ExOk (fun g => w.heap.size ≤ g) w' x ∧ Mv R K a b w w'
theorem info_ex : (Tryz.prog.info? 120).map (fun i => (i.zero, i.size, i.bytes)) = some (some (.agg #[.int .i64 0, .int .i64 0, .int .i64 0, .int .i64 0, .string ⟨#[]⟩, .slice none 0 0]), 6, 72) := by kernel_rfl
def ex0 : Ex := .mk 0 0 0 0 ⟨#[]⟩ none 0 []
theorem ex0_ok (P : Nat → Prop) (w : World) : ExOk P w ex0 := .leaf ⟨by omega, by omega, ⟨by omega, by omega, by omega, by omega⟩, by omega, by omega, by decide⟩
/-- A whole row stored into a block that is known whole. -/
theorem wpList_store_row {P : Program} {ops : Array Oper} {rest : List Oper} {op : Oper} {a : Act} {w : World} {Q : Exit → Act → World → Prop} (hgd : op.guard = none) (ty : TypeId) (x y : Operand) (ho : op.op = .store ty x y)
    (g : Nat) (cur : Array Value) (t : TypeId) (vs : List Value) (hx : a.eval x = .pointer (some ⟨g, 0, none⟩)) (hy : a.eval y = .agg vs.toArray) (hg : w.heap[g]? = some (.cells cur t (0, 0)))
    (hl : vs.length = cur.size) (hi : (P.info? ty).map (·.size) = some vs.length) (h1 : ∀ v ∈ vs, v.oneCell' = true)
    (h : ∀ W' : World, W'.heap[g]? = some (.cells vs.toArray t (0, 0)) → w.grownBy W' (some g) → W'.heap.size = w.heap.size → wpList P ops Q rest (a.put op.dst undef) W') : wpList P ops Q (op :: rest) a w := by
  have hlt : g < w.heap.size := (Array.getElem?_eq_some_iff.1 hg).1
  refine wpList_store_mid hgd ty x y ho g 0 vs.toArray hx hy ?_ (by simpa using hi) (all_oneCell_toArray h1) ?_
  · intro j hj
    have hj' : j < cur.size := by rw [← hl]; simpa using hj
    rw [Nat.zero_add]
    refine ⟨?_, frozen_of_row w g j _ _ hg⟩
    rw [cell_of_row w g j _ _ _ hg]
    simp [hj']
  · have e := setCells_row g vs 0 w cur t hg (by omega)
    simp only [List.take_zero, List.nil_append] at e
    show wpList P ops Q rest _ (w.setCells g 0 vs.toArray.toList)
    rw [show vs.toArray.toList = vs by simp, e]
    refine h _ ?_ ⟨rfl, rfl, rfl, by simp, fun i hi hne => ?_⟩ (by simp)
    · simp [hlt]
    · show (w.heap.setIfInBounds g _)[i]? = _
      rw [Array.getElem?_setIfInBounds, if_neg (fun e => hne (by rw [e]))]
/-- A store into a block of one's own leaves the blocks below. -/
theorem Kp.own {R g : Nat} {w wr w' : World} (h : Kp R w wr) (hg : wr.grownBy w' (some g)) (hw : w.heap.size ≤ g) : Kp R w w' :=
  ⟨hg.os.trans h.os, hg.tape.trans h.tape, hg.output.trans h.output, Nat.le_trans h.size hg.size, fun i hi hne => (hg.block i (Nat.lt_of_lt_of_le hi h.size) (fun e => by injection e with e; omega)).trans (h.block i hi hne)⟩
theorem Rdr.own {R g : Nat} {K : RC} {a : Nat} {b : Bool} {w w' : World} (h : Rdr w R K a b) (hg : w.grownBy w' (some g)) (hR : R < g) : Rdr w' R K a b := by
  have hl := h.lt
  have hb : Below (R + 1) w w' := ⟨hg.os, hg.tape, hg.output, hg.size, fun i hi => hg.block i (by omega) (fun e => by injection e with e; omega)⟩
  exact ⟨(hb.block R (by omega)).trans h.row, h.toks.below (hb.mono (by omega)), h.le, h.ok, h.len⟩
theorem ExOk.own {P : Nat → Prop} {g : Nat} {w w' : World} {x : Ex} (h : ExOk P w x) (hg : w.grownBy w' (some g)) (hP : ¬ P g) : ExOk P w' x :=
  h.to fun k hk hl => ⟨hg.block k hl (fun e => by injection e with e; subst e; exact hP hk), hk⟩
/-- The cells of an expression in a block. -/
theorem ex_row {w : World} {g : Nat} {o n d m : Int} {s : ByteArray} {A : Option Addr} {c : Nat} {l : List Ex} {t : TypeId} {fr : Nat × Nat} (h : w.heap[g]? = some (.cells (Ex.cells (.mk o n d m s A c l)).toArray t fr)) :
    w.cell? ⟨g, 0, none⟩ = some (.int .i64 o) ∧ w.cell? ⟨g, 1, none⟩ = some (.int .i64 n) ∧ w.cell? ⟨g, 2, none⟩ = some (.int .i64 d) ∧ w.cell? ⟨g, 3, none⟩ = some (.int .i64 m) ∧ w.cell? ⟨g, 4, none⟩ = some (.string s) ∧ w.cell? ⟨g, 5, none⟩ = some (.slice A l.length c) := by
  refine ⟨?_, ?_, ?_, ?_, ?_, ?_⟩ <;> rw [cell_of_row _ _ _ _ _ _ h] <;> rfl

/-- What expr, factor and call do over few tokens. -/
def EC (f : Nat) : Prop := ∀ (R : Nat) (K : RC) (a : Nat) (b : Bool) (w : World) (n : Int), Rdr w R K a b → 0 ≤ n → n ≤ 7 → 10 * (K.L.length - a) + (9 - n.toNat) ≤ f → Calls Tryz.prog 60 #[.pointer (some ⟨R, 0, none⟩), .int .i64 n] w (RetEx R K a b w)
def FC (f : Nat) : Prop := ∀ (R : Nat) (K : RC) (a : Nat) (w : World), Rdr w R K a false → 10 * (K.L.length - a) + 1 ≤ f → Calls Tryz.prog 90 #[.pointer (some ⟨R, 0, none⟩)] w (RetEx R K a false w)
def CC (f : Nat) : Prop := ∀ (R : Nat) (K : RC) (a : Nat) (w : World) (op : Int), Rdr w R K a false → a < K.L.length → 0 ≤ op → op ≤ 21 → 10 * (K.L.length - a) ≤ f → Calls Tryz.prog 124 #[.pointer (some ⟨R, 0, none⟩), .int .i64 op] w (RetEx R K a false w)
theorem Mv.trans {R : Nat} {K : RC} {a a1 : Nat} {b b1 : Bool} {w w1 w2 : World} (ha : a ≤ a1) (hb : b = true → b1 = true) (hk : Kp R w w1) (h : Mv R K a1 b1 w1 w2) : Mv R K a b w w2 := by
  obtain ⟨a2, b2, h1, h2, h3, h4⟩ := h
  exact ⟨a2, b2, Nat.le_trans ha h1, fun h => h2 (hb h), h3, hk.trans h4⟩
theorem zero_agg : ex0.agg = .agg #[.int .i64 0, .int .i64 0, .int .i64 0, .int .i64 0, .string ⟨#[]⟩, .slice none 0 0] := rfl
/-- The world behind the making of the result. -/
theorem ex_start {R : Nat} {K : RC} {a : Nat} {b : Bool} {w : World} (h : Rdr w R K a b) : ∃ V, V = w.alloc (.cells #[.int .i64 0, .int .i64 0, .int .i64 0, .int .i64 0, .string ⟨#[]⟩, .slice none 0 0] 120) ∧ V.heap[w.heap.size]? = some (.cells ex0.cells.toArray 120 (0, 0)) ∧ V.heap.size = w.heap.size + 1 ∧ Rdr V R K a b ∧ Kp R w V :=
  ⟨_, rfl, heap_alloc_new w _, by simp, h.alloc _, Kp.alloc _ _ _⟩
set_option maxRecDepth 100000 in
set_option maxHeartbeats 4000000 in
theorem expr_bad {R : Nat} {K : RC} {a : Nat} {w : World} (h : Rdr w R K a true) (n : Int) : Calls Tryz.prog 60 #[.pointer (some ⟨R, 0, none⟩), .int .i64 n] w (RetEx R K a true w) := by
  have hlt := h.lt
  obtain ⟨V, hV, r0, hz, hR, hk⟩ := ex_start h
  have c3 : V.cell? ⟨R, 3, none⟩ = some (.bool true) := by rw [cell_of_row _ _ _ _ _ _ hR.row]; rfl
  go_enter Tryz.func60, Tryz.ntmps60
  go_upto_region 1 with (fail)
  rw [← hV]
  clear hV
  go_upto_region 2 with (fail)
  go_wp2_with (refine wpList_store_row (by rfl) 120 (.tmp 4) (.tmp 14) (by rfl) w.heap.size _ _ ex0.cells (by rfl) (by rfl) r0 (by rfl) (by kernel_rfl) (ex_one ex0) ?_; intro W' hw' hg' hs')
  obtain ⟨y0, y1, y2, y3, y4, y5⟩ := ex_row hw'
  exact bodyPost_ret (v := ex0.agg) (by simp [results, Tryz.f60, go_sem, y0, y1, y2, y3, y4, y5, Ex.agg, ex0]) rfl ⟨ex0, rfl, ex0_ok _ _, a, true, Nat.le_refl _, (fun h => h), hR.own hg' hlt, hk.own hg' (Nat.le_refl _)⟩
set_option maxRecDepth 100000 in
set_option maxHeartbeats 4000000 in
theorem expr7 {f : Nat} (hF : FC f) {R : Nat} {K : RC} {a : Nat} {w : World} (h : Rdr w R K a false) (hf : 10 * (K.L.length - a) + 1 ≤ f) : Calls Tryz.prog 60 #[.pointer (some ⟨R, 0, none⟩), .int .i64 7] w (RetEx R K a false w) := by
  have hlt := h.lt
  obtain ⟨V, hV, r0, hz, hR, hk⟩ := ex_start h
  have c3 : V.cell? ⟨R, 3, none⟩ = some (.bool false) := by rw [cell_of_row _ _ _ _ _ _ hR.row]; rfl
  go_enter Tryz.func60, Tryz.ntmps60
  go_upto_region 1 with (fail)
  rw [← hV]
  clear hV
  go_wp2_with fail
  refine (hF R K a _ hR hf).mono ?_
  rintro e w1 ⟨⟨o, n, d, m, s, A, c, l⟩, rfl, hx, a1, b1, ha1, hb1, hR1, hk1⟩
  have r1 := (hk1.block w.heap.size (by omega) (fun e => by injection e with e; omega)).trans r0
  have hz1 := hk1.size
  clear r0 c3
  dsimp only [Ex.agg]
  go_wp2_with (refine wpList_store_row (by rfl) 120 (.tmp 4) (.tmp 51) (by rfl) w.heap.size _ _ (Ex.cells (.mk o n d m s A c l)) (by rfl) (by rfl) r1 (by rfl) (by kernel_rfl) (ex_one _) ?_; intro W' hw' hg' hs')
  obtain ⟨y0, y1, y2, y3, y4, y5⟩ := ex_row hw'
  exact bodyPost_ret (v := Ex.agg (.mk o n d m s A c l)) (by simp [results, Tryz.f60, go_sem, y0, y1, y2, y3, y4, y5, Ex.agg]) rfl
    ⟨_, rfl, (hx.own hg' (by omega)).imp (fun g hg _ => by omega), a1, b1, ha1, hb1, hR1.own hg' hlt, (hk.trans hk1).own hg' (Nat.le_refl _)⟩

theorem ex_box {P : Nat → Prop} {W : World} {xs : List Ex} {o : Int} (ho : 0 ≤ o ∧ o ≤ 21) (hP : P W.heap.size) (hP2 : ∀ x ∈ xs, ExOk P W x) (hl : xs.length ≤ 3 := by simp) :
    ExOk P (W.alloc (.cells (flat Ex.cells xs).toArray 120)) (.mk o 0 0 0 ⟨#[]⟩ (some ⟨W.heap.size, 0, none⟩) xs.length xs) :=
  .node ⟨ho.1, ho.2, ⟨by omega, by omega, by omega, by omega⟩, by omega, by omega, by decide⟩ hl hP (heap_alloc_new W _) fun x hx => (hP2 x hx).bel ((Below.refl _ W).alloc (Nat.le_refl _) _)
set_option maxRecDepth 100000 in
set_option maxHeartbeats 4000000 in
theorem expr3 {f : Nat} (hE : EC f) {R : Nat} {K : RC} {a : Nat} {w : World} (h : Rdr w R K a false) (hf : 10 * (K.L.length - a) + 6 ≤ f + 1) : Calls Tryz.prog 60 #[.pointer (some ⟨R, 0, none⟩), .int .i64 3] w (RetEx R K a false w) := by
  have hlt := h.lt
  have hle := h.le
  obtain ⟨V, hV, r0, hz, hR, hk⟩ := ex_start h
  have c3 : V.cell? ⟨R, 3, none⟩ = some (.bool false) := by rw [cell_of_row _ _ _ _ _ _ hR.row]; rfl
  go_enter Tryz.func60, Tryz.ntmps60
  go_upto_region 1 with (fail)
  rw [← hV]
  clear hV
  go_wp2_with fail
  refine (take_any hR _).mono ?_
  rintro e w1 ⟨v, rfl, hv, hk1⟩
  have hz1 := hk1.size
  have r1 := (hk1.block w.heap.size (by omega) (fun e => by injection e with e; omega)).trans r0
  have hkk1 := hk.trans hk1
  clear r0 c3 hk1
  rcases hv with ⟨rfl, -, hR1⟩ | ⟨rfl, hR1⟩
  · have hle1 := hR1.le
    go_wp2_with fail
    refine (hE R K (a + 1) false _ 3 hR1 (by omega) (by omega) (by omega)).mono ?_
    rintro e w2 ⟨⟨o, n, d, m, s, A, c, l⟩, rfl, hx, a2, b2, ha2, hb2, hR2, hk2⟩
    have r2 := (hk2.block w.heap.size (by omega) (fun e => by injection e with e; omega)).trans r1
    have hz2 := hk2.size
    have hx2 : ExOk (fun g => w.heap.size + 1 ≤ g) w2 (.mk o n d m s A c l) := hx.imp fun g hg _ => by omega
    clear r1 hx
    dsimp only [Ex.agg]
    have hnew := ex_box (P := fun g => w.heap.size + 1 ≤ g) (W := w2) (xs := [.mk o n d m s A c l]) (o := 5) (by omega) (by omega) (fun x hx => by rw [List.mem_singleton.1 hx]; exact hx2)
    have r3 := (Below.heap_alloc w2 (.cells (flat Ex.cells [.mk o n d m s A c l]).toArray 120) w.heap.size (by omega)).trans r2
    go_wp2_with (refine wpList_store_row (by rfl) 120 (.tmp 4) (.tmp 45) (by rfl) w.heap.size _ _ (Ex.cells (.mk 5 0 0 0 ⟨#[]⟩ (some ⟨w2.heap.size, 0, none⟩) 1 [.mk o n d m s A c l])) (by rfl) (by rfl) r3 (by rfl) (by kernel_rfl) (ex_one _) ?_; intro W' hw' hg' hs')
    obtain ⟨y0, y1, y2, y3, y4, y5⟩ := ex_row hw'
    exact bodyPost_ret (v := Ex.agg (.mk 5 0 0 0 ⟨#[]⟩ (some ⟨w2.heap.size, 0, none⟩) 1 [.mk o n d m s A c l])) (by simp [results, Tryz.f60, go_sem, y0, y1, y2, y3, y4, y5, Ex.agg]) rfl
      ⟨_, rfl, (hnew.own hg' (by omega)).imp (fun g hg _ => by omega), a2, b2, by omega, (fun h => by cases h), (hR2.alloc _).own hg' hlt, ((hkk1.trans hk2).trans (Kp.alloc _ _ _)).own hg' (Nat.le_refl _)⟩
  · go_wp2_with fail
    refine (hE R K a false _ 4 hR1 (by omega) (by omega) (by omega)).mono ?_
    rintro e w2 ⟨⟨o, n, d, m, s, A, c, l⟩, rfl, hx, a2, b2, ha2, hb2, hR2, hk2⟩
    have r2 := (hk2.block w.heap.size (by omega) (fun e => by injection e with e; omega)).trans r1
    have hz2 := hk2.size
    clear r1
    dsimp only [Ex.agg]
    go_wp2_with (refine wpList_store_row (by rfl) 120 (.tmp 4) (.tmp 47) (by rfl) w.heap.size _ _ (Ex.cells (.mk o n d m s A c l)) (by rfl) (by rfl) r2 (by rfl) (by kernel_rfl) (ex_one _) ?_; intro W' hw' hg' hs')
    obtain ⟨y0, y1, y2, y3, y4, y5⟩ := ex_row hw'
    exact bodyPost_ret (v := Ex.agg (.mk o n d m s A c l)) (by simp [results, Tryz.f60, go_sem, y0, y1, y2, y3, y4, y5, Ex.agg]) rfl
      ⟨_, rfl, (hx.own hg' (by omega)).imp (fun g hg _ => by omega), a2, b2, ha2, hb2, hR2.own hg' hlt, (hkk1.trans hk2).own hg' (Nat.le_refl _)⟩
end Go.Proofs.YtghmmcdeejhcjaaGreat
