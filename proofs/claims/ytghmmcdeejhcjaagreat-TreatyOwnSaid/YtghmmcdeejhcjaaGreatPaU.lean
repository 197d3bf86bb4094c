/- The reader's clause, walked. -/
import Derived.Test.YtghmmcdeejhcjaaGreatQe
namespace Go.Proofs.YtghmmcdeejhcjaaGreat
open Go.RowKit

theorem fr_one (n d : Int) : ∀ v ∈ [Value.int .i64 n, Value.int .i64 d], v.oneCell' = true := by
  intro v hv
  simp only [List.mem_cons, List.not_mem_nil, or_false] at hv
  rcases hv with rfl | rfl <;> rfl
theorem clause_end {w : World} {base R V : Nat} {K : RC} {a : Nat} {u : World} {a1 : Nat} {b1 : Bool} {C : Vc} (hRV : R < V) (hV : V < base) (hbw : base ≤ w.heap.size) (ha : a ≤ a1) (hb : b1 = false → a < a1) (hR : Rdr u R K a1 b1) (hS : VS u base V C) (hl : VL C a1) (hB : KB base R V w u) (s : ByteArray) :
    Calls Tryz.prog 21 #[.pointer (some ⟨R, 0, none⟩), .string s] u (RetC R base V K a w) := by
  refine (want_any hR s).mono ?_
  rintro e w2 ⟨rfl, a2, b2, ha2, hb2, hR2, hk2⟩
  refine ⟨rfl, a2, b2, C, Nat.le_trans ha ha2, fun h => ?_, hR2, hS.kp hk2 hRV hV, hl.mono ha2, hB.trans (KB.kp hk2 (Nat.le_trans hbw hB.size))⟩
  cases b1 with
  | false => exact Nat.lt_of_lt_of_le (hb rfl) ha2
  | true => rw [hb2 rfl] at h; cases h
set_option maxRecDepth 100000 in
set_option maxHeartbeats 8000000 in
theorem clause_any {R base V : Nat} {K : RC} {a : Nat} {w : World} {C : Vc} (h : Rdr w R K a false) (hS : VS w base V C) (hl : VL C a) (hRV : R < V) (hVb : V < base) (hbw : base ≤ w.heap.size) : Calls Tryz.prog 42 #[.pointer (some ⟨R, 0, none⟩), .pointer (some ⟨V, 0, none⟩)] w (RetC R base V K a w) := by
  have hle := h.le
  have hL := h.len
  go_enter Tryz.func42, Tryz.ntmps42
  go_wp2_with fail
  refine (take_any h _).mono ?_
  rintro e w1 ⟨v, rfl, hv, hk1⟩
  have hS1 := hS.kp hk1 hRV hVb
  have hB1 : KB base R V w w1 := KB.kp hk1 hbw
  clear hS hk1 h
  rcases hv with ⟨rfl, -, hR1⟩ | ⟨rfl, hR1⟩
  · go_wp2_with fail
    refine (of_any hR1 (.inl rfl)).mono ?_
    rintro e w2 ⟨r, rfl, -, -, a2, b2, ha2, -, hR2, hk2⟩
    have hS2 := hS1.kp hk2 hRV hVb
    have hB2 := hB1.trans (KB.kp hk2 (Nat.le_trans hbw hB1.size))
    go_upto_region 3 with (fail)
    obtain ⟨U, hU⟩ : ∃ U, U = w2.alloc (.cells #[.int .i64 r, .int .i64 0] 115) := ⟨_, rfl⟩
    have hX0 : R < w2.heap.size := hR2.lt
    have hQU : CQ w base R V C w2.heap.size #[.int .i64 r, .int .i64 0] 115 U := by rw [hU]; exact CQ.new hS2 hB2 hbw hRV hVb _ _
    have hRU : Rdr U R K a2 b2 := by rw [hU]; exact hR2.alloc _
    rw [← hU]
    clear hU hR2 hS2 hB2 hk2 hR1 hS1 hB1
    generalize w2.heap.size = X at *
    go_wp2_with fail
    refine (take_any hRU _).mono ?_
    rintro e w3 ⟨v, rfl, hv, hk3⟩
    have hQ3 := hQU.kp hbw hRV hVb hk3
    rcases hv with ⟨rfl, -, hR3⟩ | ⟨rfl, hR3⟩
    · go_wp2_with fail
      refine (rwhole_any hR3 1 73049 (by omega) (by omega)).mono ?_
      rintro e w4 ⟨m, rfl, -, -, a4, b4, ha4, -, hR4, hk4⟩
      have hQ4 := hQ3.kp hbw hRV hVb hk4
      have z1 := frozen_of_row _ X 1 _ _ hQ4.row
      have y1 : w4.cell? ⟨X, 1, none⟩ = some (.int .i64 0) := by rw [cell_of_row _ _ _ _ _ _ hQ4.row]; rfl
      go_upto_region 5 with (fail)
      obtain ⟨W, hW⟩ : ∃ W, W = w4.setCell ⟨X, 1, none⟩ (.int .i64 m) := ⟨_, rfl⟩
      have hQ5 : CQ w base R V C X #[.int .i64 r, .int .i64 m] 115 W := by rw [hW]; exact hQ4.set (by decide) hbw hVb 1 _
      have hR5 : Rdr W R K a4 b4 := by rw [hW]; exact hQ4.rdr hRV hVb hR4 (Kp.set _ 1 _)
      rw [← hW]
      clear hW hQU hQ3 hQ4 hRU hR3 hR4 z1 y1 hk3 hk4
      obtain ⟨i0, hi0, hz0, hz1, hz2⟩ := info_parts info_vcr
      obtain ⟨s3, s4, s5, s6, s7⟩ := vs_row hQ5.vs
      have y0 : W.cell? ⟨X, 0, none⟩ = some (.int .i64 r) := by rw [cell_of_row _ _ _ _ _ _ hQ5.row]; rfl
      have y1 : W.cell? ⟨X, 1, none⟩ = some (.int .i64 m) := by rw [cell_of_row _ _ _ _ _ _ hQ5.row]; rfl
      have hz5 := hQ5.kb.size
      have hRA := hR5.alloc (.cells #[.int .i64 r, .int .i64 m] 115)
      have hSA := hQ5.vs.kp (Kp.alloc R _ (.cells #[.int .i64 r, .int .i64 m] 115)) hRV hVb
      have hbA : base ≤ (W.alloc (.cells #[.int .i64 r, .int .i64 m] 115)).heap.size := by simp; omega
      have hl5 := hl.cr
      go_wp2_with (at_builtin; go_loud (refine wpList_append_rd (by rfl) (.tmp 35) (.tmp 37) 72 (by rfl) base 115 i0 _ 2 16 Tryz.underlying72 hi0 hz0 hz1 hz2 rfl (by omega) (.slice C.cr.A C.cr.l.length C.cr.c) C.cr.l.length (flat VCr.cells C.cr.l) (by rfl) hSA.rows.cr.1 (W.heap.size + 1) (some ⟨W.heap.size, 0, none⟩) 1 1 (VCr.cells ⟨r, m⟩) (by rfl) (Rd.built (cs := (VCr.cells ⟨r, m⟩).toArray) (heap_alloc_new W _) (by omega) rfl) (vcr_one _) (by unfold maxLen; omega) (by omega) hbA ?_); intro vq wq hown4 hg4 hat4; obtain ⟨Aq, cq, rfl, _, _, _⟩ := own_form hown4; have rV := (hg4.block V (by omega) (fun e => by have := hSA.rows.cr.1.lt V e.symm; omega)).trans hSA.row; have z4 := frozen_of_row wq V 3 _ _ rV; have q4 := cell_of_row wq V 3 _ _ _ rV)
      obtain ⟨C', hS', hl', hR', hB'⟩ := put_vcr (x := ⟨r, m⟩) hSA hRA hRV hVb hbA rfl hown4 hg4 trivial (hl.mono (by omega)) (by omega)
      refine (clause_end (a := a) hRV hVb hbw (by omega) (fun _ => by omega) hR' hS' hl' ((hQ5.kb.trans (KB.kp (Kp.alloc R W _) (Nat.le_trans hbw hQ5.kb.size))).trans hB') _).mono ?_
      rintro e w9 ⟨rfl, hrest⟩
      go_wp2_with fail
      go_end0
      exact ⟨rfl, hrest⟩
    · clear hQU hRU hk3
      obtain ⟨i0, hi0, hz0, hz1, hz2⟩ := info_parts info_vcr
      obtain ⟨s3, s4, s5, s6, s7⟩ := vs_row hQ3.vs
      have y0 : w3.cell? ⟨X, 0, none⟩ = some (.int .i64 r) := by rw [cell_of_row _ _ _ _ _ _ hQ3.row]; rfl
      have y1 : w3.cell? ⟨X, 1, none⟩ = some (.int .i64 0) := by rw [cell_of_row _ _ _ _ _ _ hQ3.row]; rfl
      have hz5 := hQ3.kb.size
      have hRA := hR3.alloc (.cells #[.int .i64 r, .int .i64 0] 115)
      have hSA := hQ3.vs.kp (Kp.alloc R _ (.cells #[.int .i64 r, .int .i64 0] 115)) hRV hVb
      have hbA : base ≤ (w3.alloc (.cells #[.int .i64 r, .int .i64 0] 115)).heap.size := by simp; omega
      have hl5 := hl.cr
      go_wp2_with (at_builtin; go_loud (refine wpList_append_rd (by rfl) (.tmp 35) (.tmp 37) 72 (by rfl) base 115 i0 _ 2 16 Tryz.underlying72 hi0 hz0 hz1 hz2 rfl (by omega) (.slice C.cr.A C.cr.l.length C.cr.c) C.cr.l.length (flat VCr.cells C.cr.l) (by rfl) hSA.rows.cr.1 (w3.heap.size + 1) (some ⟨w3.heap.size, 0, none⟩) 1 1 (VCr.cells ⟨r, 0⟩) (by rfl) (Rd.built (cs := (VCr.cells ⟨r, 0⟩).toArray) (heap_alloc_new w3 _) (by omega) rfl) (vcr_one _) (by unfold maxLen; omega) (by omega) hbA ?_); intro vq wq hown4 hg4 hat4; obtain ⟨Aq, cq, rfl, _, _, _⟩ := own_form hown4; have rV := (hg4.block V (by omega) (fun e => by have := hSA.rows.cr.1.lt V e.symm; omega)).trans hSA.row; have z4 := frozen_of_row wq V 3 _ _ rV; have q4 := cell_of_row wq V 3 _ _ _ rV)
      obtain ⟨C', hS', hl', hR', hB'⟩ := put_vcr (x := ⟨r, 0⟩) hSA hRA hRV hVb hbA rfl hown4 hg4 trivial (hl.mono (by omega)) (by omega)
      refine (clause_end (a := a) hRV hVb hbw (by omega) (fun _ => by omega) hR' hS' hl' ((hQ3.kb.trans (KB.kp (Kp.alloc R w3 _) (Nat.le_trans hbw hQ3.kb.size))).trans hB') _).mono ?_
      rintro e w9 ⟨rfl, hrest⟩
      go_wp2_with fail
      go_end0
      exact ⟨rfl, hrest⟩
  go_wp2_with fail
  refine (take_any hR1 _).mono ?_
  rintro e w2 ⟨v, rfl, hv, hk2⟩
  have hS2 := hS1.kp hk2 hRV hVb
  have hB2 := hB1.trans (KB.kp hk2 (Nat.le_trans hbw hB1.size))
  clear hR1 hS1 hB1 hk2
  have hS1 := hS2
  have hB1 := hB2
  clear hS2 hB2
  rcases hv with ⟨rfl, -, hR1⟩ | ⟨rfl, hR1⟩
  · go_wp2_with fail
    refine (rwhole_any hR1 1900 2099 (by omega) (by omega)).mono ?_
    rintro e w2 ⟨y, rfl, -, -, a2, b2, ha2, -, hR2, hk2⟩
    have hS2 := hS1.kp hk2 hRV hVb
    have hB2 := hB1.trans (KB.kp hk2 (Nat.le_trans hbw hB1.size))
    go_upto_region 9 with (fail)
    obtain ⟨U, hU⟩ : ∃ U, U = w2.alloc (.cells #[.int .i64 y, .int .i64 0, .int .i64 0] 117) := ⟨_, rfl⟩
    have hX0 : R < w2.heap.size := hR2.lt
    have hQU : CQ w base R V C w2.heap.size #[.int .i64 y, .int .i64 0, .int .i64 0] 117 U := by rw [hU]; exact CQ.new hS2 hB2 hbw hRV hVb _ _
    have hRU : Rdr U R K a2 b2 := by rw [hU]; exact hR2.alloc _
    rw [← hU]
    clear hU hR2 hS2 hB2 hk2 hR1 hS1 hB1
    generalize w2.heap.size = X at *
    obtain ⟨kv, hkv⟩ : ∃ v, kdB K a2 b2 2 = v := ⟨_, rfl⟩
    have HV := Lib.hid hkv
    clear hkv
    go_wp2_with fail
    refine (kind_fn hRU HV.out).mono ?_
    rintro e w3 ⟨rfl, q1, rfl⟩
    obtain ⟨W, hW⟩ : ∃ W, W = U.drewN q1 := ⟨_, rfl⟩
    have hR3 : Rdr W R K a2 b2 := by rw [hW]; exact hRU.to (below_N _ _)
    have hQ3 : CQ w base R V C X #[.int .i64 y, .int .i64 0, .int .i64 0] 117 W := by rw [hW]; exact hQU.kp hbw hRV hVb (Kp.of (below_N _ _))
    rw [← hW]
    clear hW hQU hRU
    go_upto_if 48 with (fail)
    go_cut [7, 8, 9] from 48 to 80 (fun _ _ _ wx => ∃ (a' : Nat) (b' : Bool) (n d : Int), a2 ≤ a' ∧ FrOk n d ∧ Rdr wx R K a' b' ∧ CQ w base R V C X #[.int .i64 y, .int .i64 n, .int .i64 d] 117 wx)
    case first =>
      cases kv
      · go_wp2_with fail
        go_meet
        exact ⟨a2, b2, 0, 0, Nat.le_refl _, ⟨by omega, by omega, by omega, by omega⟩, hR3, hQ3⟩
      · obtain ⟨rfl, x, hx, hx1⟩ := kdB_true HV.out
        have hal := (List.getElem?_eq_some_iff.1 hx).1
        have hxo := (hR3.ok x (List.mem_of_getElem? hx)).1
        have c0 : W.cell? ⟨R, 0, none⟩ = some (.slice K.A K.L.length K.c) := by rw [cell_of_row _ _ _ _ _ _ hR3.row]; rfl
        have c1 : W.cell? ⟨R, 1, none⟩ = some (.int .i64 (a2 : Int)) := by rw [cell_of_row _ _ _ _ _ _ hR3.row]; rfl
        obtain ⟨_, g, o, hA, hgR, hc⟩ := hR3.toks.elem tk_len hx (by omega)
        have e1 : W.cell? ⟨g, o + a2 * 3 + 1, none⟩ = some (.string x.t) := hc 1 _ rfl
        have hlo : (0 : Int) ≤ (a2 : Int) := by omega
        have hhi : (a2 : Int) < (K.L.length : Int) := by omega
        have hRW := hR3.lt
        have hgW : g < W.heap.size := by omega
        rw [hA] at c0
        clear hx hx1 hc
        have HA := Lib.hid hA
        clear hA
        have c0A := (World.cell?_alloc_lt W (.cells #[.int .i64 0, .int .i64 0] 38) ⟨R, 0, none⟩ hRW).trans c0
        have c1A := (World.cell?_alloc_lt W (.cells #[.int .i64 0, .int .i64 0] 38) ⟨R, 1, none⟩ hRW).trans c1
        have e1A := (World.cell?_alloc_lt W (.cells #[.int .i64 0, .int .i64 0] 38) ⟨g, o + a2 * 3 + 1, none⟩ hgW).trans e1
        have hn1 : R ≠ W.heap.size := by omega
        have hn2 : g ≠ W.heap.size := by omega
        have hn3 : ¬ W.heap.size = R := by omega
        have hn4 : ¬ W.heap.size = g := by omega
        go_upto_region 10 with (fail)
        go_cut [7, 8, 9] from 49 to 64 (fun v d k wx => ∃ (dim : Int) (ok : Bool), d = .int .i64 dim ∧ k = .bool ok ∧ FrIn W v wx)
        case first =>
         go_region_held3 (fun w' => w'.cell? ⟨R, 0, none⟩ = some (.slice (some ⟨g, o, none⟩) K.L.length K.c) ∧ w'.cell? ⟨R, 1, none⟩ = some (.int .i64 (a2 : Int)) ∧ w'.cell? ⟨g, o + a2 * 3 + 1, none⟩ = some (.string x.t)) (go_keep)
          (first
            | (go_at_call 38; ((with_reducible refine (decimal_any x.t hxo W.drew).mono ?_)); rintro e w2 ⟨nn, dd, dim, ok, rfl, hf, hd0, hd4, hb2⟩
               have k0 := (hb2.cell (p := ⟨R, 0, none⟩) (by simp <;> omega)).trans c0
               have k1 := (hb2.cell (p := ⟨R, 1, none⟩) (by simp <;> omega)).trans c1
               have k2 := (hb2.cell (p := ⟨g, o + a2 * 3 + 1, none⟩) (by simp <;> omega)).trans e1
               have hbW := (Below.refl W.heap.size W).drew.trans hb2)
            | (go_at_call 38; ((with_reducible refine (decimal_any x.t hxo (W.alloc (.cells #[.int .i64 0, .int .i64 0] 38)).drew).mono ?_)); rintro e w2 ⟨nn, dd, dim, ok, rfl, hf, hd0, hd4, hb2⟩
               have k0 := (hb2.cell (p := ⟨R, 0, none⟩) (by simp <;> omega)).trans c0A
               have k1 := (hb2.cell (p := ⟨R, 1, none⟩) (by simp <;> omega)).trans c1A
               have k2 := (hb2.cell (p := ⟨g, o + a2 * 3 + 1, none⟩) (by simp <;> omega)).trans e1A
               have hbW := ((Below.refl W.heap.size W).alloc (Nat.le_refl _) (.cells #[.int .i64 0, .int .i64 0] 38)).drew.trans (hb2.mono (by simp))
               have hrw := (hb2.block W.heap.size (by simp)).trans (heap_alloc_new W (.cells #[.int .i64 0, .int .i64 0] 38))
               have m0 : w2.cell? ⟨W.heap.size, 0, none⟩ = some (.int .i64 0) := by rw [cell_of_row _ _ _ _ _ _ hrw]; rfl
               have m1 : w2.cell? ⟨W.heap.size, 1, none⟩ = some (.int .i64 0) := by rw [cell_of_row _ _ _ _ _ _ hrw]; rfl
               have z0 := frozen_of_row w2 W.heap.size 0 _ _ hrw
               have z1 := frozen_of_row w2 W.heap.size 1 _ _ hrw))
         all_goals (go_wp2_with fail; go_meet)
         · exact ⟨_, _, rfl, rfl, frIn_new hf hbW _⟩
         · exact ⟨_, _, rfl, rfl, frIn_old hf hbW hrw⟩
        case rest =>
         obtain ⟨dim, ok, rfl, rfl, Pb, nn, dd, rfl, hPb, p0, p1, hf, hbx⟩ := hcut
         have hR4 := hR3.to hbx
         have hQ4 := hQ3.kp hbw hRV hVb (Kp.of hbx)
         have hXW : X < W.heap.size := (Array.getElem?_eq_some_iff.1 hQ3.row).1
         have HF := Lib.hid hf
         clear c0 c1 e1 c0A c1A e1A hf hbx hR3 hQ3
         have hne : R ≠ Pb := by omega
         have hneX : X ≠ Pb := by omega
         by_cases g1 : dim = 2
         · have d1 : (dim == 2) = true := beq_iff_eq.2 g1
           clear g1
           by_cases g3 : 0 < nn
           · have d3 : decide (0 < nn) = true := decide_eq_true g3
             go_upto_region 13 with (refine wpList_store_sub (by rfl) 38 (.tmp 73) (.tmp 72) (by rfl) X 1 _ _ [.int .i64 nn, .int .i64 dd] (by rfl) (by rfl) hQ4.row (by simp) (by kernel_rfl) (fr_one _ _) ?_; intro w5 hw hg hs)
             have hQ5 : CQ w base R V C X #[.int .i64 y, .int .i64 nn, .int .i64 dd] 117 w5 := hQ4.own (by decide) hbw hVb hg hw
             have hR5 := hQ4.rdr hRV hVb hR4 hg
             have q1' : w5.cell? ⟨R, 1, none⟩ = some (.int .i64 (a2 : Int)) := by rw [cell_of_row _ _ _ _ _ _ hR5.row]; rfl
             have z1' := frozen_of_row w5 R 1 _ _ hR5.row
             clear hQ4 hR4 hw hg hs
             go_wp2_with fail
             go_meet
             exact ⟨a2 + 1, false, nn, dd, Nat.le_succ _, HF.out, hR5.set 1 (.int .i64 ((a2 : Int) + 1)) (by simp) hal, hQ5.kp hbw hRV hVb (Kp.set w5 1 _)⟩
           · have d3 : decide (0 < nn) = false := decide_eq_false g3
             go_wp2_with fail
             go_meet
             exact ⟨a2, false, 0, 0, Nat.le_refl _, ⟨by omega, by omega, by omega, by omega⟩, hR4, hQ4⟩
         · have d1 : (dim == 2) = false := beq_eq_false_iff_ne.2 g1
           clear g1
           go_wp2_with fail
           go_meet
           exact ⟨a2, false, 0, 0, Nat.le_refl _, ⟨by omega, by omega, by omega, by omega⟩, hR4, hQ4⟩
    case rest =>
      obtain ⟨a5, b5, n, d, ha5, hf, hR5, hQ5⟩ := hcut
      clear hR3 hQ3
      have y2 : wc.cell? ⟨X, 2, none⟩ = some (.int .i64 d) := by rw [cell_of_row _ _ _ _ _ _ hQ5.row]; rfl
      by_cases hd : d = 0
      · have dz : (d == 0) = true := beq_iff_eq.2 hd
        have HD := Lib.hid hd
        clear hd
        go_wp2_with fail
        refine (stop_any hR5).mono ?_
        rintro e w6 ⟨rfl, hR6, hk6⟩
        have hQ6 := hQ5.kp hbw hRV hVb hk6
        clear y2 dz hR5 hQ5
        obtain ⟨i0, hi0, hz0, hz1, hz2⟩ := info_parts info_vix
        obtain ⟨s3, s4, s5, s6, s7⟩ := vs_row hQ6.vs
        have y0 : w6.cell? ⟨X, 0, none⟩ = some (.int .i64 y) := by rw [cell_of_row _ _ _ _ _ _ hQ6.row]; rfl
        have y1 : w6.cell? ⟨X, 1, none⟩ = some (.int .i64 n) := by rw [cell_of_row _ _ _ _ _ _ hQ6.row]; rfl
        have y2 : w6.cell? ⟨X, 2, none⟩ = some (.int .i64 d) := by rw [cell_of_row _ _ _ _ _ _ hQ6.row]; rfl
        have hz5 := hQ6.kb.size
        have hRA := hR6.alloc (.cells #[.int .i64 y, .int .i64 n, .int .i64 d] 117)
        have hSA := hQ6.vs.kp (Kp.alloc R _ (.cells #[.int .i64 y, .int .i64 n, .int .i64 d] 117)) hRV hVb
        have hbA : base ≤ (w6.alloc (.cells #[.int .i64 y, .int .i64 n, .int .i64 d] 117)).heap.size := by simp; omega
        have hl5 := hl.ix
        go_wp2_with (at_builtin; go_loud (refine wpList_append_rd (by rfl) (.tmp 92) (.tmp 94) 73 (by rfl) base 117 i0 _ 3 24 Tryz.underlying73 hi0 hz0 hz1 hz2 rfl (by omega) (.slice C.ix.A C.ix.l.length C.ix.c) C.ix.l.length (flat VIx.cells C.ix.l) (by rfl) hSA.rows.ix.1 (w6.heap.size + 1) (some ⟨w6.heap.size, 0, none⟩) 1 1 (VIx.cells ⟨y, n, d⟩) (by rfl) (Rd.built (cs := (VIx.cells ⟨y, n, d⟩).toArray) (heap_alloc_new w6 _) (by omega) rfl) (vix_one _) (by unfold maxLen; omega) (by omega) hbA ?_); intro vq wq hown4 hg4 hat4; obtain ⟨Aq, cq, rfl, _, _, _⟩ := own_form hown4; have rV := (hg4.block V (by omega) (fun e => by have := hSA.rows.ix.1.lt V e.symm; omega)).trans hSA.row; have z4 := frozen_of_row wq V 4 _ _ rV; have q4 := cell_of_row wq V 4 _ _ _ rV)
        obtain ⟨C', hS', hl', hR', hB'⟩ := put_vix (x := ⟨y, n, d⟩) hSA hRA hRV hVb hbA rfl hown4 hg4 hf (hl.mono (by omega)) (by omega)
        refine (clause_end (a := a) hRV hVb hbw (by omega) (fun _ => by omega) hR' hS' hl' ((hQ6.kb.trans (KB.kp (Kp.alloc R w6 _) (Nat.le_trans hbw hQ6.kb.size))).trans hB') _).mono ?_
        rintro e w9 ⟨rfl, hrest⟩
        go_wp2_with fail
        go_end0
        exact ⟨rfl, hrest⟩
      · have dz : (d == 0) = false := beq_eq_false_iff_ne.2 hd
        clear hd
        obtain ⟨i0, hi0, hz0, hz1, hz2⟩ := info_parts info_vix
        obtain ⟨s3, s4, s5, s6, s7⟩ := vs_row hQ5.vs
        have y0 : wc.cell? ⟨X, 0, none⟩ = some (.int .i64 y) := by rw [cell_of_row _ _ _ _ _ _ hQ5.row]; rfl
        have y1 : wc.cell? ⟨X, 1, none⟩ = some (.int .i64 n) := by rw [cell_of_row _ _ _ _ _ _ hQ5.row]; rfl
        have y2 : wc.cell? ⟨X, 2, none⟩ = some (.int .i64 d) := by rw [cell_of_row _ _ _ _ _ _ hQ5.row]; rfl
        have hz5 := hQ5.kb.size
        have hRA := hR5.alloc (.cells #[.int .i64 y, .int .i64 n, .int .i64 d] 117)
        have hSA := hQ5.vs.kp (Kp.alloc R _ (.cells #[.int .i64 y, .int .i64 n, .int .i64 d] 117)) hRV hVb
        have hbA : base ≤ (wc.alloc (.cells #[.int .i64 y, .int .i64 n, .int .i64 d] 117)).heap.size := by simp; omega
        have hl5 := hl.ix
        go_wp2_with (at_builtin; go_loud (refine wpList_append_rd (by rfl) (.tmp 92) (.tmp 94) 73 (by rfl) base 117 i0 _ 3 24 Tryz.underlying73 hi0 hz0 hz1 hz2 rfl (by omega) (.slice C.ix.A C.ix.l.length C.ix.c) C.ix.l.length (flat VIx.cells C.ix.l) (by rfl) hSA.rows.ix.1 (wc.heap.size + 1) (some ⟨wc.heap.size, 0, none⟩) 1 1 (VIx.cells ⟨y, n, d⟩) (by rfl) (Rd.built (cs := (VIx.cells ⟨y, n, d⟩).toArray) (heap_alloc_new wc _) (by omega) rfl) (vix_one _) (by unfold maxLen; omega) (by omega) hbA ?_); intro vq wq hown4 hg4 hat4; obtain ⟨Aq, cq, rfl, _, _, _⟩ := own_form hown4; have rV := (hg4.block V (by omega) (fun e => by have := hSA.rows.ix.1.lt V e.symm; omega)).trans hSA.row; have z4 := frozen_of_row wq V 4 _ _ rV; have q4 := cell_of_row wq V 4 _ _ _ rV)
        obtain ⟨C', hS', hl', hR', hB'⟩ := put_vix (x := ⟨y, n, d⟩) hSA hRA hRV hVb hbA rfl hown4 hg4 hf (hl.mono (by omega)) (by omega)
        refine (clause_end (a := a) hRV hVb hbw (by omega) (fun _ => by omega) hR' hS' hl' ((hQ5.kb.trans (KB.kp (Kp.alloc R wc _) (Nat.le_trans hbw hQ5.kb.size))).trans hB') _).mono ?_
        rintro e w9 ⟨rfl, hrest⟩
        go_wp2_with fail
        go_end0
        exact ⟨rfl, hrest⟩
  go_wp2_with fail
  refine (take_any hR1 _).mono ?_
  rintro e w2 ⟨v, rfl, hv, hk2⟩
  have hS2 := hS1.kp hk2 hRV hVb
  have hB2 := hB1.trans (KB.kp hk2 (Nat.le_trans hbw hB1.size))
  clear hR1 hS1 hB1 hk2
  have hS1 := hS2
  have hB1 := hB2
  clear hS2 hB2
  rcases hv with ⟨rfl, -, hR1⟩ | ⟨rfl, hR1⟩
  · go_wp2_with fail
    refine (name_any hR1).mono ?_
    rintro e w2 ⟨s, rfl, hs, a2, b2, ha2, -, hR2, hk2⟩
    have hS2 := hS1.kp hk2 hRV hVb
    have hB2 := hB1.trans (KB.kp hk2 (Nat.le_trans hbw hB1.size))
    go_upto_region 20 with (fail)
    obtain ⟨U, hU⟩ : ∃ U, U = w2.alloc (.cells #[.string s, .int .i64 0, .int .i64 0, .int .i64 0, .int .i64 0, .string ⟨#[]⟩, .slice none 0 0] 122) := ⟨_, rfl⟩
    have hX0 : R < w2.heap.size := hR2.lt
    have hQU : CQ w base R V C w2.heap.size #[.string s, .int .i64 0, .int .i64 0, .int .i64 0, .int .i64 0, .string ⟨#[]⟩, .slice none 0 0] 122 U := by rw [hU]; exact CQ.new hS2 hB2 hbw hRV hVb _ _
    have hRU : Rdr U R K a2 b2 := by rw [hU]; exact hR2.alloc _
    rw [← hU]
    clear hU hR2 hS2 hB2 hk2 hR1 hS1 hB1
    generalize w2.heap.size = X at *
    have hQ2 := hQU
    have hR2 := hRU
    clear hQU hRU
    go_wp2_with fail
    refine (want_any hR2 _).mono ?_
    rintro e w3 ⟨rfl, a3, b3, ha3, -, hR3, hk3⟩
    have hQ3 := hQ2.kp hbw hRV hVb hk3
    go_wp2_with fail
    refine (expr_any hR3 (n := 0) (by omega) (by omega)).mono ?_
    rintro e w4 ⟨⟨o4, n4, d4, m4, t4, A4, c4, l4⟩, rfl, hx, a4, b4, ha4, -, hR4, hk4⟩
    have hQ4 := hQ3.kp hbw hRV hVb hk4
    have hx4 : ExOk (fun g => base ≤ g) w4 (.mk o4 n4 d4 m4 t4 A4 c4 l4) := hx.imp fun g hg _ => Nat.le_trans (Nat.le_trans hbw hQ3.kb.size) hg
    clear hx
    dsimp only [Ex.agg]
    go_upto_region 22 with (refine wpList_store_sub (by rfl) 120 (.tmp 108) (.tmp 107) (by rfl) X 1 _ _ (Ex.cells (.mk o4 n4 d4 m4 t4 A4 c4 l4)) (by rfl) (by rfl) hQ4.row (by simp [Ex.cells]) (by kernel_rfl) (ex_one _) ?_; intro w5 hw hg hs)
    have hQ5 : CQ w base R V C X #[.string s, .int .i64 o4, .int .i64 n4, .int .i64 d4, .int .i64 m4, .string t4, .slice A4 l4.length c4] 122 w5 := hQ4.own (by decide) hbw hVb hg hw
    have hR5 := hQ4.rdr hRV hVb hR4 hg
    have hx4_5 := hx4.ne hQ4.row (by decide) hg
    clear hw hg hs hR4 hQ4 hk4 hR3 hQ3 hx4
    obtain ⟨i0, hi0, hz0, hz1, hz2⟩ := info_parts info_vle
    obtain ⟨s3, s4, s5, s6, s7⟩ := vs_row hQ5.vs
    have y0 : w5.cell? ⟨X, 0, none⟩ = some (.string s) := by rw [cell_of_row _ _ _ _ _ _ hQ5.row]; rfl
    have y1 : w5.cell? ⟨X, 1, none⟩ = some (.int .i64 o4) := by rw [cell_of_row _ _ _ _ _ _ hQ5.row]; rfl
    have y2 : w5.cell? ⟨X, 2, none⟩ = some (.int .i64 n4) := by rw [cell_of_row _ _ _ _ _ _ hQ5.row]; rfl
    have y3 : w5.cell? ⟨X, 3, none⟩ = some (.int .i64 d4) := by rw [cell_of_row _ _ _ _ _ _ hQ5.row]; rfl
    have y4 : w5.cell? ⟨X, 4, none⟩ = some (.int .i64 m4) := by rw [cell_of_row _ _ _ _ _ _ hQ5.row]; rfl
    have y5 : w5.cell? ⟨X, 5, none⟩ = some (.string t4) := by rw [cell_of_row _ _ _ _ _ _ hQ5.row]; rfl
    have y6 : w5.cell? ⟨X, 6, none⟩ = some (.slice A4 l4.length c4) := by rw [cell_of_row _ _ _ _ _ _ hQ5.row]; rfl
    have hz5 := hQ5.kb.size
    have hRA := hR5.alloc (.cells #[.string s, .int .i64 o4, .int .i64 n4, .int .i64 d4, .int .i64 m4, .string t4, .slice A4 l4.length c4] 122)
    have hSA := hQ5.vs.kp (Kp.alloc R _ (.cells #[.string s, .int .i64 o4, .int .i64 n4, .int .i64 d4, .int .i64 m4, .string t4, .slice A4 l4.length c4] 122)) hRV hVb
    have hbA : base ≤ (w5.alloc (.cells #[.string s, .int .i64 o4, .int .i64 n4, .int .i64 d4, .int .i64 m4, .string t4, .slice A4 l4.length c4] 122)).heap.size := by simp; omega
    have hl5 := hl.le
    go_wp2_with (at_builtin; go_loud (refine wpList_append_rd (by rfl) (.tmp 114) (.tmp 116) 74 (by rfl) base 122 i0 _ 7 88 Tryz.underlying74 hi0 hz0 hz1 hz2 rfl (by omega) (.slice C.le.A C.le.l.length C.le.c) C.le.l.length (flat VLe.cells C.le.l) (by rfl) hSA.rows.le.1 (w5.heap.size + 1) (some ⟨w5.heap.size, 0, none⟩) 1 1 (VLe.cells ⟨s, (.mk o4 n4 d4 m4 t4 A4 c4 l4)⟩) (by rfl) (Rd.built (cs := (VLe.cells ⟨s, (.mk o4 n4 d4 m4 t4 A4 c4 l4)⟩).toArray) (heap_alloc_new w5 _) (by omega) rfl) (vle_one _) (by unfold maxLen; omega) (by omega) hbA ?_); intro vq wq hown4 hg4 hat4; obtain ⟨Aq, cq, rfl, _, _, _⟩ := own_form hown4; have rV := (hg4.block V (by omega) (fun e => by have := hSA.rows.le.1.lt V e.symm; omega)).trans hSA.row; have z4 := frozen_of_row wq V 5 _ _ rV; have q4 := cell_of_row wq V 5 _ _ _ rV)
    obtain ⟨C', hS', hl', hR', hB'⟩ := put_vle (x := ⟨s, (.mk o4 n4 d4 m4 t4 A4 c4 l4)⟩) hSA hRA hRV hVb hbA rfl hown4 hg4 ⟨hs, hx4_5.bel ((Below.refl _ _).alloc (Nat.le_refl _) _)⟩ (hl.mono (by omega)) (by omega)
    refine (clause_end (a := a) hRV hVb hbw (by omega) (fun _ => by omega) hR' hS' hl' ((hQ5.kb.trans (KB.kp (Kp.alloc R w5 _) (Nat.le_trans hbw hQ5.kb.size))).trans hB') _).mono ?_
    rintro e w9 ⟨rfl, hrest⟩
    go_wp2_with fail
    go_end0
    exact ⟨rfl, hrest⟩
  go_wp2_with fail
  refine (take_any hR1 _).mono ?_
  rintro e w2 ⟨v, rfl, hv, hk2⟩
  have hS2 := hS1.kp hk2 hRV hVb
  have hB2 := hB1.trans (KB.kp hk2 (Nat.le_trans hbw hB1.size))
  clear hR1 hS1 hB1 hk2
  have hS1 := hS2
  have hB1 := hB2
  clear hS2 hB2
  rcases hv with ⟨rfl, -, hR1⟩ | ⟨rfl, hR1⟩
  · go_wp2_with fail
    refine (of_any hR1 (.inr (.inl rfl))).mono ?_
    rintro e w2 ⟨r, rfl, -, -, a2, b2, ha2, -, hR2, hk2⟩
    have hS2 := hS1.kp hk2 hRV hVb
    have hB2 := hB1.trans (KB.kp hk2 (Nat.le_trans hbw hB1.size))
    go_upto_region 26 with (fail)
    obtain ⟨U, hU⟩ : ∃ U, U = w2.alloc (.cells #[.int .i64 r, .int .i64 0, .int .i64 0, .int .i64 0, .int .i64 0, .string ⟨#[]⟩, .slice none 0 0, .int .i64 0, .int .i64 0, .int .i64 0, .int .i64 0, .string ⟨#[]⟩, .slice none 0 0] 125) := ⟨_, rfl⟩
    have hX0 : R < w2.heap.size := hR2.lt
    have hQU : CQ w base R V C w2.heap.size #[.int .i64 r, .int .i64 0, .int .i64 0, .int .i64 0, .int .i64 0, .string ⟨#[]⟩, .slice none 0 0, .int .i64 0, .int .i64 0, .int .i64 0, .int .i64 0, .string ⟨#[]⟩, .slice none 0 0] 125 U := by rw [hU]; exact CQ.new hS2 hB2 hbw hRV hVb _ _
    have hRU : Rdr U R K a2 b2 := by rw [hU]; exact hR2.alloc _
    rw [← hU]
    clear hU hR2 hS2 hB2 hk2 hR1 hS1 hB1
    generalize w2.heap.size = X at *
    have hQ2 := hQU
    have hR2 := hRU
    clear hQU hRU
    go_wp2_with fail
    refine (want_any hR2 _).mono ?_
    rintro e w3 ⟨rfl, a3, b3, ha3, -, hR3, hk3⟩
    have hQ3 := hQ2.kp hbw hRV hVb hk3
    go_wp2_with fail
    refine (expr_any hR3 (n := 0) (by omega) (by omega)).mono ?_
    rintro e w4 ⟨⟨o4, n4, d4, m4, t4, A4, c4, l4⟩, rfl, hx, a4, b4, ha4, -, hR4, hk4⟩
    have hQ4 := hQ3.kp hbw hRV hVb hk4
    have hx4 : ExOk (fun g => base ≤ g) w4 (.mk o4 n4 d4 m4 t4 A4 c4 l4) := hx.imp fun g hg _ => Nat.le_trans (Nat.le_trans hbw hQ3.kb.size) hg
    clear hx
    dsimp only [Ex.agg]
    go_upto_region 28 with (refine wpList_store_sub (by rfl) 120 (.tmp 130) (.tmp 129) (by rfl) X 1 _ _ (Ex.cells (.mk o4 n4 d4 m4 t4 A4 c4 l4)) (by rfl) (by rfl) hQ4.row (by simp [Ex.cells]) (by kernel_rfl) (ex_one _) ?_; intro w5 hw hg hs)
    have hQ5 : CQ w base R V C X #[.int .i64 r, .int .i64 o4, .int .i64 n4, .int .i64 d4, .int .i64 m4, .string t4, .slice A4 l4.length c4, .int .i64 0, .int .i64 0, .int .i64 0, .int .i64 0, .string ⟨#[]⟩, .slice none 0 0] 125 w5 := hQ4.own (by decide) hbw hVb hg hw
    have hR5 := hQ4.rdr hRV hVb hR4 hg
    have hx4_5 := hx4.ne hQ4.row (by decide) hg
    clear hw hg hs hR4 hQ4 hk4 hR3 hQ3 hx4
    go_wp2_with fail
    refine (want_any hR5 _).mono ?_
    rintro e w6 ⟨rfl, a6, b6, ha6, -, hR6, hk6⟩
    have hQ6 := hQ5.kp hbw hRV hVb hk6
    have hx4_6 := hx4_5.kp hk6 (by omega)
    have hx4 := hx4_6
    go_wp2_with fail
    refine (expr_any hR6 (n := 0) (by omega) (by omega)).mono ?_
    rintro e w7 ⟨⟨o7, n7, d7, m7, t7, A7, c7, l7⟩, rfl, hx, a7, b7, ha7, -, hR7, hk7⟩
    have hQ7 := hQ6.kp hbw hRV hVb hk7
    have hx7 : ExOk (fun g => base ≤ g) w7 (.mk o7 n7 d7 m7 t7 A7 c7 l7) := hx.imp fun g hg _ => Nat.le_trans (Nat.le_trans hbw hQ6.kb.size) hg
    have hx4' := hx4.kp hk7 (by omega)
    clear hx
    have hx4'0 := hx4'
    dsimp only [Ex.agg]
    go_upto_region 30 with (refine wpList_store_sub (by rfl) 120 (.tmp 135) (.tmp 134) (by rfl) X 7 _ _ (Ex.cells (.mk o7 n7 d7 m7 t7 A7 c7 l7)) (by rfl) (by rfl) hQ7.row (by simp [Ex.cells]) (by kernel_rfl) (ex_one _) ?_; intro w8 hw hg hs)
    have hQ8 : CQ w base R V C X #[.int .i64 r, .int .i64 o4, .int .i64 n4, .int .i64 d4, .int .i64 m4, .string t4, .slice A4 l4.length c4, .int .i64 o7, .int .i64 n7, .int .i64 d7, .int .i64 m7, .string t7, .slice A7 l7.length c7] 125 w8 := hQ7.own (by decide) hbw hVb hg hw
    have hR8 := hQ7.rdr hRV hVb hR7 hg
    have hx7_8 := hx7.ne hQ7.row (by decide) hg
    have hx4_8 := hx4'0.ne hQ7.row (by decide) hg
    clear hw hg hs hR7 hQ7 hk7 hR6 hQ6 hx7
    obtain ⟨i0, hi0, hz0, hz1, hz2⟩ := info_parts info_vgr
    obtain ⟨s3, s4, s5, s6, s7⟩ := vs_row hQ8.vs
    have y0 : w8.cell? ⟨X, 0, none⟩ = some (.int .i64 r) := by rw [cell_of_row _ _ _ _ _ _ hQ8.row]; rfl
    have y1 : w8.cell? ⟨X, 1, none⟩ = some (.int .i64 o4) := by rw [cell_of_row _ _ _ _ _ _ hQ8.row]; rfl
    have y2 : w8.cell? ⟨X, 2, none⟩ = some (.int .i64 n4) := by rw [cell_of_row _ _ _ _ _ _ hQ8.row]; rfl
    have y3 : w8.cell? ⟨X, 3, none⟩ = some (.int .i64 d4) := by rw [cell_of_row _ _ _ _ _ _ hQ8.row]; rfl
    have y4 : w8.cell? ⟨X, 4, none⟩ = some (.int .i64 m4) := by rw [cell_of_row _ _ _ _ _ _ hQ8.row]; rfl
    have y5 : w8.cell? ⟨X, 5, none⟩ = some (.string t4) := by rw [cell_of_row _ _ _ _ _ _ hQ8.row]; rfl
    have y6 : w8.cell? ⟨X, 6, none⟩ = some (.slice A4 l4.length c4) := by rw [cell_of_row _ _ _ _ _ _ hQ8.row]; rfl
    have y7 : w8.cell? ⟨X, 7, none⟩ = some (.int .i64 o7) := by rw [cell_of_row _ _ _ _ _ _ hQ8.row]; rfl
    have y8 : w8.cell? ⟨X, 8, none⟩ = some (.int .i64 n7) := by rw [cell_of_row _ _ _ _ _ _ hQ8.row]; rfl
    have y9 : w8.cell? ⟨X, 9, none⟩ = some (.int .i64 d7) := by rw [cell_of_row _ _ _ _ _ _ hQ8.row]; rfl
    have y10 : w8.cell? ⟨X, 10, none⟩ = some (.int .i64 m7) := by rw [cell_of_row _ _ _ _ _ _ hQ8.row]; rfl
    have y11 : w8.cell? ⟨X, 11, none⟩ = some (.string t7) := by rw [cell_of_row _ _ _ _ _ _ hQ8.row]; rfl
    have y12 : w8.cell? ⟨X, 12, none⟩ = some (.slice A7 l7.length c7) := by rw [cell_of_row _ _ _ _ _ _ hQ8.row]; rfl
    have hz5 := hQ8.kb.size
    have hRA := hR8.alloc (.cells #[.int .i64 r, .int .i64 o4, .int .i64 n4, .int .i64 d4, .int .i64 m4, .string t4, .slice A4 l4.length c4, .int .i64 o7, .int .i64 n7, .int .i64 d7, .int .i64 m7, .string t7, .slice A7 l7.length c7] 125)
    have hSA := hQ8.vs.kp (Kp.alloc R _ (.cells #[.int .i64 r, .int .i64 o4, .int .i64 n4, .int .i64 d4, .int .i64 m4, .string t4, .slice A4 l4.length c4, .int .i64 o7, .int .i64 n7, .int .i64 d7, .int .i64 m7, .string t7, .slice A7 l7.length c7] 125)) hRV hVb
    have hbA : base ≤ (w8.alloc (.cells #[.int .i64 r, .int .i64 o4, .int .i64 n4, .int .i64 d4, .int .i64 m4, .string t4, .slice A4 l4.length c4, .int .i64 o7, .int .i64 n7, .int .i64 d7, .int .i64 m7, .string t7, .slice A7 l7.length c7] 125)).heap.size := by simp; omega
    have hl5 := hl.gr
    go_wp2_with (at_builtin; go_loud (refine wpList_append_rd (by rfl) (.tmp 141) (.tmp 143) 75 (by rfl) base 125 i0 _ 13 152 Tryz.underlying75 hi0 hz0 hz1 hz2 rfl (by omega) (.slice C.gr.A C.gr.l.length C.gr.c) C.gr.l.length (flat VGr.cells C.gr.l) (by rfl) hSA.rows.gr.1 (w8.heap.size + 1) (some ⟨w8.heap.size, 0, none⟩) 1 1 (VGr.cells ⟨r, (.mk o4 n4 d4 m4 t4 A4 c4 l4), (.mk o7 n7 d7 m7 t7 A7 c7 l7)⟩) (by rfl) (Rd.built (cs := (VGr.cells ⟨r, (.mk o4 n4 d4 m4 t4 A4 c4 l4), (.mk o7 n7 d7 m7 t7 A7 c7 l7)⟩).toArray) (heap_alloc_new w8 _) (by omega) rfl) (vgr_one _) (by unfold maxLen; omega) (by omega) hbA ?_); intro vq wq hown4 hg4 hat4; obtain ⟨Aq, cq, rfl, _, _, _⟩ := own_form hown4; have rV := (hg4.block V (by omega) (fun e => by have := hSA.rows.gr.1.lt V e.symm; omega)).trans hSA.row; have z4 := frozen_of_row wq V 6 _ _ rV; have q4 := cell_of_row wq V 6 _ _ _ rV)
    obtain ⟨C', hS', hl', hR', hB'⟩ := put_vgr (x := ⟨r, (.mk o4 n4 d4 m4 t4 A4 c4 l4), (.mk o7 n7 d7 m7 t7 A7 c7 l7)⟩) hSA hRA hRV hVb hbA rfl hown4 hg4 ⟨hx4_8.bel ((Below.refl _ _).alloc (Nat.le_refl _) _), hx7_8.bel ((Below.refl _ _).alloc (Nat.le_refl _) _)⟩ (hl.mono (by omega)) (by omega)
    refine (clause_end (a := a) hRV hVb hbw (by omega) (fun _ => by omega) hR' hS' hl' ((hQ8.kb.trans (KB.kp (Kp.alloc R w8 _) (Nat.le_trans hbw hQ8.kb.size))).trans hB') _).mono ?_
    rintro e w9 ⟨rfl, hrest⟩
    go_wp2_with fail
    go_end0
    exact ⟨rfl, hrest⟩
  go_wp2_with fail
  refine (take_any hR1 _).mono ?_
  rintro e w2 ⟨v, rfl, hv, hk2⟩
  have hS2 := hS1.kp hk2 hRV hVb
  have hB2 := hB1.trans (KB.kp hk2 (Nat.le_trans hbw hB1.size))
  clear hR1 hS1 hB1 hk2
  have hS1 := hS2
  have hB1 := hB2
  clear hS2 hB2
  rcases hv with ⟨rfl, -, hR1⟩ | ⟨rfl, hR1⟩
  · go_wp2_with fail
    refine (of_any hR1 (.inr (.inl rfl))).mono ?_
    rintro e w2 ⟨r, rfl, -, -, a2, b2, ha2, -, hR2, hk2⟩
    have hS2 := hS1.kp hk2 hRV hVb
    have hB2 := hB1.trans (KB.kp hk2 (Nat.le_trans hbw hB1.size))
    go_upto_region 34 with (fail)
    obtain ⟨U, hU⟩ : ∃ U, U = w2.alloc (.cells #[.int .i64 r, .int .i64 0, .int .i64 0, .int .i64 0, .int .i64 0, .string ⟨#[]⟩, .slice none 0 0] 127) := ⟨_, rfl⟩
    have hX0 : R < w2.heap.size := hR2.lt
    have hQU : CQ w base R V C w2.heap.size #[.int .i64 r, .int .i64 0, .int .i64 0, .int .i64 0, .int .i64 0, .string ⟨#[]⟩, .slice none 0 0] 127 U := by rw [hU]; exact CQ.new hS2 hB2 hbw hRV hVb _ _
    have hRU : Rdr U R K a2 b2 := by rw [hU]; exact hR2.alloc _
    rw [← hU]
    clear hU hR2 hS2 hB2 hk2 hR1 hS1 hB1
    generalize w2.heap.size = X at *
    have hQ2 := hQU
    have hR2 := hRU
    clear hQU hRU
    go_wp2_with fail
    refine (want_any hR2 _).mono ?_
    rintro e w3 ⟨rfl, a3, b3, ha3, -, hR3, hk3⟩
    have hQ3 := hQ2.kp hbw hRV hVb hk3
    go_wp2_with fail
    refine (expr_any hR3 (n := 0) (by omega) (by omega)).mono ?_
    rintro e w4 ⟨⟨o4, n4, d4, m4, t4, A4, c4, l4⟩, rfl, hx, a4, b4, ha4, -, hR4, hk4⟩
    have hQ4 := hQ3.kp hbw hRV hVb hk4
    have hx4 : ExOk (fun g => base ≤ g) w4 (.mk o4 n4 d4 m4 t4 A4 c4 l4) := hx.imp fun g hg _ => Nat.le_trans (Nat.le_trans hbw hQ3.kb.size) hg
    clear hx
    dsimp only [Ex.agg]
    go_upto_region 36 with (refine wpList_store_sub (by rfl) 120 (.tmp 157) (.tmp 156) (by rfl) X 1 _ _ (Ex.cells (.mk o4 n4 d4 m4 t4 A4 c4 l4)) (by rfl) (by rfl) hQ4.row (by simp [Ex.cells]) (by kernel_rfl) (ex_one _) ?_; intro w5 hw hg hs)
    have hQ5 : CQ w base R V C X #[.int .i64 r, .int .i64 o4, .int .i64 n4, .int .i64 d4, .int .i64 m4, .string t4, .slice A4 l4.length c4] 127 w5 := hQ4.own (by decide) hbw hVb hg hw
    have hR5 := hQ4.rdr hRV hVb hR4 hg
    have hx4_5 := hx4.ne hQ4.row (by decide) hg
    clear hw hg hs hR4 hQ4 hk4 hR3 hQ3 hx4
    obtain ⟨i0, hi0, hz0, hz1, hz2⟩ := info_parts info_vre
    obtain ⟨s3, s4, s5, s6, s7⟩ := vs_row hQ5.vs
    have y0 : w5.cell? ⟨X, 0, none⟩ = some (.int .i64 r) := by rw [cell_of_row _ _ _ _ _ _ hQ5.row]; rfl
    have y1 : w5.cell? ⟨X, 1, none⟩ = some (.int .i64 o4) := by rw [cell_of_row _ _ _ _ _ _ hQ5.row]; rfl
    have y2 : w5.cell? ⟨X, 2, none⟩ = some (.int .i64 n4) := by rw [cell_of_row _ _ _ _ _ _ hQ5.row]; rfl
    have y3 : w5.cell? ⟨X, 3, none⟩ = some (.int .i64 d4) := by rw [cell_of_row _ _ _ _ _ _ hQ5.row]; rfl
    have y4 : w5.cell? ⟨X, 4, none⟩ = some (.int .i64 m4) := by rw [cell_of_row _ _ _ _ _ _ hQ5.row]; rfl
    have y5 : w5.cell? ⟨X, 5, none⟩ = some (.string t4) := by rw [cell_of_row _ _ _ _ _ _ hQ5.row]; rfl
    have y6 : w5.cell? ⟨X, 6, none⟩ = some (.slice A4 l4.length c4) := by rw [cell_of_row _ _ _ _ _ _ hQ5.row]; rfl
    have hz5 := hQ5.kb.size
    have hRA := hR5.alloc (.cells #[.int .i64 r, .int .i64 o4, .int .i64 n4, .int .i64 d4, .int .i64 m4, .string t4, .slice A4 l4.length c4] 127)
    have hSA := hQ5.vs.kp (Kp.alloc R _ (.cells #[.int .i64 r, .int .i64 o4, .int .i64 n4, .int .i64 d4, .int .i64 m4, .string t4, .slice A4 l4.length c4] 127)) hRV hVb
    have hbA : base ≤ (w5.alloc (.cells #[.int .i64 r, .int .i64 o4, .int .i64 n4, .int .i64 d4, .int .i64 m4, .string t4, .slice A4 l4.length c4] 127)).heap.size := by simp; omega
    have hl5 := hl.re
    go_wp2_with (at_builtin; go_loud (refine wpList_append_rd (by rfl) (.tmp 163) (.tmp 165) 76 (by rfl) base 127 i0 _ 7 80 Tryz.underlying76 hi0 hz0 hz1 hz2 rfl (by omega) (.slice C.re.A C.re.l.length C.re.c) C.re.l.length (flat VRe.cells C.re.l) (by rfl) hSA.rows.re.1 (w5.heap.size + 1) (some ⟨w5.heap.size, 0, none⟩) 1 1 (VRe.cells ⟨r, (.mk o4 n4 d4 m4 t4 A4 c4 l4)⟩) (by rfl) (Rd.built (cs := (VRe.cells ⟨r, (.mk o4 n4 d4 m4 t4 A4 c4 l4)⟩).toArray) (heap_alloc_new w5 _) (by omega) rfl) (vre_one _) (by unfold maxLen; omega) (by omega) hbA ?_); intro vq wq hown4 hg4 hat4; obtain ⟨Aq, cq, rfl, _, _, _⟩ := own_form hown4; have rV := (hg4.block V (by omega) (fun e => by have := hSA.rows.re.1.lt V e.symm; omega)).trans hSA.row; have z4 := frozen_of_row wq V 7 _ _ rV; have q4 := cell_of_row wq V 7 _ _ _ rV)
    obtain ⟨C', hS', hl', hR', hB'⟩ := put_vre (x := ⟨r, (.mk o4 n4 d4 m4 t4 A4 c4 l4)⟩) hSA hRA hRV hVb hbA rfl hown4 hg4 (hx4_5.bel ((Below.refl _ _).alloc (Nat.le_refl _) _)) (hl.mono (by omega)) (by omega)
    refine (clause_end (a := a) hRV hVb hbw (by omega) (fun _ => by omega) hR' hS' hl' ((hQ5.kb.trans (KB.kp (Kp.alloc R w5 _) (Nat.le_trans hbw hQ5.kb.size))).trans hB') _).mono ?_
    rintro e w9 ⟨rfl, hrest⟩
    go_wp2_with fail
    go_end0
    exact ⟨rfl, hrest⟩
  go_wp2_with fail
  refine (stop_any hR1).mono ?_
  rintro e w2 ⟨rfl, hR2, hk2⟩
  have hS2 := hS1.kp hk2 hRV hVb
  have hB2 := hB1.trans (KB.kp hk2 (Nat.le_trans hbw hB1.size))
  go_wp2_with fail
  refine (clause_end (a := a) hRV hVb hbw (Nat.le_refl _) (fun h => by cases h) hR2 hS2 hl hB2 _).mono ?_
  rintro e w9 ⟨rfl, hrest⟩
  go_wp2_with fail
  go_end0
  exact ⟨rfl, hrest⟩
end Go.Proofs.YtghmmcdeejhcjaaGreat
