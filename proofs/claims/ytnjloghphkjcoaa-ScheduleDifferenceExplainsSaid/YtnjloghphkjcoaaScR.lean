/- The statements' Rows: valid rows, small amounts. -/
import Derived.Test.YtnjloghphkjcoaaScB
namespace Go.Proofs.Ytnjloghphkjcoaa
open Go.RowKit

set_option maxHeartbeats 2000000 in
theorem amt_plain (n : Int) (hn : I64 n) (w : World) : Calls Try.prog 39 #[.int .i64 n] w (RetAm w) := by
  obtain ⟨hn0, hn1⟩ := hn
  have hb := mod_bd n 8 (by omega)
  obtain ⟨r, hr⟩ : ∃ r, n % 8 = r := ⟨_, rfl⟩
  rw [hr] at hb
  have HR := Lib.hid hr
  clear hr
  have hd0 : -9223372036854775808 ≤ n.tdiv 8 ∧ n.tdiv 8 ≤ 9223372036854775807 := by
    rcases Int.le_total 0 n with h | h
    · have h2 : n.tdiv 8 = n / 8 := Int.tdiv_eq_ediv_of_nonneg h
      omega
    · have h2 : (-n).tdiv 8 = (-n) / 8 := Int.tdiv_eq_ediv_of_nonneg (by omega)
      have h3 : (-n).tdiv 8 = -(n.tdiv 8) := Int.neg_tdiv ..
      omega
  obtain ⟨hd0, hd1⟩ := hd0
  have hc : (r == 0) = true ∨ ((r == 0) = false ∧ (r == 1) = true) ∨ ((r == 0) = false ∧ (r == 1) = false ∧ (r == 2) = true) ∨ ((r == 0) = false ∧ (r == 1) = false ∧ (r == 2) = false) := by
    by_cases h0 : r = 0
    · exact .inl (by simp [h0])
    · by_cases h1 : r = 1
      · exact .inr (.inl ⟨by simp [h0], by simp [h1]⟩)
      · by_cases h2 : r = 2
        · exact .inr (.inr (.inl ⟨by simp [h0], by simp [h1], by simp [h2]⟩))
        · exact .inr (.inr (.inr ⟨by simp [h0], by simp [h1], by simp [h2]⟩))
  rcases hc with t0 | ⟨t0, t1⟩ | ⟨t0, t1, t2⟩ | ⟨t0, t1, t2⟩
  · go_enter Try.func39, Try.ntmps39
    go_wp2_with fail
    refine (mod_any n 8 _ (by omega) (by omega)).mono ?_
    rintro e w' ⟨rfl, rfl⟩
    rw [HR.out]
    go_wp2_with fail
    go_ret
    exact ⟨0, rfl, by omega, by omega, rfl⟩
  all_goals
    go_enter Try.func39, Try.ntmps39
    go_wp2_with fail
    refine (mod_any n 8 _ (by omega) (by omega)).mono ?_
    rintro e w' ⟨rfl, rfl⟩
    rw [HR.out]
    go_wp2_with fail
  · have hb2 := mod_bd (n.tdiv 8) 1000 (by omega)
    refine (mod_any _ 1000 _ (by omega) (by omega)).mono ?_
    rintro e w' ⟨rfl, rfl⟩
    generalize n.tdiv 8 % 1000 = q at *
    go_wp2_with fail
    go_ret
    exact ⟨1000000000000 - q, rfl, by omega, by omega, rfl⟩
  · have hb2 := mod_bd (n.tdiv 8) 1000000000001 (by omega)
    refine (mod_any _ 1000000000001 _ (by omega) (by omega)).mono ?_
    rintro e w' ⟨rfl, rfl⟩
    generalize n.tdiv 8 % 1000000000001 = q at *
    go_wp2_with fail
    go_ret
    exact ⟨q, rfl, by omega, by omega, rfl⟩
  · have hb2 := mod_bd (n.tdiv 8) 5000 (by omega)
    refine (mod_any _ 5000 _ (by omega) (by omega)).mono ?_
    rintro e w' ⟨rfl, rfl⟩
    generalize n.tdiv 8 % 5000 = q at *
    go_wp2_with fail
    go_ret
    exact ⟨q, rfl, by omega, by omega, rfl⟩
/-- The cells of one raw row. -/
theorem raw_cells {w : World} {B n : Nat} {A : Option Addr} {xs : List Int} (h : Rd w B 3 A n (ints xs)) {k : Nat} (hk : k < n) :
    ∃ b o x g a, A = some ⟨b, o, none⟩ ∧ b < B ∧ w.cell? ⟨b, o + k * 3, none⟩ = some (.int .i64 x) ∧ w.cell? ⟨b, o + k * 3 + 1, none⟩ = some (.int .i64 g) ∧ w.cell? ⟨b, o + k * 3 + 2, none⟩ = some (.int .i64 a) ∧ x ∈ xs ∧ g ∈ xs ∧ a ∈ xs := by
  obtain ⟨b, o, e, hb, hc⟩ := h.2 (by omega)
  have hl : xs.length = n * 3 := by have := h.1; rwa [ints_length] at this
  have hg : ∀ j, j < 3 → ∃ v, xs[k * 3 + j]? = some v := fun j hj => ⟨_, List.getElem?_eq_getElem (by omega)⟩
  obtain ⟨x, hx⟩ := hg 0 (by omega)
  obtain ⟨g, hg1⟩ := hg 1 (by omega)
  obtain ⟨a, ha⟩ := hg 2 (by omega)
  exact ⟨b, o, x, g, a, e, hb, by simpa using hc (k * 3 + 0) _ (by rw [ints_at, hx]; rfl), hc (k * 3 + 1) _ (by rw [ints_at, hg1]; rfl), hc (k * 3 + 2) _ (by rw [ints_at, ha]; rfl), List.mem_of_getElem? hx, List.mem_of_getElem? hg1, List.mem_of_getElem? ha⟩
/-- Valid rows with small amounts, in memory of the call's own. -/
def RetRows (w : World) (f : Int) (e : Ending) (w' : World) : Prop :=
  ∃ A c L, e = .returned (.slice A (List.length L) c) ∧ w'.ownsRow w.heap.size 31 6 (.slice A L.length c) L.length (flat Rw.cells L) ∧ vldB L = true ∧ AmtsIn L 999999999 ∧ L.length ≤ 12 ∧ (∀ r ∈ L, r.p = false) ∧ Below w.heap.size w w' ∧ 0 ≤ f

set_option maxRecDepth 100000 in
set_option maxHeartbeats 4000000 in
theorem rows_any {A : Option Addr} {n c : Nat} {xs : List Int} {w : World} (from' : Int) (h : Rd w w.heap.size 3 A n (ints xs)) (hxs : ∀ x ∈ xs, I64 x) :
    Calls Try.prog 18 #[.slice A n c, .int .i64 from'] w (RetRows w (from' % 2000)) := by
  obtain ⟨i0, hi0, hz0, hz1, hz2⟩ := info_parts info_row
  have hf := mod_bd from' 2000 (by omega)
  have HXS := Lib.hid hxs
  clear hxs
  go_enter Try.func18, Try.ntmps18
  go_wp2_with fail
  refine (mod_any from' 2000 _ (by omega) (by omega)).mono ?_
  rintro e w' ⟨rfl, rfl⟩
  generalize hst : from' % 2000 = st at *
  clear hst
  go_wp2_with fail
  go_loopw [6, 7, 8, 9, 10] (fun v s b m i wr => ∃ (k : Nat) (O : List Rw) (S B M : Int), k ≤ 12 ∧ k ≤ n ∧ i = .int .i64 (k : Int) ∧ s = .int .i64 S ∧ b = .int .i64 B ∧ m = .int .i64 M ∧ 0 ≤ S ∧ S ≤ 2 ∧ 1 ≤ B ∧ B ≤ 5 ∧ st ≤ M ∧ M ≤ st + 5 * (k : Int) ∧
      vldB O = true ∧ RowsInv O S B M ∧ AmtsIn O 999999999 ∧ O.length ≤ k ∧ (∀ r ∈ O, r.p = false) ∧ wr.ownsRow w.heap.size 31 6 v O.length (flat Rw.cells O) ∧ Below w.heap.size w wr) (fun _ _ _ _ i _ => 12 - (intOf i).toNat)
  case atStart => exact ⟨0, [], 0, 1, st, by omega, by omega, rfl, rfl, rfl, rfl, by omega, by omega, by omega, by omega, by omega, by omega, rfl, .inl rfl, fun r hr => by simp at hr, by simp, fun r hr => by simp at hr, World.ownsRow_nil _ _ _ _, Below.refl _ _⟩
  case round =>
    obtain ⟨k, O, S, B, M, hk, hkn, rfl, rfl, rfl, rfl, hS0, hS1, hB0, hB1, hM0, hM1, hv, hinv, ham, hOk, hpf, hown, hb⟩ := hrel
    have hwsz := hb.size
    obtain ⟨A2, c2, rfl, _, _, _⟩ := own_form hown
    have HV := Lib.hid hv
    have HINV := Lib.hid hinv
    have HAM := Lib.hid ham
    have HPF := Lib.hid hpf
    clear hv hinv ham hpf
    by_cases hlt : k < n
    · by_cases hlt12 : k < 12
      · obtain ⟨g, o, x, gp, a, rfl, hgb, e0, e1, e2, m0, m1, m2⟩ := raw_cells (h.below hb) hlt
        have hai := HXS.out a m2
        have hlo : (0 : Int) ≤ (k : Int) := by omega
        have hhi : (k : Int) < (n : Int) := by omega
        have hd12 : decide ((k : Int) < 12) = true := by simp; omega
        have hmx := mod_bd x 4 (by omega)
        have hmg := mod_bd gp 5 (by omega)
        clear m0 m1 m2
        go_wp2_with fail
        refine (mod_any x 4 _ (by omega) (by omega)).mono ?_
        rintro e w2 ⟨rfl, rfl⟩
        generalize x % 4 = q at *
        have hq4 : ((q == 0) = true) ∨ ((q == 0) = false ∧ (q == 1) = true) ∨ ((q == 0) = false ∧ (q == 1) = false) := by
          by_cases h0 : q = 0
          · exact .inl (by simp [h0])
          · by_cases h1 : q = 1
            · exact .inr (.inl ⟨by simp [h0], by simp [h1]⟩)
            · exact .inr (.inr ⟨by simp [h0], by simp [h1]⟩)
        rcases hq4 with u0 | ⟨u0, u1⟩ | ⟨u0, u1⟩
        · by_cases hS2 : 2 < S + 1
          · go_wp2_with fail
            go_ret
            exact ⟨A2, c2, O, rfl, hown, HV.out, HAM.out, by omega, HPF.out, hb, hf.1⟩
          · skip
            · go_wp2_with fail
              refine (mod_any gp 5 _ (by omega) (by omega)).mono ?_
              rintro e w3 ⟨rfl, rfl⟩
              generalize gp % 5 = gg at *
              go_wp2_with fail
              refine (amt_plain a hai _).mono ?_
              rintro e w4 ⟨a1, rfl, a10, a11, rfl⟩
              go_wp2_with fail
              have hma := mod_bd a1 1000000000 (by omega)
              refine (mod_any a1 1000000000 _ (by omega) (by omega)).mono ?_
              rintro e w5 ⟨rfl, rfl⟩
              generalize a1 % 1000000000 = a2 at *
              have hq : RowOk (Rw.mk (S + 1) (1) (st + (1 + gg)) (1 + (S + 1)) a2 false) := by unfold RowOk; simp only; omega
              have hstp := rows_step HINV.out HV.out hq rfl (.inl (Int.lt_succ S))
              have hl2 : (O ++ [Rw.mk (S + 1) (1) (st + (1 + gg)) (1 + (S + 1)) a2 false]).length = O.length + 1 := by simp
              have hf2 : flat Rw.cells (O ++ [Rw.mk (S + 1) (1) (st + (1 + gg)) (1 + (S + 1)) a2 false]) = flat Rw.cells O ++ [.int .i64 (S + 1), .int .i64 (1), .int .i64 (st + (1 + gg)), .int .i64 (1 + (S + 1)), .int .i64 a2, .bool false] := by rw [flat_append, flat_one]; rfl
              have ham2 : AmtsIn (O ++ [Rw.mk (S + 1) (1) (st + (1 + gg)) (1 + (S + 1)) a2 false]) 999999999 := fun r hr => by
                rcases List.mem_append.1 hr with hr | hr
                · exact HAM.out r hr
                · rw [List.mem_singleton.1 hr]; exact ⟨hma.1, by show a2 ≤ 999999999; omega⟩
              have hpf2 : ∀ r ∈ O ++ [Rw.mk (S + 1) (1) (st + (1 + gg)) (1 + (S + 1)) a2 false], r.p = false := fun r hr => by
                rcases List.mem_append.1 hr with hr | hr
                · exact HPF.out r hr
                · rw [List.mem_singleton.1 hr]
              have HSTP := Lib.hid hstp
              have HL2 := Lib.hid hl2
              have HF2 := Lib.hid hf2
              have HAM2 := Lib.hid ham2
              have HPF2 := Lib.hid hpf2
              clear hq hstp hl2 hf2 ham2 hpf2
              go_wp2_with (at_builtin; go_loud (refine wpList_append_rd (by rfl) (.tmp 55) (.tmp 69) 22 (by rfl) w.heap.size 31 i0 _ 6 48 Try.underlying22 hi0 hz0 hz1 hz2 rfl (by omega) (.slice A2 O.length c2) O.length (flat Rw.cells O) (by rfl) (hown.alloc _) (wr.heap.size + 1) (some ⟨wr.heap.size, 0, none⟩) 1 1 [.int .i64 (S + 1), .int .i64 (1), .int .i64 (st + (1 + gg)), .int .i64 (1 + (S + 1)), .int .i64 a2, .bool false] (by rfl) (Rd.built (heap_alloc_new wr _) (by omega) rfl) (by intro u hu; simp at hu; rcases hu with rfl | rfl | rfl | rfl | rfl | rfl <;> rfl) (by unfold maxLen; omega) (by omega) (by simp; omega) ?_); intro v4 w4 hown4 hg4 hat4
                           obtain ⟨A4, c4, rfl, _, _, _⟩ := own_form hown4)
              have hb4 := (hb.alloc hwsz (.cells #[.int .i64 (S + 1), .int .i64 (1), .int .i64 (st + (1 + gg)), .int .i64 (1 + (S + 1)), .int .i64 a2, .bool false] 31)).grown hg4 (by simp; omega) (fun g e => by have := (hown.lt g e).1; omega)
              go_roundw
              case rel =>
                refine ⟨k + 1, O ++ [Rw.mk (S + 1) (1) (st + (1 + gg)) (1 + (S + 1)) a2 false], (S + 1), (1), st + (1 + gg), ?_, ?_, ?_, rfl, rfl, rfl, ?_, ?_, ?_, ?_, ?_, ?_, ?_, ?_, ?_, ?_, ?_, ?_, hb4⟩
                · omega
                · omega
                · go_num
                · omega
                · omega
                · omega
                · omega
                · omega
                · omega
                · exact HSTP.out.1
                · exact HSTP.out.2
                · exact HAM2.out
                · rw [HL2.out]; omega
                · exact HPF2.out
                · rw [HL2.out, HF2.out]; exact hown4
              case measure => simp [intOf]; omega
        · by_cases hB5 : 5 < B + 1
          · by_cases hS2 : 2 < S + 1
            · go_wp2_with fail
              go_ret
              exact ⟨A2, c2, O, rfl, hown, HV.out, HAM.out, by omega, HPF.out, hb, hf.1⟩
            · skip
              · go_wp2_with fail
                refine (mod_any gp 5 _ (by omega) (by omega)).mono ?_
                rintro e w3 ⟨rfl, rfl⟩
                generalize gp % 5 = gg at *
                go_wp2_with fail
                refine (amt_plain a hai _).mono ?_
                rintro e w4 ⟨a1, rfl, a10, a11, rfl⟩
                go_wp2_with fail
                have hma := mod_bd a1 1000000000 (by omega)
                refine (mod_any a1 1000000000 _ (by omega) (by omega)).mono ?_
                rintro e w5 ⟨rfl, rfl⟩
                generalize a1 % 1000000000 = a2 at *
                have hq : RowOk (Rw.mk (S + 1) (1) (st + (1 + gg)) (1 + (S + 1)) a2 false) := by unfold RowOk; simp only; omega
                have hstp := rows_step HINV.out HV.out hq rfl (.inl (Int.lt_succ S))
                have hl2 : (O ++ [Rw.mk (S + 1) (1) (st + (1 + gg)) (1 + (S + 1)) a2 false]).length = O.length + 1 := by simp
                have hf2 : flat Rw.cells (O ++ [Rw.mk (S + 1) (1) (st + (1 + gg)) (1 + (S + 1)) a2 false]) = flat Rw.cells O ++ [.int .i64 (S + 1), .int .i64 (1), .int .i64 (st + (1 + gg)), .int .i64 (1 + (S + 1)), .int .i64 a2, .bool false] := by rw [flat_append, flat_one]; rfl
                have ham2 : AmtsIn (O ++ [Rw.mk (S + 1) (1) (st + (1 + gg)) (1 + (S + 1)) a2 false]) 999999999 := fun r hr => by
                  rcases List.mem_append.1 hr with hr | hr
                  · exact HAM.out r hr
                  · rw [List.mem_singleton.1 hr]; exact ⟨hma.1, by show a2 ≤ 999999999; omega⟩
                have hpf2 : ∀ r ∈ O ++ [Rw.mk (S + 1) (1) (st + (1 + gg)) (1 + (S + 1)) a2 false], r.p = false := fun r hr => by
                  rcases List.mem_append.1 hr with hr | hr
                  · exact HPF.out r hr
                  · rw [List.mem_singleton.1 hr]
                have HSTP := Lib.hid hstp
                have HL2 := Lib.hid hl2
                have HF2 := Lib.hid hf2
                have HAM2 := Lib.hid ham2
                have HPF2 := Lib.hid hpf2
                clear hq hstp hl2 hf2 ham2 hpf2
                go_wp2_with (at_builtin; go_loud (refine wpList_append_rd (by rfl) (.tmp 55) (.tmp 69) 22 (by rfl) w.heap.size 31 i0 _ 6 48 Try.underlying22 hi0 hz0 hz1 hz2 rfl (by omega) (.slice A2 O.length c2) O.length (flat Rw.cells O) (by rfl) (hown.alloc _) (wr.heap.size + 1) (some ⟨wr.heap.size, 0, none⟩) 1 1 [.int .i64 (S + 1), .int .i64 (1), .int .i64 (st + (1 + gg)), .int .i64 (1 + (S + 1)), .int .i64 a2, .bool false] (by rfl) (Rd.built (heap_alloc_new wr _) (by omega) rfl) (by intro u hu; simp at hu; rcases hu with rfl | rfl | rfl | rfl | rfl | rfl <;> rfl) (by unfold maxLen; omega) (by omega) (by simp; omega) ?_); intro v4 w4 hown4 hg4 hat4
                             obtain ⟨A4, c4, rfl, _, _, _⟩ := own_form hown4)
                have hb4 := (hb.alloc hwsz (.cells #[.int .i64 (S + 1), .int .i64 (1), .int .i64 (st + (1 + gg)), .int .i64 (1 + (S + 1)), .int .i64 a2, .bool false] 31)).grown hg4 (by simp; omega) (fun g e => by have := (hown.lt g e).1; omega)
                go_roundw
                case rel =>
                  refine ⟨k + 1, O ++ [Rw.mk (S + 1) (1) (st + (1 + gg)) (1 + (S + 1)) a2 false], (S + 1), (1), st + (1 + gg), ?_, ?_, ?_, rfl, rfl, rfl, ?_, ?_, ?_, ?_, ?_, ?_, ?_, ?_, ?_, ?_, ?_, ?_, hb4⟩
                  · omega
                  · omega
                  · go_num
                  · omega
                  · omega
                  · omega
                  · omega
                  · omega
                  · omega
                  · exact HSTP.out.1
                  · exact HSTP.out.2
                  · exact HAM2.out
                  · rw [HL2.out]; omega
                  · exact HPF2.out
                  · rw [HL2.out, HF2.out]; exact hown4
                case measure => simp [intOf]; omega
          · have hS2 : ¬ 2 < S := by omega
            · go_wp2_with fail
              refine (mod_any gp 5 _ (by omega) (by omega)).mono ?_
              rintro e w3 ⟨rfl, rfl⟩
              generalize gp % 5 = gg at *
              go_wp2_with fail
              refine (amt_plain a hai _).mono ?_
              rintro e w4 ⟨a1, rfl, a10, a11, rfl⟩
              go_wp2_with fail
              have hma := mod_bd a1 1000000000 (by omega)
              refine (mod_any a1 1000000000 _ (by omega) (by omega)).mono ?_
              rintro e w5 ⟨rfl, rfl⟩
              generalize a1 % 1000000000 = a2 at *
              have hq : RowOk (Rw.mk (S) (B + 1) (st + (1 + gg)) (1 + (S)) a2 false) := by unfold RowOk; simp only; omega
              have hstp := rows_step HINV.out HV.out hq rfl (.inr ⟨rfl, .inl (Int.lt_succ B)⟩)
              have hl2 : (O ++ [Rw.mk (S) (B + 1) (st + (1 + gg)) (1 + (S)) a2 false]).length = O.length + 1 := by simp
              have hf2 : flat Rw.cells (O ++ [Rw.mk (S) (B + 1) (st + (1 + gg)) (1 + (S)) a2 false]) = flat Rw.cells O ++ [.int .i64 (S), .int .i64 (B + 1), .int .i64 (st + (1 + gg)), .int .i64 (1 + (S)), .int .i64 a2, .bool false] := by rw [flat_append, flat_one]; rfl
              have ham2 : AmtsIn (O ++ [Rw.mk (S) (B + 1) (st + (1 + gg)) (1 + (S)) a2 false]) 999999999 := fun r hr => by
                rcases List.mem_append.1 hr with hr | hr
                · exact HAM.out r hr
                · rw [List.mem_singleton.1 hr]; exact ⟨hma.1, by show a2 ≤ 999999999; omega⟩
              have hpf2 : ∀ r ∈ O ++ [Rw.mk (S) (B + 1) (st + (1 + gg)) (1 + (S)) a2 false], r.p = false := fun r hr => by
                rcases List.mem_append.1 hr with hr | hr
                · exact HPF.out r hr
                · rw [List.mem_singleton.1 hr]
              have HSTP := Lib.hid hstp
              have HL2 := Lib.hid hl2
              have HF2 := Lib.hid hf2
              have HAM2 := Lib.hid ham2
              have HPF2 := Lib.hid hpf2
              clear hq hstp hl2 hf2 ham2 hpf2
              go_wp2_with (at_builtin; go_loud (refine wpList_append_rd (by rfl) (.tmp 55) (.tmp 69) 22 (by rfl) w.heap.size 31 i0 _ 6 48 Try.underlying22 hi0 hz0 hz1 hz2 rfl (by omega) (.slice A2 O.length c2) O.length (flat Rw.cells O) (by rfl) (hown.alloc _) (wr.heap.size + 1) (some ⟨wr.heap.size, 0, none⟩) 1 1 [.int .i64 (S), .int .i64 (B + 1), .int .i64 (st + (1 + gg)), .int .i64 (1 + (S)), .int .i64 a2, .bool false] (by rfl) (Rd.built (heap_alloc_new wr _) (by omega) rfl) (by intro u hu; simp at hu; rcases hu with rfl | rfl | rfl | rfl | rfl | rfl <;> rfl) (by unfold maxLen; omega) (by omega) (by simp; omega) ?_); intro v4 w4 hown4 hg4 hat4
                           obtain ⟨A4, c4, rfl, _, _, _⟩ := own_form hown4)
              have hb4 := (hb.alloc hwsz (.cells #[.int .i64 (S), .int .i64 (B + 1), .int .i64 (st + (1 + gg)), .int .i64 (1 + (S)), .int .i64 a2, .bool false] 31)).grown hg4 (by simp; omega) (fun g e => by have := (hown.lt g e).1; omega)
              go_roundw
              case rel =>
                refine ⟨k + 1, O ++ [Rw.mk (S) (B + 1) (st + (1 + gg)) (1 + (S)) a2 false], (S), (B + 1), st + (1 + gg), ?_, ?_, ?_, rfl, rfl, rfl, ?_, ?_, ?_, ?_, ?_, ?_, ?_, ?_, ?_, ?_, ?_, ?_, hb4⟩
                · omega
                · omega
                · go_num
                · omega
                · omega
                · omega
                · omega
                · omega
                · omega
                · exact HSTP.out.1
                · exact HSTP.out.2
                · exact HAM2.out
                · rw [HL2.out]; omega
                · exact HPF2.out
                · rw [HL2.out, HF2.out]; exact hown4
              case measure => simp [intOf]; omega
        · have hB5 : ¬ 5 < B := by omega
          have hS2 : ¬ 2 < S := by omega
          · go_wp2_with fail
            refine (mod_any gp 5 _ (by omega) (by omega)).mono ?_
            rintro e w3 ⟨rfl, rfl⟩
            generalize gp % 5 = gg at *
            go_wp2_with fail
            refine (amt_plain a hai _).mono ?_
            rintro e w4 ⟨a1, rfl, a10, a11, rfl⟩
            go_wp2_with fail
            have hma := mod_bd a1 1000000000 (by omega)
            refine (mod_any a1 1000000000 _ (by omega) (by omega)).mono ?_
            rintro e w5 ⟨rfl, rfl⟩
            generalize a1 % 1000000000 = a2 at *
            have hq : RowOk (Rw.mk (S) (B) (M + (1 + gg)) (1 + (S)) a2 false) := by unfold RowOk; simp only; omega
            have hstp := rows_step HINV.out HV.out hq rfl (.inr ⟨rfl, .inr ⟨rfl, (by show M < M + (1 + gg); omega)⟩⟩)
            have hl2 : (O ++ [Rw.mk (S) (B) (M + (1 + gg)) (1 + (S)) a2 false]).length = O.length + 1 := by simp
            have hf2 : flat Rw.cells (O ++ [Rw.mk (S) (B) (M + (1 + gg)) (1 + (S)) a2 false]) = flat Rw.cells O ++ [.int .i64 (S), .int .i64 (B), .int .i64 (M + (1 + gg)), .int .i64 (1 + (S)), .int .i64 a2, .bool false] := by rw [flat_append, flat_one]; rfl
            have ham2 : AmtsIn (O ++ [Rw.mk (S) (B) (M + (1 + gg)) (1 + (S)) a2 false]) 999999999 := fun r hr => by
              rcases List.mem_append.1 hr with hr | hr
              · exact HAM.out r hr
              · rw [List.mem_singleton.1 hr]; exact ⟨hma.1, by show a2 ≤ 999999999; omega⟩
            have hpf2 : ∀ r ∈ O ++ [Rw.mk (S) (B) (M + (1 + gg)) (1 + (S)) a2 false], r.p = false := fun r hr => by
              rcases List.mem_append.1 hr with hr | hr
              · exact HPF.out r hr
              · rw [List.mem_singleton.1 hr]
            have HSTP := Lib.hid hstp
            have HL2 := Lib.hid hl2
            have HF2 := Lib.hid hf2
            have HAM2 := Lib.hid ham2
            have HPF2 := Lib.hid hpf2
            clear hq hstp hl2 hf2 ham2 hpf2
            go_wp2_with (at_builtin; go_loud (refine wpList_append_rd (by rfl) (.tmp 55) (.tmp 69) 22 (by rfl) w.heap.size 31 i0 _ 6 48 Try.underlying22 hi0 hz0 hz1 hz2 rfl (by omega) (.slice A2 O.length c2) O.length (flat Rw.cells O) (by rfl) (hown.alloc _) (wr.heap.size + 1) (some ⟨wr.heap.size, 0, none⟩) 1 1 [.int .i64 (S), .int .i64 (B), .int .i64 (M + (1 + gg)), .int .i64 (1 + (S)), .int .i64 a2, .bool false] (by rfl) (Rd.built (heap_alloc_new wr _) (by omega) rfl) (by intro u hu; simp at hu; rcases hu with rfl | rfl | rfl | rfl | rfl | rfl <;> rfl) (by unfold maxLen; omega) (by omega) (by simp; omega) ?_); intro v4 w4 hown4 hg4 hat4
                         obtain ⟨A4, c4, rfl, _, _, _⟩ := own_form hown4)
            have hb4 := (hb.alloc hwsz (.cells #[.int .i64 (S), .int .i64 (B), .int .i64 (M + (1 + gg)), .int .i64 (1 + (S)), .int .i64 a2, .bool false] 31)).grown hg4 (by simp; omega) (fun g e => by have := (hown.lt g e).1; omega)
            go_roundw
            case rel =>
              refine ⟨k + 1, O ++ [Rw.mk (S) (B) (M + (1 + gg)) (1 + (S)) a2 false], (S), (B), M + (1 + gg), ?_, ?_, ?_, rfl, rfl, rfl, ?_, ?_, ?_, ?_, ?_, ?_, ?_, ?_, ?_, ?_, ?_, ?_, hb4⟩
              · omega
              · omega
              · go_num
              · omega
              · omega
              · omega
              · omega
              · omega
              · omega
              · exact HSTP.out.1
              · exact HSTP.out.2
              · exact HAM2.out
              · rw [HL2.out]; omega
              · exact HPF2.out
              · rw [HL2.out, HF2.out]; exact hown4
            case measure => simp [intOf]; omega
      · have hd12 : decide ((k : Int) < 12) = false := by simp; omega
        go_wp2_with fail
        go_ret
        exact ⟨A2, c2, O, rfl, hown, HV.out, HAM.out, by omega, HPF.out, hb, hf.1⟩
    · go_wp2_with fail
      go_ret
      exact ⟨A2, c2, O, rfl, hown, HV.out, HAM.out, by omega, HPF.out, hb, hf.1⟩
end Go.Proofs.Ytnjloghphkjcoaa
