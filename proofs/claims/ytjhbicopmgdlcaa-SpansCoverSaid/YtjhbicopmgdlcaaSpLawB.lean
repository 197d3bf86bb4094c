/- small, probe and awake of the laws. -/
import Derived.Test.YtjhbicopmgdlcaaSpLawA
namespace Go.Proofs.Ytjhbicopmgdlcaa
open Go.RowKit

theorem pick_bd2 (n k : Int) (h0 : 0 ≤ k) (hk : k ≤ 73108) : 0 ≤ pick n k ∧ pick n k ≤ 73108 := by
  by_cases h : k < 1
  · simp [pick, h]
  · have := pick_bd n k (by omega)
    omega
/-- What small returns: as many spans, of numbers. -/
def RetSm (w : World) (n : Nat) (e : Ending) (w' : World) : Prop := ∃ A c l, e = .returned (.slice A n c) ∧ Ds w' A n l ∧ (∀ s ∈ l, s.ok) ∧ Below w.heap.size w w'
theorem scale_row (s : Int) (w : World) : ∃ (p : Nat) (k : Int), pick s 4 = p ∧ p < 4 ∧ 0 ≤ k ∧ k ≤ 73108 ∧ (w.alloc (.cells #[.int .i64 0, .int .i64 40, .int .i64 400, .int .i64 73108] 3)).cell? ⟨w.heap.size, p, none⟩ = some (.int .i64 k) := by
  obtain ⟨h1, h2⟩ := pick_bd s 4 (by omega)
  have hc : pick s 4 = 0 ∨ pick s 4 = 1 ∨ pick s 4 = 2 ∨ pick s 4 = 3 := by omega
  rcases hc with h | h | h | h
  · exact ⟨0, 0, h, by omega, by omega, by omega, by rw [World.cell?_alloc_new]; rfl⟩
  · exact ⟨1, 40, h, by omega, by omega, by omega, by rw [World.cell?_alloc_new]; rfl⟩
  · exact ⟨2, 400, h, by omega, by omega, by omega, by rw [World.cell?_alloc_new]; rfl⟩
  · exact ⟨3, 73108, h, by omega, by omega, by omega, by rw [World.cell?_alloc_new]; rfl⟩

set_option maxHeartbeats 2000000 in
theorem probe_any (n s : Int) (hn : I64 n) (w : World) : Calls Try.prog 28 #[.int .i64 n, .int .i64 s] w fun e w' => ∃ m, e = .returned (.int .i64 m) ∧ I64 m ∧ Below w.heap.size w w' := by
  by_cases h : s.tmod 4 = 0
  · have hb : (s.tmod 4 == 0) = true := beq_iff_eq.2 h
    clear h
    go_enter Try.func28, Try.ntmps28
    go_wp2_with fail
    go_ret
    exact ⟨n, rfl, hn, Below.refl _ _⟩
  · have hb : (s.tmod 4 == 0) = false := beq_eq_false_iff_ne.2 h
    obtain ⟨p, k, hp, hp4, hk0, hk1, hcell⟩ := scale_row s w
    have hp4' : (p : Int) < 4 := by omega
    have hp0 : (0 : Int) ≤ (p : Int) := by omega
    clear h
    go_enter Try.func28, Try.ntmps28
    go_wp2_with fail
    refine (pick_any s 4 _ (by omega)).mono ?_
    rintro e w' ⟨rfl, rfl⟩
    rw [hp]
    have HP := Lib.hid hp
    clear hp
    go_wp2_with fail
    refine (pick_any n k _ (by omega)).mono ?_
    rintro e w' ⟨rfl, rfl⟩
    have hpb := pick_bd2 n k hk0 hk1
    generalize pick n k = q at *
    go_wp2_with fail
    go_ret
    exact ⟨q - 3, rfl, ⟨by omega, by omega⟩, (Below.refl _ _).alloc (Nat.le_refl _) _⟩

set_option maxHeartbeats 4000000 in
theorem small_any (A : Option Addr) (n c : Nat) (l : List Sp) (s : Int) (w : World) (h : Ds w A n l) (hok : ∀ s ∈ l, s.ok) (hn : n ≤ 1000) : Calls Try.prog 15 #[.slice A n c, .int .i64 s] w (RetSm w n) := by
  obtain ⟨i0, hi0, hz0, hz1, hz2⟩ := info_parts info_span
  by_cases hs : s.tmod 4 = 0
  · have hb : (s.tmod 4 == 0) = true := beq_iff_eq.2 hs
    clear hs
    go_enter Try.func15, Try.ntmps15
    go_wp2_with fail
    go_ret
    exact ⟨A, c, l, rfl, h, hok, Below.refl _ _⟩
  · have hb : (s.tmod 4 == 0) = false := beq_eq_false_iff_ne.2 hs
    obtain ⟨p, k, hp, hp4, hk0, hk1, hcell⟩ := scale_row s w
    have hp4' : (p : Int) < 4 := by omega
    have hp0 : (0 : Int) ≤ (p : Int) := by omega
    have HN := Lib.hid h.2
    have hrd := h.1
    clear hs h
    go_enter Try.func15, Try.ntmps15
    go_wp2_with fail
    refine (pick_any s 4 _ (by omega)).mono ?_
    rintro e w' ⟨rfl, rfl⟩
    rw [hp]
    have HP := Lib.hid hp
    clear hp
    go_wp2_with fail
    go_loopw [6, 7] (fun v i wr => ∃ (j : Nat) (O : List Sp), j ≤ n ∧ i = .int .i64 (j : Int) ∧ O.length = j ∧ (∀ s ∈ O, s.ok) ∧ wr.ownsRow w.heap.size 36 2 v j (flat Sp.cells O) ∧ Below w.heap.size w wr) (fun _ i _ => n - (intOf i).toNat)
    case atStart => exact ⟨0, [], by omega, rfl, rfl, by simp, World.ownsRow_nil _ _ _ _, (Below.refl _ _).alloc (Nat.le_refl _) _⟩
    case round =>
      obtain ⟨j, O, hj, rfl, hOl, hOo, hown, hbr⟩ := hrel
      have hwsz := hbr.size
      have HOL := Lib.hid hOl
      have HOO := Lib.hid hOo
      clear hOl hOo
      by_cases hlt : j < n
      · have hjl : j < l.length := by rw [HN.out]; exact hlt
        obtain ⟨x, hx⟩ : ∃ x, l[j]? = some x := ⟨_, List.getElem?_eq_getElem hjl⟩
        obtain ⟨_, g, o, rfl, hgb, e0, e1⟩ := sp_cells (hrd.below hbr) hx
        obtain ⟨A2, c2, rfl, _, _, _⟩ := own_form hown
        have hlo : (0 : Int) ≤ (j : Int) := by omega
        have hhi : (j : Int) < (n : Int) := by omega
        clear hx hcell
        go_wp2_with fail
        refine (pick_any x.f k _ (by omega)).mono ?_
        rintro e w' ⟨rfl, rfl⟩
        have hpb := pick_bd2 x.f k hk0 hk1
        generalize pick x.f k = q at *
        go_wp2_with fail
        have hk3 : k / 3 + 2 ≤ 4611686018427387904 := by omega
        have hk30 : 0 ≤ k / 3 + 2 := by omega
        have hk31 : k / 3 + 2 ≤ 73108 := by omega
        refine (pick_any x.t _ _ hk3).mono ?_
        rintro e w' ⟨rfl, rfl⟩
        have hpb2 := pick_bd2 x.t (k / 3 + 2) hk30 hk31
        generalize pick x.t (k / 3 + 2) = r at *
        go_wp2_with (at_builtin; go_loud (refine wpList_append_rd (by rfl) (.tmp 32) (.tmp 47) 22 (by rfl) w.heap.size 36 i0 _ 2 16 Try.underlying22 hi0 hz0 hz1 hz2 rfl (by omega) (.slice A2 j c2) j (flat Sp.cells O) (by rfl) (hown.alloc _) (wr.heap.size + 1) (some ⟨wr.heap.size, 0, none⟩) 1 1 [.int .i64 (q - 3), .int .i64 (q - 3 + r - 1)] (by rfl) (Rd.built (heap_alloc_new wr _) (by omega) rfl) (by intro u hu; simp at hu; rcases hu with rfl | rfl <;> rfl) (by unfold maxLen; omega) (by omega) (by simp; omega) ?_); intro v4 w4 hown4 hg4 hat4)
        have hb4 := (hbr.alloc hwsz (.cells #[.int .i64 (q - 3), .int .i64 (q - 3 + r - 1)] 36)).grown hg4 (by simp; omega) (fun g e => by have := (hown.lt g e).1; omega)
        have e2 : flat Sp.cells (O ++ [Sp.mk (q - 3) (q - 3 + r - 1)]) = flat Sp.cells O ++ [.int .i64 (q - 3), .int .i64 (q - 3 + r - 1)] := by rw [flat_append, flat_one]; rfl
        refine ⟨⟨j + 1, O ++ [Sp.mk (q - 3) (q - 3 + r - 1)], by omega, by go_num, by rw [List.length_append, HOL.out]; rfl, fun s hs => ?_, ?_, hb4⟩, by simp [intOf]; omega⟩
        · rcases List.mem_append.1 hs with hs | hs
          · exact HOO.out s hs
          · rw [List.mem_singleton.1 hs]
            exact ⟨⟨by show _ ≤ q - 3; omega, by show q - 3 ≤ _; omega⟩, ⟨by show _ ≤ q - 3 + r - 1; omega, by show q - 3 + r - 1 ≤ _; omega⟩⟩
        · rw [e2]
          exact hown4
      · obtain rfl : j = n := by omega
        obtain ⟨A2, c2, rfl, _, _, _⟩ := own_form hown
        go_wp2_with fail
        go_ret
        exact ⟨A2, c2, O, rfl, Ds.ofOwn hown HOL.out, HOO.out, hbr⟩

theorem awake_nf : nf (dset [⟨5, 9⟩, ⟨1, 3⟩, ⟨3, 5⟩]) = [⟨1, 9⟩] := by
  refine (nf_unique (m := [⟨1, 9⟩]) ⟨by show (-1 : Int) < 1; omega, by show (1 : Int) < 9; omega, by show (9 : Int) ≤ 73049; omega, trivial⟩ fun x hx => ?_).symm
  rw [Bool.eq_iff_iff, dset, hx, Bool.true_and, cov_iff, cov_iff]
  simp
  omega

set_option maxHeartbeats 1000000 in
theorem awake_any (w : World) : Calls Try.prog 17 #[] w fun e w' => e = .returned (.bool true) ∧ Below w.heap.size w w' := by
  go_enter Try.func17, Try.ntmps17
  go_wp2_with fail
  obtain ⟨W, hW, hds, hb⟩ : ∃ W, W = w.alloc (.cells #[.int .i64 5, .int .i64 9, .int .i64 1, .int .i64 3, .int .i64 3, .int .i64 5] 36) ∧ Ds W (some ⟨w.heap.size, 0, none⟩) 3 [⟨5, 9⟩, ⟨1, 3⟩, ⟨3, 5⟩] ∧ Below w.heap.size w W :=
    ⟨_, rfl, ⟨Rd.built (cs := #[.int .i64 5, .int .i64 9, .int .i64 1, .int .i64 3, .int .i64 3, .int .i64 5]) (heap_alloc_new w _) (by simp) rfl, rfl⟩, (Below.refl _ _).alloc (Nat.le_refl _) _⟩
  rw [← hW]
  clear hW
  refine (make_nf hds (by omega)).mono ?_
  intro e w1 hr
  unfold RetNf at hr
  rw [awake_nf] at hr
  obtain ⟨A1, c1, rfl, hown, hb1⟩ := hr
  obtain ⟨_, g, o, rfl, _, e0, e1⟩ := sp_cells (Rd.ofOwn hown) (show [Sp.mk 1 9][0]? = some ⟨1, 9⟩ from rfl)
  have e0' : w1.cell? ⟨g, o, none⟩ = some (.int .i64 1) := by simpa using e0
  have e1' : w1.cell? ⟨g, o + 1, none⟩ = some (.int .i64 9) := by simpa using e1
  go_wp2_with fail
  go_ret
  exact ⟨rfl, hb.trans (hb1.mono hb.size)⟩
end Go.Proofs.Ytjhbicopmgdlcaa
