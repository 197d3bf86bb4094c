/- The example of the chapter. -/
import Derived.Test.YtldkblkcbffelaaTwoA
import Derived.Test.YtldkblkcbffelaaSameA
namespace Go.Proofs.Ytldkblkcbffelaa
open Go.RowKit

theorem aw_code1 : codeOf [] ⟨0, 1, 1, 10⟩ = 0 := by decide
theorem aw_next1 : nextOf [] ⟨0, 1, 1, 10⟩ = [⟨0, 1, 1, 10⟩] := by rfl
theorem aw_code2 : codeOf [⟨0, 1, 1, 10⟩] ⟨1, 2, 1, 4⟩ = 0 := by decide
theorem aw_next2 : nextOf [⟨0, 1, 1, 10⟩] ⟨1, 2, 1, 4⟩ = [⟨0, 1, 1, 10⟩, ⟨1, 2, 1, 4⟩] := by rfl
theorem aw_net : net 1 6 (fun s => rpos [⟨0, 1, 1, 10⟩, ⟨1, 2, 1, 4⟩] s 1) = [⟨0, 1, 1, 6⟩, ⟨0, 2, 1, 4⟩] := by kernel_rfl
theorem aw_b1 : rbet [⟨0, 1, 1, 10⟩, ⟨1, 2, 1, 4⟩] (0 : Nat) (1 : Nat) 1 = 10 := by decide
theorem aw_b2 : rbet [⟨0, 1, 1, 10⟩, ⟨1, 2, 1, 4⟩] (1 : Nat) (0 : Nat) 1 = -10 := by decide
theorem aw_p : rpos [⟨0, 1, 1, 10⟩, ⟨1, 2, 1, 4⟩] (1 : Nat) 1 = 6 := by decide
theorem aw_cur : rcur [⟨0, 1, 1, 10⟩, ⟨1, 2, 1, 4⟩] [⟨0, 1, 1, 10⟩, ⟨1, 2, 1, 4⟩] = [1] := by rfl

theorem aw_post1 (lb mb : Nat) (w : World) (h : Led w lb mb []) :
    Calls Try.prog 17 #[.pointer (some ⟨lb, 0, none⟩), .agg #[.int .i64 0, .int .i64 1, .int .i64 1, .int .i64 10]] w
      fun e w' => e = .returned (.int .i64 0) ∧ Led w' lb mb [⟨0, 1, 1, 10⟩] ∧ w.grownBy w' (some mb) := by
  have hp := post_led lb mb [] ⟨0, 1, 1, 10⟩ w h (by simp)
  rw [aw_code1, aw_next1] at hp
  exact hp
theorem aw_post2 (lb mb : Nat) (w : World) (h : Led w lb mb [⟨0, 1, 1, 10⟩]) :
    Calls Try.prog 17 #[.pointer (some ⟨lb, 0, none⟩), .agg #[.int .i64 1, .int .i64 2, .int .i64 1, .int .i64 4]] w
      fun e w' => e = .returned (.int .i64 0) ∧ Led w' lb mb [⟨0, 1, 1, 10⟩, ⟨1, 2, 1, 4⟩] ∧ w.grownBy w' (some mb) := by
  have hp := post_led lb mb [⟨0, 1, 1, 10⟩] ⟨1, 2, 1, 4⟩ w h (by simp)
  rw [aw_code2, aw_next2] at hp
  exact hp
theorem aw_netting (lb mb : Nat) (w : World) (h : Led w lb mb [⟨0, 1, 1, 10⟩, ⟨1, 2, 1, 4⟩]) :
    Calls Try.prog 22 #[.pointer (some ⟨lb, 0, none⟩), .int .i64 1] w
      fun e w' => ∃ g c, e = .returned (.slice (some ⟨g, 0, none⟩) 2 c) ∧ g < w'.heap.size ∧ w'.cell? ⟨g, 0, none⟩ = some (.int .i64 0) ∧ w'.cell? ⟨g, 1, none⟩ = some (.int .i64 1) ∧ w'.cell? ⟨g, 2, none⟩ = some (.int .i64 1) ∧ w'.cell? ⟨g, 3, none⟩ = some (.int .i64 6) ∧ Below w.heap.size w w' := by
  have hn := netting_of lb mb _ 1 w h (by simp)
  rw [aw_net] at hn
  refine hn.mono ?_
  rintro e w' ⟨v, rfl, hown, hb⟩
  have hl : ([⟨0, 1, 1, 6⟩, ⟨0, 2, 1, 4⟩] : List Dt).length = 2 := rfl
  rw [hl] at hown
  obtain ⟨A, c, rfl, hnc, hcm, hA⟩ := own_form hown
  obtain ⟨g, rfl, hg⟩ := hA (by omega)
  have hcs := fun j u hu => hown.cells (g := g) rfl j u hu
  refine ⟨g, c, rfl, hg, ?_, ?_, ?_, ?_, hb⟩
  · have := hcs 0 _ rfl; rwa [addAt] at this
  · have := hcs 1 _ rfl; rwa [addAt] at this
  · have := hcs 2 _ rfl; rwa [addAt] at this
  · have := hcs 3 _ rfl; rwa [addAt] at this
theorem aw_currencies (lb mb : Nat) (w : World) (h : Led w lb mb [⟨0, 1, 1, 10⟩, ⟨1, 2, 1, 4⟩]) :
    Calls Try.prog 28 #[.pointer (some ⟨lb, 0, none⟩)] w
      fun e w' => ∃ A c, e = .returned (.slice A 1 c) ∧ Rd w' w'.heap.size 1 A 1 (ints [1]) ∧ Below w.heap.size w w' := by
  have hn := currencies_of lb mb _ w h (by simp)
  rw [aw_cur] at hn
  exact hn
theorem aw_between (lb mb : Nat) (s t : Nat) (v : Int) (w : World) (h : Led w lb mb [⟨0, 1, 1, 10⟩, ⟨1, 2, 1, 4⟩]) (hs : s < 6) (ht : t < 6) (hv : rbet [⟨0, 1, 1, 10⟩, ⟨1, 2, 1, 4⟩] s t 1 = v) :
    Calls Try.prog 20 #[.pointer (some ⟨lb, 0, none⟩), .int .i64 s, .int .i64 t, .int .i64 1] w fun e w' => e = .returned (.int .i64 v) ∧ w = w' := by
  rw [← hv]
  exact between_of lb mb _ s t 1 w h hs ht
theorem aw_position (lb mb : Nat) (w : World) (h : Led w lb mb [⟨0, 1, 1, 10⟩, ⟨1, 2, 1, 4⟩]) :
    Calls Try.prog 21 #[.pointer (some ⟨lb, 0, none⟩), .int .i64 (1 : Nat), .int .i64 1] w fun e w' => e = .returned (.int .i64 6) ∧ Below w.heap.size w w' := by
  have hp := position_of lb mb _ 1 1 w h (by simp) (by omega)
  rw [aw_p] at hp
  exact hp

set_option maxHeartbeats 2000000 in
theorem awake_any (w : World) :
    Calls Try.prog 14 #[] w fun e w' => e = .returned (.bool true) ∧ Below w.heap.size w w' := by
  go_enter Try.func14, Try.ntmps14
  go_wp2_with (go_at_call 16; refine (new_any _).mono ?_; rintro e w1 ⟨rfl, hb1, hled1⟩)
  have hL1 : Led w1 (w.heap.size + 1) w.heap.size [] := ⟨[], hled1, Rel.start, by simp, by simp⟩
  have hz1 := hb1.size
  refine (aw_post1 _ _ _ hL1).mono ?_
  rintro e w2 ⟨rfl, hL2, hg2⟩
  have hb2 := hb1.grown hg2 hz1 (fun k e => by injection e with e; omega)
  go_wp2_with fail
  refine (aw_post2 _ _ _ hL2).mono ?_
  rintro e w3 ⟨rfl, hL3, hg3⟩
  have hb3 := hb2.grown hg3 hb2.size (fun k e => by injection e with e; omega)
  go_wp2_with fail
  refine (aw_netting _ _ _ hL3).mono ?_
  rintro e w4 ⟨g, c, rfl, hg, c0, c1, c2, c3, hb4⟩
  have hL4 := hL3.below hb4
  have hb5 := hb3.trans (hb4.mono hb3.size)
  clear hL1 hL2 hL3 hg2 hg3 hb1 hb2 hb3 hb4 hled1
  go_wp2_with fail
  refine (aw_between _ _ 0 1 10 _ hL4 (by omega) (by omega) aw_b1).mono ?_
  rintro e w' ⟨rfl, rfl⟩
  go_wp2_with fail
  refine (aw_between _ _ 1 0 (-10) _ hL4 (by omega) (by omega) aw_b2).mono ?_
  rintro e w' ⟨rfl, rfl⟩
  go_wp2_with fail
  refine (aw_position _ _ _ hL4).mono ?_
  rintro e w5 ⟨rfl, hb6⟩
  have e0 := (hb6.cell (p := ⟨g, 0, none⟩) hg).trans c0
  have e1 := (hb6.cell (p := ⟨g, 1, none⟩) hg).trans c1
  have e2 := (hb6.cell (p := ⟨g, 2, none⟩) hg).trans c2
  have e3 := (hb6.cell (p := ⟨g, 3, none⟩) hg).trans c3
  have hL5 := hL4.below hb6
  have hb7 := hb5.trans (hb6.mono hb5.size)
  clear c0 c1 c2 c3
  go_wp2_with fail
  refine (aw_currencies _ _ _ hL5).mono ?_
  rintro e w6 ⟨A, cc, rfl, hrd, hb8⟩
  have hb9 := hb7.trans (hb8.mono hb7.size)
  go_wp2_with fail
  refine (same_ints _ _ 1 _ _ [1] _ (hrd.alloc (Nat.le_refl _) _ |>.mono (by simp)) ((Rd.built (heap_alloc_new w6 _) (by simp) rfl)) rfl (by omega)).mono ?_
  rintro e w7 ⟨rfl, hb10⟩
  have hb11 := (hb9.alloc hb9.size _).trans (hb10.mono (by simp; have := hb9.size; omega))
  go_wp2_with fail
  go_ret
  exact ⟨rfl, hb11⟩
end Go.Proofs.Ytldkblkcbffelaa
