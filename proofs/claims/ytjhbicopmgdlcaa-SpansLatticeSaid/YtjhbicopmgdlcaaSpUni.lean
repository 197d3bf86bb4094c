/- The reference's Union, Intersect, Subtract; slices.Clone at spans; the program's Union. -/
import Derived.Test.YtjhbicopmgdlcaaSpNth
namespace Go.Proofs.Ytjhbicopmgdlcaa
open Go.RowKit

set_option maxHeartbeats 1000000 in
theorem runion_any {A B : Option Addr} {n m c d : Nat} {la lb : List Sp} {w : World} (ha : Ds w A n la) (hb : Ds w B m lb) (hn : n ≤ 5000) (hm : m ≤ 5000) : Calls Try.prog 40 #[.slice A n c, .slice B m d] w (RetNf w fun x => dset la x || dset lb x) := by
  go_enter Try.func40, Try.ntmps40
  go_wp2_with fail
  refine (combine_nf (.inr (.inl rfl)) ha hb hn hm).mono ?_
  intro e w1 hr
  have hr2 := retNf_congr (T := fun x => dset la x || dset lb x) (fun x _ => by rw [gk2]) hr
  obtain ⟨A1, c1, rfl, hown, hb⟩ := hr2
  go_wp2_with fail
  go_ret
  exact ⟨A1, c1, rfl, hown, hb⟩
set_option maxHeartbeats 1000000 in
theorem rinter_any {A B : Option Addr} {n m c d : Nat} {la lb : List Sp} {w : World} (ha : Ds w A n la) (hb : Ds w B m lb) (hn : n ≤ 5000) (hm : m ≤ 5000) : Calls Try.prog 41 #[.slice A n c, .slice B m d] w (RetNf w fun x => dset la x && dset lb x) := by
  go_enter Try.func41, Try.ntmps41
  go_wp2_with fail
  refine (combine_nf (.inl rfl) ha hb hn hm).mono ?_
  intro e w1 hr
  have hr2 := retNf_congr (T := fun x => dset la x && dset lb x) (fun x _ => by rw [gk1]) hr
  obtain ⟨A1, c1, rfl, hown, hb⟩ := hr2
  go_wp2_with fail
  go_ret
  exact ⟨A1, c1, rfl, hown, hb⟩
set_option maxHeartbeats 1000000 in
theorem rsub_any {A B : Option Addr} {n m c d : Nat} {la lb : List Sp} {w : World} (ha : Ds w A n la) (hb : Ds w B m lb) (hn : n ≤ 5000) (hm : m ≤ 5000) : Calls Try.prog 42 #[.slice A n c, .slice B m d] w (RetNf w fun x => dset la x && !dset lb x) := by
  go_enter Try.func42, Try.ntmps42
  go_wp2_with fail
  refine (combine_nf (.inr (.inr rfl)) ha hb hn hm).mono ?_
  intro e w1 hr
  have hr2 := retNf_congr (T := fun x => dset la x && !dset lb x) (fun x _ => by rw [gk3]) hr
  obtain ⟨A1, c1, rfl, hown, hb⟩ := hr2
  go_wp2_with fail
  go_ret
  exact ⟨A1, c1, rfl, hown, hb⟩
def RetOwn (w : World) (n : Nat) (l : List Sp) (e : Ending) (w' : World) : Prop :=
  ∃ A1 c1, e = .returned (.slice A1 n c1) ∧ w'.ownsRow w.heap.size 36 2 (.slice A1 n c1) n (flat Sp.cells l) ∧ Below w.heap.size w w'

set_option maxRecDepth 100000 in
set_option maxHeartbeats 1000000 in
theorem clone_any {A : Option Addr} {n c : Nat} {l : List Sp} {w : World} (ha : Ds w A n l) (hn : n ≤ 5000) : Calls Try.prog 52 #[.slice A n c] w (RetOwn w n l) := by
  obtain ⟨i0, hi0, hz0, hz1, hz2⟩ := info_parts info_span
  have q22 : ∀ (w : World) (a : Option Addr) (n c : Nat), (binOp .eql 22 (.slice a n c) (.slice none 0 0)).run Try.prog w = .ok (.bool a.isNone) w := fun w a n c => Lib.run_eql_slice_nil w _ _ a n c 0 0 Try.underlying22
  cases A with
  | none =>
    have hl : n = 0 := by
      obtain ⟨h1, h2⟩ := ha
      by_cases h0 : n = 0
      · exact h0
      · obtain ⟨x, hx⟩ : ∃ x, l[0]? = some x := ⟨_, List.getElem?_eq_getElem (by omega)⟩
        obtain ⟨_, g, o, hc, _⟩ := sp_cells h1 hx
        cases hc
    subst hl
    have hl : l = [] := List.eq_nil_of_length_eq_zero ha.2
    subst hl
    go_enter Try.func52, Try.ntmps52
    go_wp2_with fail
    go_ret
    exact ⟨none, 0, rfl, World.ownsRow_nil _ _ _ _, Below.refl _ _⟩
  | some a =>
    go_enter Try.func52, Try.ntmps52
    go_wp2_with (at_builtin; (refine wpList_append_rd (by rfl) (.tmp 5) (.tmp 6) 22 (by rfl) w.heap.size 36 i0 _ 2 16 Try.underlying22 hi0 hz0 hz1 hz2 rfl (by omega) _ 0 [] (by rfl) (World.ownsRow_made w #[] 0 (Nat.le_refl _) (Nat.zero_le _) rfl) w.heap.size (some a) n c (flat Sp.cells l) (by rfl) (ha.1.below ((Below.refl _ _).alloc (Nat.le_refl _) _)) (sp_one l) (by unfold maxLen; omega) (by omega) (by simp) ?_); intro v4 w4 hown4 hg4 hat4
                 obtain ⟨A4, c4, rfl, _, _, _⟩ := own_form hown4)
    go_ret
    simp only [Nat.zero_add, List.nil_append] at hown4
    exact ⟨A4, c4, by simp, hown4, ((Below.refl _ w).alloc (Nat.le_refl _) _).grown hg4 (by simp) (by intro k hk; simp [Value.ownBlock] at hk; omega)⟩

set_option maxHeartbeats 1000000 in
theorem union_any {A B : Option Addr} {n m c d : Nat} {la lb : List Sp} {w : World} (ha : Ds w A n la) (hb : Ds w B m lb) (hn : n ≤ 5000) (hm : m ≤ 5000) : Calls Try.prog 37 #[.slice A n c, .slice B m d] w (RetNf w fun x => dset la x || dset lb x) := by
  obtain ⟨i0, hi0, hz0, hz1, hz2⟩ := info_parts info_span
  have HA := Lib.hid ha.2
  have HB := Lib.hid hb.2
  go_enter Try.func37, Try.ntmps37
  go_wp2_with fail
  refine (clone_any ha hn).mono ?_
  rintro e w1 ⟨A1, c1, rfl, hown1, hb1⟩
  have hk1 := hb.below hb1
  have hz := hb1.size
  clear ha hb
  go_wp2_with (at_builtin; (refine wpList_append_rd (by rfl) (.tmp 6) (.tmp 7) 22 (by rfl) w.heap.size 36 i0 _ 2 16 Try.underlying22 hi0 hz0 hz1 hz2 rfl (by omega) (.slice A1 n c1) n (flat Sp.cells la) (by rfl) hown1 w1.heap.size B m d (flat Sp.cells lb) (by rfl) hk1.1 (sp_one lb) (by unfold maxLen; omega) (by omega) (by omega) ?_); intro v4 w4 hown4 hg4 hat4
               obtain ⟨A4, c4, rfl, _, _, _⟩ := own_form hown4)
  have hb4 : Below w.heap.size w w4 := hb1.grown hg4 hz (fun g e => (hown1.lt g e).1)
  rw [← flat_append] at hown4
  have hd4 : Ds w4 A4 (n + m) (la ++ lb) := Ds.ofOwn hown4 (by rw [List.length_append, HA.out, HB.out])
  refine (make_nf hd4 (by omega)).mono ?_
  intro e w5 hr
  have hr2 := retNf_congr (T := fun x => dset la x || dset lb x) (fun x _ => dset_append la lb x) hr
  obtain ⟨A5, c5, rfl, hown5, hb5⟩ := hr2
  go_wp2_with fail
  go_ret
  exact ⟨A5, c5, rfl, ownsRow_base hown5 hb4.size, hb4.trans (hb5.mono hb4.size)⟩
end Go.Proofs.Ytjhbicopmgdlcaa
