/- At and Member of the program. -/
import Derived.Test.YtghmmcdeejhcjaaGreatTrC
namespace Go.Proofs.YtghmmcdeejhcjaaGreat
open Go.RowKit

theorem tat_good {A : Option Addr} {n c : Nat} {X : List Rv} {d : Int} {w : World} (hd : isD d = true) (hX : Rus w w.heap.size A n X) (hn : n ≤ 1000000) (hml : ∀ x ∈ X, x.r.m.length ≤ 17592186044416) :
    Calls Tryz.prog 7 #[.slice A n c, .int .i64 d] w (RetAt w (atT (X.map Rv.r) d)) := by
  refine (callsIn_wide (n := 7)).1 (tat_in Fence.wide 7 (fun _ => trivial) rfl (by omega) A n c X d hn hml w hX hd (fun m W => callsIn_wide.2 ?_) fun m W a k c2 B l h hk => callsIn_wide.2 (clone_rd h hk))
  refine (tvalid_any d W).mono ?_
  rintro e w' ⟨rfl, rfl⟩
  exact ⟨by rw [hd], rfl⟩
set_option maxHeartbeats 1000000 in
theorem tat_bad {A : Option Addr} {n c : Nat} {d : Int} {w : World} (hd : isD d = false) :
    Calls Tryz.prog 7 #[.slice A n c, .int .i64 d] w (RetAt w none) := by
  go_enter Tryz.func7, Tryz.ntmps7
  go_wp2_with fail
  refine (tvalid_any d _).mono ?_
  rintro e w' ⟨rfl, rfl⟩
  rw [hd]
  go_wp2_with fail
  have hb : Below w.heap.size w (((w.alloc (.cells #[.int .i64 d] 3)).alloc (.cells #[.int .i64 0, .int .i64 0, .int .i64 0, .int .i64 0, .slice none 0 0] 31)).alloc (.cells #[.bool false] 4)) := (((Below.refl _ w).alloc (Nat.le_refl _) _).alloc (by simp) _).alloc (by simp <;> omega) _
  have hr0 : (((w.alloc (.cells #[.int .i64 d] 3)).alloc (.cells #[.int .i64 0, .int .i64 0, .int .i64 0, .int .i64 0, .slice none 0 0] 31)).alloc (.cells #[.bool false] 4)).heap[w.heap.size + 1]? = some (.cells #[.int .i64 0, .int .i64 0, .int .i64 0, .int .i64 0, .slice none 0 0] 31 (0, 0)) := by
    refine (Below.heap_alloc _ _ _ (by simp)).trans ?_
    have := World.alloc_heap_new (w.alloc (.cells #[.int .i64 d] 3)) (.cells #[.int .i64 0, .int .i64 0, .int .i64 0, .int .i64 0, .slice none 0 0] 31)
    rwa [World.size_alloc] at this
  have hq0 : (((w.alloc (.cells #[.int .i64 d] 3)).alloc (.cells #[.int .i64 0, .int .i64 0, .int .i64 0, .int .i64 0, .slice none 0 0] 31)).alloc (.cells #[.bool false] 4)).heap[w.heap.size + 1 + 1]? = some (.cells #[.bool false] 4 (0, 0)) := by
    have := World.alloc_heap_new ((w.alloc (.cells #[.int .i64 d] 3)).alloc (.cells #[.int .i64 0, .int .i64 0, .int .i64 0, .int .i64 0, .slice none 0 0] 31)) (.cells #[.bool false] 4)
    rwa [World.size_alloc, World.size_alloc] at this
  obtain ⟨V, hV⟩ : ∃ V, V = (((w.alloc (.cells #[.int .i64 d] 3)).alloc (.cells #[.int .i64 0, .int .i64 0, .int .i64 0, .int .i64 0, .slice none 0 0] 31)).alloc (.cells #[.bool false] 4)) := ⟨_, rfl⟩
  rw [← hV] at hb hr0 hq0 ⊢
  have f0 : V.cell? ⟨w.heap.size + 1, 0, none⟩ = some (.int .i64 0) := by rw [cell_of_row V _ 0 _ _ _ hr0]; rfl
  have f1 : V.cell? ⟨w.heap.size + 1, 1, none⟩ = some (.int .i64 0) := by rw [cell_of_row V _ 1 _ _ _ hr0]; rfl
  have f2 : V.cell? ⟨w.heap.size + 1, 2, none⟩ = some (.int .i64 0) := by rw [cell_of_row V _ 2 _ _ _ hr0]; rfl
  have f3 : V.cell? ⟨w.heap.size + 1, 3, none⟩ = some (.int .i64 0) := by rw [cell_of_row V _ 3 _ _ _ hr0]; rfl
  have f4 : V.cell? ⟨w.heap.size + 1, 4, none⟩ = some (.slice none 0 0) := by rw [cell_of_row V _ 4 _ _ _ hr0]; rfl
  have g0 : V.cell? ⟨w.heap.size + 1 + 1, 0, none⟩ = some (.bool false) := by rw [cell_of_row V _ 0 _ _ _ hq0]; rfl
  exact bodyPost_ret (v := .tuple #[(⟨⟨0, 0, 0, 0, []⟩, none, 0⟩ : Rv).agg, .bool false]) (by simp [results, Tryz.f7, go_sem, f0, f1, f2, f3, f4, g0, Rv.agg]) rfl ⟨hb, rfl⟩
theorem tat_any {A : Option Addr} {n c : Nat} {X : List Rv} (d : Int) {w : World} (hX : Rus w w.heap.size A n X) (hn : n ≤ 1000000) (hml : ∀ x ∈ X, x.r.m.length ≤ 17592186044416) :
    Calls Tryz.prog 7 #[.slice A n c, .int .i64 d] w (RetAt w (atT (X.map Rv.r) d)) := by
  cases hd : isD d with
  | true => exact tat_good hd hX hn hml
  | false => rw [atT_day hd]; exact tat_bad hd
theorem index_nil (s : Int) (c : Nat) (w : World) : Calls Tryz.prog 76 #[.slice none 0 c, .int .i64 s] w fun e w' => e = .returned (.int .i64 (-1)) ∧ w' = w := by
  go_enter Tryz.func76, Tryz.ntmps76
  go_wp2_with fail
  go_loopw [8] (fun i wr => i = .int .i64 0 ∧ wr = w) (fun _ _ => 0)
  case atStart => exact ⟨rfl, rfl⟩
  case round =>
    obtain ⟨rfl, rfl⟩ := hrel
    go_wp2_with fail
    go_ret
    exact ⟨rfl, rfl⟩
theorem contains_nil (s : Int) (c : Nat) (w : World) : Calls Tryz.prog 47 #[.slice none 0 c, .int .i64 s] w fun e w' => e = .returned (.bool false) ∧ w' = w := by
  go_enter Tryz.func47, Tryz.ntmps47
  go_wp2_with fail
  refine (index_nil s c w).mono ?_
  rintro e w' ⟨rfl, rfl⟩
  go_wp2_with fail
  go_ret
  exact ⟨rfl, rfl⟩
theorem contains_rd {base n c : Nat} {a : Option Addr} {m : List Int} {w : World} (h : w.ownsRow base 3 1 (.slice a n c) n (ints m)) (s : Int) (hn : n ≤ 17592186044416) :
    Calls Tryz.prog 47 #[.slice a n c, .int .i64 s] w fun e w' => e = .returned (.bool (decide (s ∈ m))) ∧ w' = w := by
  have hl := (Rd.ofOwn h).len1
  obtain ⟨A, c2, e, _, _, hA⟩ := own_form h
  injection e with e1 _ e3
  subst e1 e3
  by_cases h0 : 0 < n
  · obtain ⟨b, o, rfl, hb, hc⟩ := (Rd.ofOwn h).2 h0
    refine (Tryz.slices_Contains_int b o n c m s w (by omega) (by omega) fun j hj => ?_).mono ?_
    · obtain ⟨x, hx⟩ : ∃ x, m[j]? = some x := ⟨_, List.getElem?_eq_getElem hj⟩
      have := hc j (.int .i64 x) (by rw [ints_at, hx]; rfl)
      rw [this, List.getD_eq_getElem?_getD, hx]
      rfl
    · rintro e w' ⟨rfl, rfl⟩
      rw [List.take_of_length_le (by omega)]
      exact ⟨by rw [List.contains_eq_mem], rfl⟩
  · obtain rfl : n = 0 := by omega
    obtain rfl : m = [] := List.eq_nil_of_length_eq_zero hl
    cases a with
    | none => exact (contains_nil s c w).mono fun e w' ⟨h1, h2⟩ => ⟨by rw [h1]; rfl, h2⟩
    | some p =>
      rcases h.2 with ⟨e, _⟩ | ⟨g, cap, cur, e, _⟩
      · cases e
      · injection e with e1 _ e3
        injection e1 with e1
        subst e1
        refine (Tryz.slices_Contains_int g 0 0 c [] s w (by simp) (by omega) fun j hj => by simp at hj).mono ?_
        rintro e w' ⟨rfl, rfl⟩
        exact ⟨rfl, rfl⟩
set_option maxHeartbeats 1000000 in
theorem tmember_any {A : Option Addr} {n c : Nat} {X : List Rv} (s d : Int) {w : World} (hX : Rus w w.heap.size A n X) (hn : n ≤ 1000000) (hml : ∀ x ∈ X, x.r.m.length ≤ 17592186044416) :
    Calls Tryz.prog 32 #[.slice A n c, .int .i64 s, .int .i64 d] w fun e w' => e = .returned (.bool (memT (X.map Rv.r) s d)) ∧ Below w.heap.size w w' := by
  have hlen : ∀ r, atT (X.map Rv.r) d = some r → r.m.length ≤ 17592186044416 := fun r hr => by
    obtain ⟨x, hx, rfl⟩ := List.mem_map.1 (atT_mem hr).1
    exact hml x hx
  have HL := Lib.hid hlen
  clear hlen
  go_enter Tryz.func32, Tryz.ntmps32
  go_wp2_with fail
  refine (tat_any d hX hn hml).mono ?_
  intro e w1 hr
  obtain ⟨hb, hr⟩ := hr
  cases ha : atT (X.map Rv.r) d with
  | none =>
    rw [ha] at hr
    obtain rfl := hr
    have HA := Lib.hid ha
    clear ha
    dsimp only [Rv.agg]
    go_wp2_with fail
    go_ret
    exact ⟨ret_bool (by unfold memT; rw [HA.out]), hb.alloc hb.size _⟩
  | some r =>
    have hrl := HL.out r ha
    rw [ha] at hr
    obtain ⟨a, c2, rfl, hown⟩ := hr
    have HA := Lib.hid ha
    clear ha
    dsimp only [Rv.agg]
    go_wp2_with fail
    refine (contains_rd (hown.alloc _) s hrl).mono ?_
    rintro e w' ⟨rfl, rfl⟩
    go_wp2_with fail
    go_ret
    exact ⟨ret_bool (by unfold memT; rw [HA.out]), hb.alloc hb.size _⟩
end Go.Proofs.YtghmmcdeejhcjaaGreat
