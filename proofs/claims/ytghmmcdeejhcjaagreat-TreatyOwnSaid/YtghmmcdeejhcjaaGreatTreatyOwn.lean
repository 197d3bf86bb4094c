/- The walk of TreatyOwn: lists of any length. -/
import Derived.Test.YtghmmcdeejhcjaaGreatPbF
import Derived.Test.YtghmmcdeejhcjaaGreatTrD
import Derived.Test.YtghmmcdeejhcjaaGreatTrF
import Derived.Test.YtghmmcdeejhcjaaGreatTrJ
import Derived.Test.YtghmmcdeejhcjaaGreatTrL
namespace Go.Proofs.YtghmmcdeejhcjaaGreat
open Go.RowKit

theorem atT_some {L : List Ru} {d : Int} (hd : isD d = true) {r : Ru} (hr : r ∈ L) (hf : r.f ≤ d) : ∃ q, atT L d = some q := by
  unfold atT
  rw [if_pos hd]
  cases e : L.reverse.find? (fun r => decide (r.f ≤ d)) with
  | some q => exact ⟨q, rfl⟩
  | none =>
    have := List.find?_eq_none.1 e r (List.mem_reverse.2 hr)
    simp [hf] at this
theorem atT_len3 {X : List Rv} {d : Int} {r : Ru} (h : ∀ x ∈ X, x.r.m.length ≤ 3) (e : atT (X.map Rv.r) d = some r) : r.m.length ≤ 3 := by
  obtain ⟨x, hx, rfl⟩ := List.mem_map.1 (atT_mem e).1
  exact h x hx
theorem field_law (A B C : Option Addr) (a b c a' b' c' : Nat) (u : World) : (Instr.field 27 (.agg #[.slice A a a', .slice B b b', .slice C c c']) 1).run Tryz.prog u = .ok (.slice B b b') u := by
  unfold Instr.field
  simp [run_underlying Tryz.underlying27, asAgg, go_sem]
abbrev ruRow (r : Ru) (a : Option Addr) (c : Nat) : Obj := .cells #[.int .i64 r.f, .int .i64 r.d, .int .i64 r.p, .int .i64 r.b, .slice a r.m.length c] 31
theorem ru_cells {w : World} {g : Nat} {r : Ru} {a : Option Addr} {c : Nat} (h : w.heap[g]? = some (ruRow r a c)) : w.cell? ⟨g, 0, none⟩ = some (.int .i64 r.f) ∧ w.cell? ⟨g, 1, none⟩ = some (.int .i64 r.d) ∧ w.cell? ⟨g, 2, none⟩ = some (.int .i64 r.p) ∧ w.cell? ⟨g, 3, none⟩ = some (.int .i64 r.b) ∧ w.cell? ⟨g, 4, none⟩ = some (.slice a r.m.length c) := by
  refine ⟨?_, ?_, ?_, ?_, ?_⟩ <;> rw [cell_of_row _ _ _ _ _ _ h] <;> rfl
set_option maxRecDepth 100000 in
set_option maxHeartbeats 8000000 in
theorem walkTreatyOwn (A : Option Addr) (n c : Nat) (l : List Int) (day : Int) (w : World) (h : Rd w w.heap.size 1 A n (ints l)) (_ : n ≤ maxLen) (_ : I64 day) :
    Calls Tryz.prog 3 #[.slice A n c, .int .i64 day] w fun e w' => e = .returned (.bool true) ∧ Below w.heap.size w w' := by
  by_cases hbig : 60 < n
  · have hbig2 : (60 : Int) < (n : Int) := by omega
    go_enter Tryz.func3, Tryz.ntmps3
    go_wp2_with fail
    go_ret
    exact ⟨rfl, Below.refl _ _⟩
  have hbig2 : ¬ (60 : Int) < (n : Int) := by omega
  go_enter Tryz.func3, Tryz.ntmps3
  go_wp2_with fail
  refine (laws_any h (by omega)).mono ?_
  rintro e w1 ⟨A1, n1, c1, AT, cT, X, A3, n3, c3, rfl, hX1, hX2, hm, hf0, hb1⟩
  have HM : Hid (∀ x ∈ X, x.r.m.length ≤ 17592186044416) := Lib.hid fun x hx => by have := hm x hx; omega
  have HM3 := Lib.hid hm
  have HF := Lib.hid hf0
  clear hm hf0 hbig h
  have hfl := field_law A1 AT A3 n1 X.length n3 c1 cT c3 w1
  go_wp2_with fail
  clear hfl
  refine (pick_any day 73049 _ (by omega)).mono ?_
  rintro e w' ⟨rfl, rfl⟩
  have hpd := pick_bd day 73049 (by omega)
  generalize pick day 73049 = pd at *
  obtain ⟨r, hr⟩ : ∃ r, atT (X.map Rv.r) pd = some r := by
    obtain ⟨x, hx, hx0⟩ := HF.out
    exact atT_some (by simp [isD_iff]; omega) (List.mem_map.2 ⟨x, hx, rfl⟩) (by rw [hx0]; exact hpd.1)
  have hr3 := atT_len3 HM3.out hr
  have hz1 := hb1.size
  clear hpd HF HM3
  go_wp2_with fail
  refine (rulesat_any pd hX1 (by omega) HM.out).mono ?_
  rw [hr]
  rintro e w2 ⟨hb2, ac, cc, rfl, hown2⟩
  have hX := hX1.to hb2
  have hrdc := Rd.ofOwn hown2
  have hbb2 := hb1.trans (hb2.mono hz1)
  dsimp only [Rv.agg]
  go_upto_region 6 with (fail)
  obtain ⟨W, hW, rC, hzW, hbW⟩ : ∃ W, W = w2.alloc (ruRow r ac cc) ∧ W.heap[w2.heap.size]? = some (ruRow r ac cc) ∧ W.heap.size = w2.heap.size + 1 ∧ Below w2.heap.size w2 W := ⟨_, rfl, heap_alloc_new w2 _, by simp, (Below.refl _ _).alloc (Nat.le_refl _) _⟩
  rw [← hW]
  clear hW hb1 hb2 hX1 hown2
  have hX3 := hX.to hbW
  have hrdc3 := (hrdc.below hbW).mono hbW.size
  have hbb3 := hbb2.trans (hbW.mono hbb2.size)
  clear hX hrdc hbb2 hbW
  have hCW : w2.heap.size < W.heap.size := by omega
  generalize w2.heap.size = C at *
  go_wp2_with fail
  refine (tat_any pd hX3 (by omega) HM.out).mono ?_
  rw [hr]
  rintro e w4 ⟨hb4, a, c4, rfl, hown4⟩
  dsimp only [Rv.agg]
  go_upto_region 7 with (fail)
  obtain ⟨V, hV, rA, hzV, hbV⟩ : ∃ V, V = w4.alloc (ruRow r a c4) ∧ V.heap[w4.heap.size]? = some (ruRow r a c4) ∧ V.heap.size = w4.heap.size + 1 ∧ Below w4.heap.size w4 V := ⟨_, rfl, heap_alloc_new w4 _, by simp, (Below.refl _ _).alloc (Nat.le_refl _) _⟩
  rw [← hV]
  clear hV
  have hownV := own_underP hown4 hbV
  have hbWV : Below W.heap.size W V := hb4.trans (hbV.mono hb4.size)
  have hAW : W.heap.size ≤ w4.heap.size := hb4.size
  have hAV : w4.heap.size < V.heap.size := by omega
  clear hown4 hb4 hbV hzV
  generalize w4.heap.size = B at *
  go_wp2_with fail
  go_loopw [10] (fun i wr => ∃ (k : Nat) (xs : List Value), k ≤ r.m.length ∧ i = .int .i64 (k : Int) ∧ wr.ownsRow W.heap.size 3 1 (.slice a r.m.length c4) r.m.length xs ∧ wr.heap[B]? = some (ruRow r a c4) ∧ Below W.heap.size W wr) (fun i _ => r.m.length - (intOf i).toNat)
  case atStart => exact ⟨0, _, by omega, rfl, hownV, rA, hbWV⟩
  case round =>
    obtain ⟨k, xs, hk, rfl, hown, rA', hbr⟩ := hrel
    obtain ⟨_, _, _, _, y4⟩ := ru_cells rA'
    have hsz := hbr.size
    by_cases hlt : k < r.m.length
    · have hlt' : (k : Int) < (r.m.length : Int) := by omega
      obtain ⟨a', c', e', _, _, hA⟩ := own_form hown
      injection e' with e1 _ e3
      subst e1 e3
      obtain ⟨g, rfl, hgl⟩ := hA (by omega)
      have hgW : W.heap.size ≤ g := (hown.lt g rfl).1
      have hne : B ≠ g := fun e => own_ne hown rA' (by decide) (by rw [e]; rfl)
      obtain ⟨u, hu⟩ : ∃ u, xs[k]? = some u := ⟨_, List.getElem?_eq_getElem (by rw [hown.1]; omega)⟩
      have hc := hown.cells (g := g) rfl k u hu
      rw [addAt, Nat.zero_add] at hc
      have hfz : wr.frozen? ⟨g, k, none⟩ = false := by
        rcases hown.2 with ⟨h0, _⟩ | ⟨g', cap, cur, hv, _, hg', _⟩
        · cases h0
        · injection hv with hv1 _ _
          injection hv1 with hv1
          injection hv1 with hv1 _ _
          subst hv1
          exact frozen_of_row wr g k _ _ hg'
      go_wp2_with fail
      go_roundw
      case rel => exact ⟨k + 1, _, by omega, by go_num, (hown.stored k (.int .i64 77)).1, (heap_setCell_other wr ⟨g, k, none⟩ B _ (by show B ≠ g; exact hne)).trans rA', hbr.setCell (p := ⟨g, k, none⟩) (by show W.heap.size ≤ g; exact hgW) _⟩
      case measure => simp [intOf]; omega
    · have hlt' : ¬ (k : Int) < (r.m.length : Int) := by omega
      have hX5 := (hX3.below hbr).mono hsz
      have rC5 := (hbr.block C hCW).trans rC
      have hrdc5 := (hrdc3.below hbr).mono hsz
      have hbb5 := hbb3.trans (hbr.mono hbb3.size)
      clear hownV hbWV hown rC hX3 hrdc3
      go_wp2_with fail
      refine (tat_any pd hX5 (by omega) HM.out).mono ?_
      rw [hr]
      rintro e w6 ⟨hb6, a6, c6, rfl, hown6⟩
      dsimp only [Rv.agg]
      clear y4
      go_upto_region 12 with (fail)
      obtain ⟨U, hU, rB, hzU, hbU⟩ : ∃ U, U = w6.alloc (ruRow r a6 c6) ∧ U.heap[w6.heap.size]? = some (ruRow r a6 c6) ∧ U.heap.size = w6.heap.size + 1 ∧ Below w6.heap.size w6 U := ⟨_, rfl, heap_alloc_new w6 _, by simp, (Below.refl _ _).alloc (Nat.le_refl _) _⟩
      rw [← hU]
      clear hU
      have hrdb := Rd.ofOwn (own_underP hown6 hbU)
      have hb56 := hb6.trans (hbU.mono hb6.size)
      have rC6 := (hb56.block C (by omega)).trans rC5
      have hrdc6 := (hrdc5.below hb56).mono hb56.size
      have hbb6 := hbb5.trans (hb56.mono hbb5.size)
      clear hown6 hX5 rC5 hrdc5 hbb5
      go_wp2_with fail
      refine (awk14_any _).mono ?_
      rintro e w7 ⟨rfl, hb7⟩
      have hz7 := hb7.size
      have hz56 := hb56.size
      have kB := (hb7.block w6.heap.size (by omega)).trans rB
      have kC := (hb7.block C (by omega)).trans rC6
      have hrdb7 := (hrdb.below hb7).mono hz7
      have hrdc7 := (hrdc6.below hb7).mono hz7
      have hbb7 := hbb6.trans (hb7.mono hbb6.size)
      obtain ⟨x0, x1, x2, x3, x4⟩ := ru_cells kB
      obtain ⟨z0, z1, z2, z3, z4⟩ := ru_cells kC
      clear kB kC rB rC6 hrdb hrdc6 hbb6 hb7 hb56 hb6 hbU
      go_wp2_with fail
      refine (sameru_any (r := r) (a := a6) (a2 := ac) (c := c6) (c2 := cc) hrdb7 hrdc7 (by omega)).mono ?_
      rintro e w8 ⟨rfl, hb8⟩
      have hbb8 := hbb7.trans (hb8.mono hbb7.size)
      go_wp2_with fail
      go_ret
      exact ⟨ret_bool (by simp), hbb8⟩
end Go.Proofs.YtghmmcdeejhcjaaGreat
