/- The walk of TreatyDays: rules whose members take no more than 2^47 bytes. -/
import Derived.Test.YthncjohekjnjaaaTrL
import Derived.Test.YthncjohekjnjaaaTreatyChecks
namespace Go.Proofs.Ythncjohekjnjaaa
open Go.RowKit

/-- What the two answers share. -/
theorem retAt_form {w w' : World} {o : Option Ru} {e : Ending} (h : RetAt w o e w') : ∃ (r : Ru) (a : Option Addr) (c : Nat) (b : Bool), e = .returned (.tuple #[(⟨r, a, c⟩ : Rv).agg, .bool b]) ∧ Hid (r = o.getD ⟨0, 0, 0, 0, []⟩) ∧ Hid (b = o.isSome) ∧ Rd w' w'.heap.size 1 a r.m.length (ints r.m) ∧ Below w.heap.size w w' := by
  obtain ⟨hb, h⟩ := h
  cases o with
  | none => exact ⟨_, none, 0, false, h, rfl, rfl, Rd.zero _ _ _ _, hb⟩
  | some r =>
    obtain ⟨a, c, he, ho⟩ := h
    exact ⟨r, a, c, true, he, rfl, rfl, Rd.ofOwn ho, hb⟩
theorem atT_len {X : List Rv} {d : Int} {M : Nat} (h : ∀ x ∈ X, x.r.m.length ≤ M) : ((atT (X.map Rv.r) d).getD ⟨0, 0, 0, 0, []⟩).m.length ≤ M := by
  cases e : atT (X.map Rv.r) d with
  | none => exact Nat.zero_le _
  | some r =>
    obtain ⟨x, hx, rfl⟩ := List.mem_map.1 (atT_mem e).1
    exact h x hx

set_option maxRecDepth 100000 in
set_option maxHeartbeats 4000000 in
theorem walkTreatyDays (A : Option Addr) (n c : Nat) (X : List Rv) (mood state day : Int) (w : World) (h : Rus w w.heap.size A n X) (hml : ∀ x ∈ X, x.r.m.length ≤ 17592186044416) (_ : n ≤ maxLen) (_ : I64 mood) (_ : I64 state) (_ : I64 day) :
    Calls Try.prog 3 #[.slice A n c, .int .i64 mood, .int .i64 state, .int .i64 day] w fun e w' => e = .returned (.bool true) ∧ Below w.heap.size w w' := by
  by_cases hbig : 12 < n
  · have hbig2 : (12 : Int) < (n : Int) := by omega
    go_enter Try.func3, Try.ntmps3
    go_wp2_with fail
    go_ret
    exact ⟨rfl, Below.refl _ _⟩
  have hbig2 : ¬ (12 : Int) < (n : Int) := by omega
  obtain ⟨b8, hb8⟩ : ∃ b, (day.tmod 8 != 0) = b := ⟨_, rfl⟩
  have HM := Lib.hid hml
  clear hml
  go_enter Try.func3, Try.ntmps3
  go_wp2_with fail
  refine (rules_any mood h (by omega) HM.out (by omega)).mono ?_
  rintro e w1 ⟨A1, n1, c1, X1, rfl, h1, hn1, hm1, hb1⟩
  have HM1 := Lib.hid hm1
  have HM2 : Hid (∀ x ∈ X1, x.r.m.length ≤ 17592186044416) := Lib.hid fun x hx => by have := hm1 x hx; omega
  have hz1 := hb1.size
  clear hm1 h HM
  cases b8
  · go_wp2_with fail
    refine (tat_any day h1 (by omega) HM2.out).mono ?_
    intro e w2 hr2
    obtain ⟨r, a, c2, ok, rfl, hr, hok, hrd2, hb2⟩ := retAt_form hr2
    clear hr2
    have h2 := h1.to hb2
    have hz2 := hb2.size
    dsimp only [Rv.agg]
    go_upto_region 7 with (fail)
    have hbx := (Below.refl w2.heap.size w2).alloc (Nat.le_refl _) (.cells #[.int .i64 r.f, .int .i64 r.d, .int .i64 r.p, .int .i64 r.b, .slice a r.m.length c2] 27)
    have hrow := heap_alloc_new w2 (.cells #[.int .i64 r.f, .int .i64 r.d, .int .i64 r.p, .int .i64 r.b, .slice a r.m.length c2] 27)
    obtain ⟨W, hW⟩ : ∃ W, W = w2.alloc (.cells #[.int .i64 r.f, .int .i64 r.d, .int .i64 r.p, .int .i64 r.b, .slice a r.m.length c2] 27) := ⟨_, rfl⟩
    rw [← hW] at hbx hrow ⊢
    clear hW
    have h3 := h2.to hbx
    have hz3 := hbx.size
    have hbox2 : w2.heap.size < W.heap.size := (Array.getElem?_eq_some_iff.1 hrow).1
    have hrd3 := (hrd2.below hbx).mono hz3
    go_wp2_with fail
    refine (rulesat_any day h3 (by omega) HM2.out).mono ?_
    intro e w4 hr4
    obtain ⟨r', a', c4, ok', rfl, hr', hok', hrd4, hb4⟩ := retAt_form hr4
    have hrr : r' = r := by rw [hr.out, hr'.out]
    have hoo : ok' = ok := by rw [hok.out, hok'.out]
    have hml4 : r.m.length ≤ 17592186044416 := by rw [hr.out]; exact atT_len HM2.out
    clear hr4 hr hr' hok hok'
    subst hrr hoo
    have h4 := h3.to hb4
    have hz4 := hb4.size
    have hrow4 := (hb4.block w2.heap.size hbox2).trans hrow
    have hrd34 := (hrd3.below hb4).mono hz4
    dsimp only [Rv.agg]
    go_upto_region 8 with (fail)
    have hby := (Below.refl w4.heap.size w4).alloc (Nat.le_refl _) (.cells #[.int .i64 r'.f, .int .i64 r'.d, .int .i64 r'.p, .int .i64 r'.b, .slice a' r'.m.length c4] 27)
    have hrowy := heap_alloc_new w4 (.cells #[.int .i64 r'.f, .int .i64 r'.d, .int .i64 r'.p, .int .i64 r'.b, .slice a' r'.m.length c4] 27)
    have hrowx := (hby.block w2.heap.size (by omega)).trans hrow4
    have hrdx := (hrd34.below hby).mono hby.size
    have hrdy := (hrd4.below hby).mono hby.size
    have h5 := h4.to hby
    have hz5 := hby.size
    obtain ⟨V, hV⟩ : ∃ V, V = w4.alloc (.cells #[.int .i64 r'.f, .int .i64 r'.d, .int .i64 r'.p, .int .i64 r'.b, .slice a' r'.m.length c4] 27) := ⟨_, rfl⟩
    rw [← hV] at hby hrowy hrowx hrdx hrdy h5 hz5 ⊢
    clear hV hrow hrow4 hrd2 hrd3 hrd34 hrd4
    have hxl : w2.heap.size < V.heap.size := (Array.getElem?_eq_some_iff.1 hrowx).1
    have hyl : w4.heap.size < V.heap.size := (Array.getElem?_eq_some_iff.1 hrowy).1
    go_wp2_with fail
    refine (awk14_any _).mono ?_
    rintro e w6 ⟨rfl, hb6⟩
    have hz6 := hb6.size
    have kx := (hb6.block w2.heap.size hxl).trans hrowx
    have ky := (hb6.block w4.heap.size hyl).trans hrowy
    have h6 := h5.to hb6
    have hrdx6 := (hrdx.below hb6).mono hz6
    have hrdy6 := (hrdy.below hb6).mono hz6
    have y0 : w6.cell? ⟨w2.heap.size, 0, none⟩ = some (.int .i64 r'.f) := by rw [cell_of_row w6 _ 0 _ _ _ kx]; rfl
    have y1 : w6.cell? ⟨w2.heap.size, 1, none⟩ = some (.int .i64 r'.d) := by rw [cell_of_row w6 _ 1 _ _ _ kx]; rfl
    have y2 : w6.cell? ⟨w2.heap.size, 2, none⟩ = some (.int .i64 r'.p) := by rw [cell_of_row w6 _ 2 _ _ _ kx]; rfl
    have y3 : w6.cell? ⟨w2.heap.size, 3, none⟩ = some (.int .i64 r'.b) := by rw [cell_of_row w6 _ 3 _ _ _ kx]; rfl
    have y4 : w6.cell? ⟨w2.heap.size, 4, none⟩ = some (.slice a r'.m.length c2) := by rw [cell_of_row w6 _ 4 _ _ _ kx]; rfl
    have x0 : w6.cell? ⟨w4.heap.size, 0, none⟩ = some (.int .i64 r'.f) := by rw [cell_of_row w6 _ 0 _ _ _ ky]; rfl
    have x1 : w6.cell? ⟨w4.heap.size, 1, none⟩ = some (.int .i64 r'.d) := by rw [cell_of_row w6 _ 1 _ _ _ ky]; rfl
    have x2 : w6.cell? ⟨w4.heap.size, 2, none⟩ = some (.int .i64 r'.p) := by rw [cell_of_row w6 _ 2 _ _ _ ky]; rfl
    have x3 : w6.cell? ⟨w4.heap.size, 3, none⟩ = some (.int .i64 r'.b) := by rw [cell_of_row w6 _ 3 _ _ _ ky]; rfl
    have x4 : w6.cell? ⟨w4.heap.size, 4, none⟩ = some (.slice a' r'.m.length c4) := by rw [cell_of_row w6 _ 4 _ _ _ ky]; rfl
    have hbb : Below w.heap.size w w6 := hb1.trans ((hb2.trans ((hbx.trans ((hb4.trans ((hby.trans (hb6.mono hz5)).mono hz4)).mono hz3)).mono hz2)).mono hz1)
    have hzb := hbb.size
    clear kx ky hrowx hrowy hrdx hrdy h1 h2 h3 h4 h5 hb1 hb2 hbx hb4 hby hb6
    go_wp2_with fail
    refine (sameru_any (r := r') (a := a) (a2 := a') (c := c2) (c2 := c4) hrdx6 hrdy6 hml4).mono ?_
    rintro e w7 ⟨rfl, hb7⟩
    have h7 := h6.to hb7
    have hb67 := hbb.trans (hb7.mono hzb)
    have hz7 := hb67.size
    go_wp2_with fail
    refine (tmember_any state day h7 (by omega) HM2.out).mono ?_
    rintro e w8 ⟨rfl, hb8'⟩
    have h8 := h7.to hb8'
    have hb78 := hb67.trans (hb8'.mono hz7)
    go_wp2_with fail
    refine (rmember_any state day h8 (by omega) HM2.out).mono ?_
    rintro e w9 ⟨rfl, hb9⟩
    have hb89 := hb78.trans (hb9.mono hb78.size)
    go_wp2_with fail
    go_ret
    exact ⟨ret_bool (by simp), hb89⟩
  · go_wp2_with fail
    refine (pick_any day 73068 _ (by omega)).mono ?_
    rintro e w' ⟨rfl, rfl⟩
    have hpd := pick_bd day 73068 (by omega)
    generalize pick day 73068 = pd at *
    go_wp2_with fail
    refine (pick_any state 8 _ (by omega)).mono ?_
    rintro e w' ⟨rfl, rfl⟩
    have hps := pick_bd state 8 (by omega)
    generalize pick state 8 = ps at *
    clear hb8
    obtain ⟨day', hday⟩ : ∃ d, d = pd - 10 := ⟨_, rfl⟩
    obtain ⟨state', hstate⟩ : ∃ d, d = ps - 1 := ⟨_, rfl⟩
    go_wp2_with fail
    rw [← hday, ← hstate]
    clear hday hstate hpd hps
    refine (tat_any day' h1 (by omega) HM2.out).mono ?_
    intro e w2 hr2
    obtain ⟨r, a, c2, ok, rfl, hr, hok, hrd2, hb2⟩ := retAt_form hr2
    clear hr2
    have h2 := h1.to hb2
    have hz2 := hb2.size
    dsimp only [Rv.agg]
    go_upto_region 7 with (fail)
    have hbx := (Below.refl w2.heap.size w2).alloc (Nat.le_refl _) (.cells #[.int .i64 r.f, .int .i64 r.d, .int .i64 r.p, .int .i64 r.b, .slice a r.m.length c2] 27)
    have hrow := heap_alloc_new w2 (.cells #[.int .i64 r.f, .int .i64 r.d, .int .i64 r.p, .int .i64 r.b, .slice a r.m.length c2] 27)
    obtain ⟨W, hW⟩ : ∃ W, W = w2.alloc (.cells #[.int .i64 r.f, .int .i64 r.d, .int .i64 r.p, .int .i64 r.b, .slice a r.m.length c2] 27) := ⟨_, rfl⟩
    rw [← hW] at hbx hrow ⊢
    clear hW
    have h3 := h2.to hbx
    have hz3 := hbx.size
    have hbox2 : w2.heap.size < W.heap.size := (Array.getElem?_eq_some_iff.1 hrow).1
    have hrd3 := (hrd2.below hbx).mono hz3
    go_wp2_with fail
    refine (rulesat_any day' h3 (by omega) HM2.out).mono ?_
    intro e w4 hr4
    obtain ⟨r', a', c4, ok', rfl, hr', hok', hrd4, hb4⟩ := retAt_form hr4
    have hrr : r' = r := by rw [hr.out, hr'.out]
    have hoo : ok' = ok := by rw [hok.out, hok'.out]
    have hml4 : r.m.length ≤ 17592186044416 := by rw [hr.out]; exact atT_len HM2.out
    clear hr4 hr hr' hok hok'
    subst hrr hoo
    have h4 := h3.to hb4
    have hz4 := hb4.size
    have hrow4 := (hb4.block w2.heap.size hbox2).trans hrow
    have hrd34 := (hrd3.below hb4).mono hz4
    dsimp only [Rv.agg]
    go_upto_region 8 with (fail)
    have hby := (Below.refl w4.heap.size w4).alloc (Nat.le_refl _) (.cells #[.int .i64 r'.f, .int .i64 r'.d, .int .i64 r'.p, .int .i64 r'.b, .slice a' r'.m.length c4] 27)
    have hrowy := heap_alloc_new w4 (.cells #[.int .i64 r'.f, .int .i64 r'.d, .int .i64 r'.p, .int .i64 r'.b, .slice a' r'.m.length c4] 27)
    have hrowx := (hby.block w2.heap.size (by omega)).trans hrow4
    have hrdx := (hrd34.below hby).mono hby.size
    have hrdy := (hrd4.below hby).mono hby.size
    have h5 := h4.to hby
    have hz5 := hby.size
    obtain ⟨V, hV⟩ : ∃ V, V = w4.alloc (.cells #[.int .i64 r'.f, .int .i64 r'.d, .int .i64 r'.p, .int .i64 r'.b, .slice a' r'.m.length c4] 27) := ⟨_, rfl⟩
    rw [← hV] at hby hrowy hrowx hrdx hrdy h5 hz5 ⊢
    clear hV hrow hrow4 hrd2 hrd3 hrd34 hrd4
    have hxl : w2.heap.size < V.heap.size := (Array.getElem?_eq_some_iff.1 hrowx).1
    have hyl : w4.heap.size < V.heap.size := (Array.getElem?_eq_some_iff.1 hrowy).1
    go_wp2_with fail
    refine (awk14_any _).mono ?_
    rintro e w6 ⟨rfl, hb6⟩
    have hz6 := hb6.size
    have kx := (hb6.block w2.heap.size hxl).trans hrowx
    have ky := (hb6.block w4.heap.size hyl).trans hrowy
    have h6 := h5.to hb6
    have hrdx6 := (hrdx.below hb6).mono hz6
    have hrdy6 := (hrdy.below hb6).mono hz6
    have y0 : w6.cell? ⟨w2.heap.size, 0, none⟩ = some (.int .i64 r'.f) := by rw [cell_of_row w6 _ 0 _ _ _ kx]; rfl
    have y1 : w6.cell? ⟨w2.heap.size, 1, none⟩ = some (.int .i64 r'.d) := by rw [cell_of_row w6 _ 1 _ _ _ kx]; rfl
    have y2 : w6.cell? ⟨w2.heap.size, 2, none⟩ = some (.int .i64 r'.p) := by rw [cell_of_row w6 _ 2 _ _ _ kx]; rfl
    have y3 : w6.cell? ⟨w2.heap.size, 3, none⟩ = some (.int .i64 r'.b) := by rw [cell_of_row w6 _ 3 _ _ _ kx]; rfl
    have y4 : w6.cell? ⟨w2.heap.size, 4, none⟩ = some (.slice a r'.m.length c2) := by rw [cell_of_row w6 _ 4 _ _ _ kx]; rfl
    have x0 : w6.cell? ⟨w4.heap.size, 0, none⟩ = some (.int .i64 r'.f) := by rw [cell_of_row w6 _ 0 _ _ _ ky]; rfl
    have x1 : w6.cell? ⟨w4.heap.size, 1, none⟩ = some (.int .i64 r'.d) := by rw [cell_of_row w6 _ 1 _ _ _ ky]; rfl
    have x2 : w6.cell? ⟨w4.heap.size, 2, none⟩ = some (.int .i64 r'.p) := by rw [cell_of_row w6 _ 2 _ _ _ ky]; rfl
    have x3 : w6.cell? ⟨w4.heap.size, 3, none⟩ = some (.int .i64 r'.b) := by rw [cell_of_row w6 _ 3 _ _ _ ky]; rfl
    have x4 : w6.cell? ⟨w4.heap.size, 4, none⟩ = some (.slice a' r'.m.length c4) := by rw [cell_of_row w6 _ 4 _ _ _ ky]; rfl
    have hbb : Below w.heap.size w w6 := hb1.trans ((hb2.trans ((hbx.trans ((hb4.trans ((hby.trans (hb6.mono hz5)).mono hz4)).mono hz3)).mono hz2)).mono hz1)
    have hzb := hbb.size
    clear kx ky hrowx hrowy hrdx hrdy h1 h2 h3 h4 h5 hb1 hb2 hbx hb4 hby hb6
    go_wp2_with fail
    refine (sameru_any (r := r') (a := a) (a2 := a') (c := c2) (c2 := c4) hrdx6 hrdy6 hml4).mono ?_
    rintro e w7 ⟨rfl, hb7⟩
    have h7 := h6.to hb7
    have hb67 := hbb.trans (hb7.mono hzb)
    have hz7 := hb67.size
    go_wp2_with fail
    refine (tmember_any state' day' h7 (by omega) HM2.out).mono ?_
    rintro e w8 ⟨rfl, hb8'⟩
    have h8 := h7.to hb8'
    have hb78 := hb67.trans (hb8'.mono hz7)
    go_wp2_with fail
    refine (rmember_any state' day' h8 (by omega) HM2.out).mono ?_
    rintro e w9 ⟨rfl, hb9⟩
    have hb89 := hb78.trans (hb9.mono hb78.size)
    go_wp2_with fail
    go_ret
    exact ⟨ret_bool (by simp), hb89⟩
end Go.Proofs.Ythncjohekjnjaaa
