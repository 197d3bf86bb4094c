/- Membership of the program. -/
import Derived.Test.YtghmmcdeejhcjaaGreatTrD
import Derived.Test.YtghmmcdeejhcjaaGreatSpPs
import Derived.Test.YtghmmcdeejhcjaaGreatSpMake
import Derived.Test.YtghmmcdeejhcjaaGreatSpLawA
namespace Go.Proofs.YtghmmcdeejhcjaaGreat
open Go.RowKit

theorem hs_rd {w : World} {A : Option Addr} {zs : List Int} (h : Hs w A zs) : Rd w w.heap.size 1 A zs.length (ints zs) := by
  rcases h with rfl | ⟨g, rfl, hH, hg⟩
  · exact Rd.zero _ _ _ _
  · refine ⟨by rw [ints_length, Nat.mul_one], fun _ => ⟨g, 0, rfl, hg, fun j u hu => ?_⟩⟩
    rw [ints_at] at hu
    obtain ⟨x, hx, hxu⟩ := Option.map_eq_some_iff.1 hu
    obtain ⟨hj, hjx⟩ := List.getElem?_eq_some_iff.1 hx
    have h1 := (hH j (by simpa using hj)).1
    rw [get_bang hj, hjx, hxu] at h1
    exact h1
theorem map_take_at {X : List Rv} {k : Nat} {x : Rv} (hx : X[k]? = some x) : fromsT ((X.map Rv.r).take (k + 1)) = fromsT ((X.map Rv.r).take k) ++ if isD x.r.f = true then [x.r.f] else [] := by
  rw [List.take_add_one, List.getElem?_map, hx, Option.map_some, Option.toList_some, fromsT_snoc]

set_option maxRecDepth 100000 in
set_option maxHeartbeats 4000000 in
theorem tmembership_any {A : Option Addr} {n c : Nat} {X : List Rv} (s : Int) {w : World} (hX : Rus w w.heap.size A n X) (hn : n ≤ 1000) (hml : ∀ x ∈ X, x.r.m.length ≤ 17592186044416) :
    Calls Tryz.prog 18 #[.slice A n c, .int .i64 s] w (RetNf w (memT (X.map Rv.r) s)) := by
  obtain ⟨i1, hi1, hy0, hy1, hy2⟩ := info_parts info_span
  obtain ⟨i0, hi0, hz0, hz1, hz2⟩ := info_parts info_int
  have HML := Lib.hid hml
  clear hml
  go_enter Tryz.func18, Tryz.ntmps18
  go_upto_region 2 with (fail)
  have hrow := heap_alloc_new w (.cells #[.int .i64 0, .int .i64 73049] 3)
  have hbA := (Below.refl w.heap.size w).alloc (Nat.le_refl _) (.cells #[.int .i64 0, .int .i64 73049] 3)
  have hown0 : (w.alloc (.cells #[.int .i64 0, .int .i64 73049] 3)).ownsRow w.heap.size 3 1 (.slice (some ⟨w.heap.size, 0, none⟩) 2 2) 2 (ints [0, 73049]) := own_full hrow (Nat.le_refl _) rfl (by unfold maxLen; omega)
  obtain ⟨W0, hW0⟩ : ∃ W0, W0 = w.alloc (.cells #[.int .i64 0, .int .i64 73049] 3) := ⟨_, rfl⟩
  rw [← hW0] at hbA hown0 ⊢
  clear hW0 hrow
  go_wp2_with fail
  go_loopw [5, 13] (fun v i wr => ∃ (k : Nat) (A2 : Option Addr) (c2 : Nat) (E : List Int), k ≤ n ∧ i = .int .i64 (k : Int) ∧ v = .slice A2 E.length c2 ∧ E = [0, 73049] ++ fromsT ((X.map Rv.r).take k) ∧ wr.ownsRow w.heap.size 3 1 (.slice A2 E.length c2) E.length (ints E) ∧ Below w.heap.size w wr) (fun _ i _ => n - (intOf i).toNat)
  case atStart => exact ⟨0, _, _, [0, 73049], by omega, rfl, rfl, rfl, hown0, hbA⟩
  case round =>
    obtain ⟨k, A2, c2, E, hk, rfl, rfl, hE, hown, hb⟩ := hrel
    have hwz := hb.size
    have hEl : E.length ≤ 2 + n := by
      have := fromsT_length ((X.map Rv.r).take k)
      rw [List.length_take, List.length_map] at this
      rw [hE]
      simp
      omega
    by_cases hlt : k < n
    · obtain ⟨x, hx⟩ : ∃ x, X[k]? = some x := ⟨_, List.getElem?_eq_getElem (by rw [hX.2.1]; exact hlt)⟩
      obtain ⟨_, b, o, rfl, hbb, e0, e1, e2, e3, e4, _⟩ := rv_cells (hX.below hb) hx
      have hst : [0, 73049] ++ fromsT ((X.map Rv.r).take (k + 1)) = E ++ if isD x.r.f = true then [x.r.f] else [] := by rw [map_take_at hx, hE, List.append_assoc]
      have HST := Lib.hid hst
      have hlo : (0 : Int) ≤ (k : Int) := by omega
      have hhi : (k : Int) < (n : Int) := by omega
      clear hx hst hE hown0 hbA
      go_wp2_with fail
      refine (tvalid_any x.r.f _).mono ?_
      rintro e w' ⟨rfl, rfl⟩
      have hbx := (Below.refl wr.heap.size wr).alloc (Nat.le_refl _) (.cells #[.int .i64 x.r.f, .int .i64 x.r.d, .int .i64 x.r.p, .int .i64 x.r.b, .slice x.a x.r.m.length x.c] 31)
      have hrow := heap_alloc_new wr (.cells #[.int .i64 x.r.f, .int .i64 x.r.d, .int .i64 x.r.p, .int .i64 x.r.b, .slice x.a x.r.m.length x.c] 31)
      obtain ⟨V, hV⟩ : ∃ V, V = wr.alloc (.cells #[.int .i64 x.r.f, .int .i64 x.r.d, .int .i64 x.r.p, .int .i64 x.r.b, .slice x.a x.r.m.length x.c] 31) := ⟨_, rfl⟩
      rw [← hV] at hbx hrow ⊢
      clear hV e0 e1 e2 e3 e4
      have hownV := own_under hown hbx
      have hbV := hb.trans (hbx.mono hwz)
      have hzV := hbV.size
      have x0 : V.cell? ⟨wr.heap.size, 0, none⟩ = some (.int .i64 x.r.f) := by rw [cell_of_row V _ 0 _ _ _ hrow]; rfl
      cases hd : isD x.r.f with
      | false =>
        have HT : Hid ([0, 73049] ++ fromsT ((X.map Rv.r).take (k + 1)) = E) := Lib.hid (by rw [HST.out, hd]; simp)
        clear hd
        go_wp2_with fail
        go_roundw
        case rel => exact ⟨k + 1, A2, c2, E, by omega, by go_num, rfl, HT.out.symm, hownV, hbV⟩
        case measure => simp [intOf]; omega
      | true =>
        have HT : Hid ([0, 73049] ++ fromsT ((X.map Rv.r).take (k + 1)) = E ++ [x.r.f]) := Lib.hid (by rw [HST.out, hd]; simp)
        clear hd
        go_wp2_with (at_builtin; go_loud (refine wpList_append_rd (by rfl) (.tmp 20) (.tmp 23) 22 (by rfl) w.heap.size 3 i0 _ 1 8 Tryz.underlying22 hi0 hz0 hz1 hz2 rfl (by omega) (.slice A2 E.length c2) E.length (ints E) (by rfl) (hownV.alloc _) (V.heap.size + 1) (some ⟨V.heap.size, 0, none⟩) 1 1 [.int .i64 x.r.f] (by rfl) (Rd.built (heap_alloc_new V _) (by omega) rfl) (by intro u hu; simp at hu; rcases hu with rfl; rfl) (by unfold maxLen; omega) (by omega) (by simp; omega) ?_); intro v4 w4 hown4 hg4 hat4; obtain ⟨A4, c4, rfl, _, _, _⟩ := own_form hown4)
        have hb4 := (hbV.alloc hbV.size (.cells #[.int .i64 x.r.f] 3)).grown hg4 (by simp; omega) (fun g e => by have := (hownV.lt g e).1; omega)
        have el : (E ++ [x.r.f]).length = E.length + 1 := by simp
        have HEL := Lib.hid el
        clear el
        go_roundw
        case rel => exact ⟨k + 1, A4, c4, E ++ [x.r.f], by omega, by go_num, by rw [HEL.out], HT.out.symm, by rw [HEL.out, ints_append]; exact hown4, hb4⟩
        case measure => simp [intOf]; omega
    · rw [List.take_of_length_le (by rw [List.length_map, hX.2.1]; omega)] at hE
      have hcut := cutsT_mem (L := X.map Rv.r) s (sortI_le E) (fun x => by rw [mem_sortI, hE]; simp [mem_fromsT])
      have HCUT := Lib.hid hcut
      have hSl := sortI_length E
      have hN1 : 1 ≤ E.length := by rw [← hSl]; exact List.length_pos_of_mem HCUT.out.2.1
      clear hcut hE hown0 hbA
      go_wp2_with fail
      refine (sort_cuts hown (by omega)).mono ?_
      rintro e w5 ⟨rfl, hs5, hg5⟩
      have hb5 := hb.grown hg5 hwz (fun g e => (hown.lt g e).1)
      have hrd5 := hs_rd hs5
      rw [hSl] at hrd5
      have HSL := Lib.hid hSl
      have hz5 := hb5.size
      clear hs5 hg5 hown hb hSl
      generalize sortI E = S at *
      have hX5 := (hX.below hb5).mono hz5
      have hSn : S.length ≤ 1002 := by have := HSL.out; omega
      clear hEl
      generalize E.length = N at *
      go_wp2_with fail
      go_loopw [8, 9] (fun v i wn => ∃ (k : Nat) (O : List Sp), k + 1 ≤ N ∧ i = .int .i64 (k : Int) ∧ O = segTo (memT (X.map Rv.r) s) S k ∧ O.length ≤ k ∧ wn.ownsRow w5.heap.size 59 2 v O.length (flat Sp.cells O) ∧ Below w5.heap.size w5 wn) (fun _ i _ => N + 1 - (intOf i).toNat)
      case atStart => exact ⟨0, [], by omega, rfl, rfl, by simp, World.ownsRow_nil _ _ _ _, Below.refl _ _⟩
      case round =>
        obtain ⟨k, O, hk, rfl, hO, hOk, hown, hb⟩ := hrel
        have hwz := hb.size
        have HO := Lib.hid hO
        obtain ⟨A6, c6, rfl, hnc6, hcm6, hA6⟩ := own_form hown
        have hSN := HSL.out
        have hw1 : IntKind.i64.wrap ((k : Int) + 1) = (k : Int) + 1 := IntWalk.i64_in _ (by omega)
        by_cases hlt : k + 1 < N
        · obtain ⟨a, ha⟩ : ∃ x, S[k]? = some x := ⟨_, List.getElem?_eq_getElem (by omega)⟩
          obtain ⟨b, hbq⟩ : ∃ x, S[k + 1]? = some x := ⟨_, List.getElem?_eq_getElem (by omega)⟩
          have hst := segTo_succ (M := memT (X.map Rv.r) s) ha hbq
          rw [← hO] at hst
          have HST := Lib.hid hst
          have hq01 : ∀ wx : World, Below w5.heap.size w5 wx → ∃ g o, A2 = some ⟨g, o, none⟩ ∧ g < w5.heap.size ∧ wx.cell? ⟨g, o + k, none⟩ = some (.int .i64 a) ∧ wx.cell? ⟨g, o + (k + 1), none⟩ = some (.int .i64 b) := by
            intro wx hbx
            obtain ⟨_, b1, o, hA, hbb, q0⟩ := (hrd5.below hbx).int ha
            obtain ⟨_, b', o', hA', _, q1⟩ := (hrd5.below hbx).int hbq
            rw [hA] at hA'
            injection hA' with hA'
            injection hA' with h1 h2
            subst h1 h2
            exact ⟨b1, o, hA, hbb, q0, q1⟩
          have HQ := Lib.hid hq01
          have hlo : (0 : Int) ≤ (k : Int) := by omega
          have hhi : (k : Int) < (N : Int) := by omega
          have hhi2 : (k : Int) + 1 < (N : Int) := by omega
          have hlo2 : (0 : Int) ≤ (k : Int) + 1 := by omega
          clear ha hbq hst hq01 hO
          obtain ⟨gE, oE, rfl, hgE, q0, q1⟩ := HQ.out wr hb
          go_wp2_with fail
          refine (tmember_any s a ((hX5.below hb).mono hwz) (by omega) HML.out).mono ?_
          rintro e w8 ⟨rfl, hb8⟩
          have hb68 := hb.trans (hb8.mono hwz)
          have hown8 := own_under hown hb8
          obtain ⟨_, _, eA, _, k0, k1⟩ := HQ.out w8 hb68
          injection eA with eA
          injection eA with eA1 eA2
          subst eA1 eA2
          clear q0 q1 hown hb hb8
          cases hmm : memT (X.map Rv.r) s a with
          | false =>
            have HT : Hid (segTo (memT (X.map Rv.r) s) S (k + 1) = O) := Lib.hid (by rw [HST.out, hmm]; simp)
            clear hmm
            go_wp2_with fail
            go_roundw
            case rel => exact ⟨k + 1, O, by omega, by go_num, HT.out.symm, by omega, hown8, hb68⟩
            case measure => simp [intOf]; omega
          | true =>
            have HT : Hid (segTo (memT (X.map Rv.r) s) S (k + 1) = O ++ [⟨a, b⟩]) := Lib.hid (by rw [HST.out, hmm]; simp)
            clear hmm
            have hz8 := hb68.size
            have hlt8 : gE < w8.heap.size := by omega
            go_upto_region 14 with (fail)
            go_region_held3 (fun w' => w'.cell? ⟨gE, oE + k, none⟩ = some (.int .i64 a) ∧ w'.cell? ⟨gE, oE + (k + 1), none⟩ = some (.int .i64 b)) (go_keep) ((refine step_append_rd (by rfl) (.tmp 42) (.tmp 53) 56 (by rfl) w5.heap.size 59 i1 _ 2 16 Tryz.underlying56 hi1 hy0 hy1 hy2 rfl (by omega) (.slice A6 O.length c6) O.length (flat Sp.cells O) (by rfl) (hown8.alloc _) (w8.heap.size + 1) (some ⟨w8.heap.size, 0, none⟩) 1 1 [.int .i64 a, .int .i64 b] (by rfl) (Rd.built (heap_alloc_new w8 _) (by omega) rfl) (by intro u hu; simp at hu; rcases hu with rfl | rfl <;> rfl) (by unfold maxLen; omega) (by omega) (by simp; omega) ?_; intro v4 w4 hown4 hg4 hat4; have k0 : w4.cell? ⟨gE, oE + k, none⟩ = some (.int .i64 a) := hg4.cell ((World.cell?_alloc_lt w8 _ ⟨gE, oE + k, none⟩ (by show gE < _; omega)).trans k0) (fun e => by have := (hown8.lt gE e.symm).1; omega); have k1 : w4.cell? ⟨gE, oE + (k + 1), none⟩ = some (.int .i64 b) := hg4.cell ((World.cell?_alloc_lt w8 _ ⟨gE, oE + (k + 1), none⟩ (by show gE < _; omega)).trans k1) (fun e => by have := (hown8.lt gE e.symm).1; omega)))
            go_wp2_with fail
            have hbf := (hb68.alloc hb68.size (.cells #[.int .i64 a, .int .i64 b] 59)).drew.grown hg4 (by simp; omega) (fun g e => (hown8.lt g e).1)
            have el : (O ++ [(⟨a, b⟩ : Sp)]).length = O.length + 1 := by simp
            have ef : flat Sp.cells (O ++ [(⟨a, b⟩ : Sp)]) = flat Sp.cells O ++ [.int .i64 a, .int .i64 b] := by rw [flat_append, flat_one]; rfl
            go_roundw
            case rel => exact ⟨k + 1, O ++ [⟨a, b⟩], by omega, by go_num, HT.out.symm, by rw [el]; omega, by rw [el, ef]; exact hown4, hbf⟩
            case measure => simp [intOf]; omega
        · have hbw := hb5.trans (hb.mono hz5)
          have hnf : nf (dset O) = nf (memT (X.map Rv.r) s) := by rw [hO]; exact segTo_nf HCUT.out (by omega)
          have HNF := Lib.hid hnf
          have hOl : O.length ≤ 1000000 := by omega
          clear hnf hO
          go_wp2_with fail
          refine (make_nf (Ds.ofOwn hown rfl) hOl).mono ?_
          intro e w6 hr
          unfold RetNf at hr
          rw [HNF.out] at hr
          obtain ⟨A7, c7, rfl, hown7, hb7⟩ := hr
          go_wp2_with fail
          go_ret
          exact ⟨A7, c7, rfl, ownsRow_base hown7 hbw.size, hbw.trans (hb7.mono hbw.size)⟩
end Go.Proofs.YtghmmcdeejhcjaaGreat
