/- Check of the program. -/
import Derived.Test.YthncjohekjnjaaaTrG
namespace Go.Proofs.Ythncjohekjnjaaa
open Go.RowKit

theorem tok_kept {x : Rv} {v : Bool} {W : World} (hv : okR x.r = v) (hm : Rd W W.heap.size 1 x.a x.r.m.length (ints x.r.m)) (hml : x.r.m.length ≤ maxLen) (u : Kw W) :
    Calls Try.prog 31 #[.agg #[.int .i64 x.r.f, .int .i64 x.r.d, .int .i64 x.r.p, .int .i64 x.r.b, .slice x.a x.r.m.length x.c]] u.1 fun e w'' => e = .returned (.bool v) ∧ ∃ u' : Kw W, w'' = u'.1 :=
  (tok_any x ((hm.below u.2).mono u.2.size) hml).mono fun _ _ ⟨h1, h2⟩ => ⟨by rw [h1, hv], u.call h2⟩

set_option maxRecDepth 100000 in
set_option maxHeartbeats 4000000 in
theorem tcheck_any {A : Option Addr} {n c : Nat} {X : List Rv} {w : World} (hX : Rus w w.heap.size A n X) (hn : n ≤ maxLen) (hml : ∀ x ∈ X, x.r.m.length ≤ maxLen) :
    Calls Try.prog 18 #[.slice A n c] w fun e w' => e = .returned (.int .i64 (chkT (X.map Rv.r))) ∧ Below w.heap.size w w' := by
  have hXl : (X.map Rv.r).length = n := by rw [List.length_map]; exact hX.2.1
  have HXL := Lib.hid hXl
  have HML := Lib.hid hml
  clear hml hXl
  unfold maxLen at hn
  by_cases h8 : 8 < n
  · have h8' : (8 : Int) < (n : Int) := by omega
    have hv : chkT (X.map Rv.r) = 7 := by unfold chkT; rw [if_pos (by rw [HXL.out]; exact h8)]
    have HV := Lib.hid hv
    clear hv
    go_enter Try.func18, Try.ntmps18
    go_wp2_with fail
    go_ret
    exact ⟨ret_int HV.out.symm, Below.refl _ _⟩
  have h8' : ¬ (8 : Int) < (n : Int) := by omega
  by_cases h0 : n = 0
  · subst h0
    have hv : chkT (X.map Rv.r) = 1 := by rw [List.eq_nil_of_length_eq_zero HXL.out]; rfl
    have HV := Lib.hid hv
    clear hv
    go_enter Try.func18, Try.ntmps18
    go_wp2_with fail
    go_ret
    exact ⟨ret_int HV.out.symm, Below.refl _ _⟩
  have h0' : ((n : Int) == 0) = false := beq_eq_false_iff_ne.2 (by omega)
  have h0'' : ¬ (n : Int) = 0 := by omega
  obtain ⟨y, hy⟩ : ∃ y, X[0]? = some y := ⟨_, List.getElem?_eq_getElem (by rw [hX.2.1]; omega)⟩
  obtain ⟨_, g0, o0, rfl, hg0, q0, _⟩ := rv_cells hX hy
  have q0' : w.cell? ⟨g0, o0, none⟩ = some (.int .i64 y.r.f) := by simpa using q0
  have hlo0 : (0 : Int) < (n : Int) := by omega
  have hX0 : ∃ T, X.map Rv.r = y.r :: T := by
    cases hXX : X with
    | nil => rw [hXX] at hy; simp at hy
    | cons a T => rw [hXX] at hy; simp at hy; exact ⟨T.map Rv.r, by rw [List.map_cons, hy]⟩
  obtain ⟨T, hT⟩ := hX0
  have hck : chkT (X.map Rv.r) = if y.r.f = 0 then if okT (-1) (X.map Rv.r) = true then 0 else 1 else 1 := by
    have h9 : ¬ 8 < (X.map Rv.r).length := by rw [HXL.out]; exact h8
    unfold chkT
    rw [if_neg h9, hT]
  have HCK := Lib.hid hck
  clear hy q0 hT hck
  by_cases hf0 : y.r.f = 0
  · have hf1 : (y.r.f == 0) = true := beq_iff_eq.2 hf0
    rw [hf0] at q0'
    have HC2 : Hid (chkT (X.map Rv.r) = if okT (-1) (X.map Rv.r) = true then 0 else 1) := Lib.hid (by rw [HCK.out, if_pos hf0])
    clear HCK hf0 hf1
    go_enter Try.func18, Try.ntmps18
    go_wp2_with fail
    go_loopw [20] (fun i wr => ∃ k : Nat, k ≤ n ∧ i = .int .i64 (k : Int) ∧ okT (-1) ((X.map Rv.r).take k) = true ∧ Below w.heap.size w wr) (fun i _ => n - (intOf i).toNat)
    case atStart => exact ⟨0, by omega, rfl, rfl, Below.refl _ _⟩
    case round =>
      obtain ⟨k, hk, rfl, hok, hb⟩ := hrel
      have HK := Lib.hid hok
      have hwz := hb.size
      clear hok q0'
      by_cases hlt : k < n
      · obtain ⟨x, hx⟩ : ∃ x, X[k]? = some x := ⟨_, List.getElem?_eq_getElem (by rw [hX.2.1]; exact hlt)⟩
        obtain ⟨_, g, o, hA, hgb, e0, e1, e2, e3, e4, hm⟩ := rv_cells (hX.below hb) hx
        injection hA with hA
        injection hA with hA1 hA2
        subst hA1 hA2
        have hml2 := HML.out x (List.mem_of_getElem? hx)
        have hst := okT_take (b := -1) (show (X.map Rv.r)[k]? = some x.r by rw [List.getElem?_map, hx]; rfl)
        have HST := Lib.hid hst
        have hlo : (0 : Int) ≤ (k : Int) := by omega
        have hhi : (k : Int) < (n : Int) := by omega
        clear hst
        go_upto_region 8 with (fail)
        have hrow := heap_alloc_new wr (.cells #[.int .i64 x.r.f, .int .i64 x.r.d, .int .i64 x.r.p, .int .i64 x.r.b, .slice x.a x.r.m.length x.c] 27)
        have hbx := (Below.refl wr.heap.size wr).alloc (Nat.le_refl _) (.cells #[.int .i64 x.r.f, .int .i64 x.r.d, .int .i64 x.r.p, .int .i64 x.r.b, .slice x.a x.r.m.length x.c] 27)
        obtain ⟨V, hV⟩ : ∃ V, V = wr.alloc (.cells #[.int .i64 x.r.f, .int .i64 x.r.d, .int .i64 x.r.p, .int .i64 x.r.b, .slice x.a x.r.m.length x.c] 27) := ⟨_, rfl⟩
        rw [← hV] at hrow hbx ⊢
        clear hV e0 e1 e2 e3 e4
        have hbV := hb.trans (hbx.mono hwz)
        have hzV := hbV.size
        have hboxl : wr.heap.size < V.heap.size := (Array.getElem?_eq_some_iff.1 hrow).1
        have hmV : Rd V V.heap.size 1 x.a x.r.m.length (ints x.r.m) := (hm.below (hbx.mono hwz)).mono hzV
        have x0 : V.cell? ⟨wr.heap.size, 0, none⟩ = some (.int .i64 x.r.f) := by rw [cell_of_row V _ 0 _ _ _ hrow]; rfl
        have x1 : V.cell? ⟨wr.heap.size, 1, none⟩ = some (.int .i64 x.r.d) := by rw [cell_of_row V _ 1 _ _ _ hrow]; rfl
        have x2 : V.cell? ⟨wr.heap.size, 2, none⟩ = some (.int .i64 x.r.p) := by rw [cell_of_row V _ 2 _ _ _ hrow]; rfl
        have x3 : V.cell? ⟨wr.heap.size, 3, none⟩ = some (.int .i64 x.r.b) := by rw [cell_of_row V _ 3 _ _ _ hrow]; rfl
        have x4 : V.cell? ⟨wr.heap.size, 4, none⟩ = some (.slice x.a x.r.m.length x.c) := by rw [cell_of_row V _ 4 _ _ _ hrow]; rfl
        have f0 : ∀ u : Kw V, u.1.cell? ⟨wr.heap.size, 0, none⟩ = some (.int .i64 x.r.f) := fun u => u.cell (p := ⟨wr.heap.size, 0, none⟩) hboxl x0
        have f1 : ∀ u : Kw V, u.1.cell? ⟨wr.heap.size, 1, none⟩ = some (.int .i64 x.r.d) := fun u => u.cell (p := ⟨wr.heap.size, 1, none⟩) hboxl x1
        have f2 : ∀ u : Kw V, u.1.cell? ⟨wr.heap.size, 2, none⟩ = some (.int .i64 x.r.p) := fun u => u.cell (p := ⟨wr.heap.size, 2, none⟩) hboxl x2
        have f3 : ∀ u : Kw V, u.1.cell? ⟨wr.heap.size, 3, none⟩ = some (.int .i64 x.r.b) := fun u => u.cell (p := ⟨wr.heap.size, 3, none⟩) hboxl x3
        have f4 : ∀ u : Kw V, u.1.cell? ⟨wr.heap.size, 4, none⟩ = some (.slice x.a x.r.m.length x.c) := fun u => u.cell (p := ⟨wr.heap.size, 4, none⟩) hboxl x4
        clear x0 x1 x2 x3 x4 hrow hm
        obtain ⟨t, ht⟩ : ∃ t, okR x.r = t := ⟨_, rfl⟩
        have HT := Lib.hid ht
        clear ht
        cases t
        · have hno : okT (-1) (X.map Rv.r) = false := okT_cut (k := k + 1) (by rw [HST.out, HT.out]; simp)
          have HNO : Hid (chkT (X.map Rv.r) = 1) := Lib.hid (by rw [HC2.out, hno]; rfl)
          clear hno hx
          refine wp_region_kept (by kernel_rfl) (by kernel_rfl) ?_
          repeat (go_big_quiet_step ((go_at_call 31; with_reducible exact tok_kept HT.out hmV hml2 _)))
          refine wpQuiet_nil ?_
          intro _ hw'
          obtain ⟨⟨w2, hb2⟩, rfl⟩ := hw'
          have hB2 := hbV.trans (hb2.mono hzV)
          go_wp2_with fail
          go_ret
          exact ⟨ret_int HNO.out.symm, hB2⟩
        · by_cases hk0 : k = 0
          · subst hk0
            have hd0 : decide ((0 : Int) < ((0 : Nat) : Int)) = false := decide_eq_false (by omega)
            have hd1 : ¬ (0 : Int) < ((0 : Nat) : Int) := by omega
            have hxf : 0 ≤ x.r.f := by
              have := HT.out
              rw [okR_parts] at this
              simp only [Bool.and_eq_true, isD_iff] at this
              exact this.1.1.1.1.1
            have HTT : Hid (okT (-1) ((X.map Rv.r).take (0 + 1)) = true) := Lib.hid (by
              rw [HST.out, HK.out, HT.out, Bool.true_and, Bool.true_and, decide_eq_true_eq]
              show (-1 : Int) < x.r.f
              omega)
            clear hx hxf
            refine wp_region_kept (by kernel_rfl) (by kernel_rfl) ?_
            repeat (go_big_quiet_step ((go_at_call 31; with_reducible exact tok_kept HT.out hmV hml2 _)))
            refine wpQuiet_nil ?_
            intro _ hw'
            obtain ⟨⟨w2, hb2⟩, rfl⟩ := hw'
            have hB2 := hbV.trans (hb2.mono hzV)
            go_wp2_with fail
            go_roundw
            case rel => exact ⟨1, by omega, by go_num, HTT.out, hB2⟩
            case measure => simp [intOf]; omega
          · have hd0 : decide (0 < k) = true := decide_eq_true (by omega)
            have hd1 : (0 : Int) < (k : Int) := by omega
            have hw1 : IntKind.i64.wrap ((k : Int) - 1) = (k : Int) - 1 := IntWalk.i64_in _ (by omega)
            have hlo1 : (0 : Int) ≤ (k : Int) - 1 := by omega
            have hhi1 : (k : Int) - 1 < (n : Int) := by omega
            have hk1 : 1 ≤ k := by omega
            have hk2 : (1 : Int) ≤ (k : Int) := by omega
            have hk3 : (k : Int) ≤ (n : Int) := by omega
            obtain ⟨z, hz⟩ : ∃ z, X[k - 1]? = some z := ⟨_, List.getElem?_eq_getElem (by rw [hX.2.1]; omega)⟩
            obtain ⟨_, g', o', hA, _, z0, _⟩ := rv_cells (hX.below hbV) hz
            injection hA with hA
            injection hA with hA1 hA2
            subst hA1 hA2
            have hgV : g0 < V.heap.size := by omega
            have p0 : ∀ u : Kw V, u.1.cell? ⟨g0, o0 + (k - 1) * 5, none⟩ = some (.int .i64 z.r.f) := fun u => u.cell (p := ⟨g0, o0 + (k - 1) * 5, none⟩) hgV z0
            have hlm : lastT (-1) ((X.map Rv.r).take k) = z.r.f := by
              have := lastT_take (b := -1) (show (X.map Rv.r)[k - 1]? = some z.r by rw [List.getElem?_map, hz]; rfl)
              rwa [show k - 1 + 1 = k by omega] at this
            have HLM := Lib.hid hlm
            clear hlm hz z0 hx
            by_cases hyz : x.r.f ≤ z.r.f
            · have dyz : decide (x.r.f ≤ z.r.f) = true := decide_eq_true hyz
              have hno : okT (-1) (X.map Rv.r) = false := okT_cut (k := k + 1) (by
                rw [HST.out, HK.out, HT.out, Bool.true_and, Bool.true_and, decide_eq_false_iff_not, HLM.out]
                omega)
              have HNO : Hid (chkT (X.map Rv.r) = 1) := Lib.hid (by rw [HC2.out, hno]; rfl)
              clear hno
              refine wp_region_kept (by kernel_rfl) (by kernel_rfl) ?_
              repeat (go_big_quiet_step ((go_at_call 31; with_reducible exact tok_kept HT.out hmV hml2 _)))
              refine wpQuiet_nil ?_
              intro _ hw'
              obtain ⟨⟨w2, hb2⟩, rfl⟩ := hw'
              have hB2 := hbV.trans (hb2.mono hzV)
              go_wp2_with fail
              go_ret
              exact ⟨ret_int HNO.out.symm, hB2⟩
            · have dyz : decide (x.r.f ≤ z.r.f) = false := decide_eq_false hyz
              have HTT : Hid (okT (-1) ((X.map Rv.r).take (k + 1)) = true) := Lib.hid (by
                rw [HST.out, HK.out, HT.out, Bool.true_and, Bool.true_and, decide_eq_true_eq, HLM.out]
                omega)
              refine wp_region_kept (by kernel_rfl) (by kernel_rfl) ?_
              repeat (go_big_quiet_step ((go_at_call 31; with_reducible exact tok_kept HT.out hmV hml2 _)))
              refine wpQuiet_nil ?_
              intro _ hw'
              obtain ⟨⟨w2, hb2⟩, rfl⟩ := hw'
              have hB2 := hbV.trans (hb2.mono hzV)
              go_wp2_with fail
              go_roundw
              case rel => exact ⟨k + 1, by omega, by go_num, HTT.out, hB2⟩
              case measure => simp [intOf]; omega
      · have hok : okT (-1) (X.map Rv.r) = true := by
          have := HK.out
          rwa [List.take_of_length_le (by rw [HXL.out]; omega)] at this
        have HNO : Hid (chkT (X.map Rv.r) = 0) := Lib.hid (by rw [HC2.out, hok]; rfl)
        clear hok
        go_wp2_with fail
        go_ret
        exact ⟨ret_int HNO.out.symm, hb⟩
  · have hf1 : (y.r.f == 0) = false := beq_eq_false_iff_ne.2 hf0
    have HNO : Hid (chkT (X.map Rv.r) = 1) := Lib.hid (by rw [HCK.out, if_neg hf0])
    clear HCK
    go_enter Try.func18, Try.ntmps18
    go_wp2_with fail
    go_ret
    exact ⟨ret_int HNO.out.symm, Below.refl _ _⟩
end Go.Proofs.Ythncjohekjnjaaa
