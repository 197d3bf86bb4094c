/- The walk of OverlapLocal. -/
import Derived.Test.YtkncfhdfobcjeaaOvY2
import Derived.Test.YtkncfhdfobcjeaaOvH
import Derived.Test.YtkncfhdfobcjeaaSpChain
import Derived.Deep.CutRange
namespace Go.Proofs.Ytkncfhdfobcjeaa
open Go.RowKit

set_option maxRecDepth 100000 in
set_option maxHeartbeats 8000000 in
theorem walkOverlapLocal (A : Option Addr) (n c : Nat) (l : List Pr) (sc : Int) (d : Int) (w : World) (h : Rd w w.heap.size 4 A n (flat Pr.cells l)) (hn : l.length = n) (hok : ∀ p ∈ l, p.ok) (_ : n ≤ maxLen) (isc : I64 sc) (id : I64 d) :
    Calls Try.prog 11 #[.slice A n c, .int .i64 sc, .int .i64 d] w fun e w' => e = .returned (.bool true) ∧ Below w.heap.size w w' := by
  by_cases hbig : 40 < n
  · have hbig2 : (40 : Int) < (n : Int) := by omega
    go_enter Try.func11, Try.ntmps11
    go_wp2_with fail
    go_ret
    exact ⟨rfl, Below.refl _ _⟩
  have hbig2 : ¬ (40 : Int) < (n : Int) := by omega
  have HN := Lib.hid hn
  clear hn
  go_enter Try.func11, Try.ntmps11
  go_wp2_with fail
  refine (claims_any sc h HN.out hok (by omega)).mono ?_
  rintro e w1 ⟨A1, c1, C, rfl, h1, hl1, ho1, hb1⟩
  have HL := Lib.hid hl1
  have HO := Lib.hid ho1
  have hb1z := hb1.size
  clear h hl1 ho1 HN hok
  go_wp2_with fail
  refine (near_any d sc id _).mono ?_
  rintro e w2 ⟨m, rfl, hm, hb2⟩
  have h2 := (h1.below hb2).mono hb2.size
  have hbb2 := hb1.trans (hb2.mono hb1.size)
  clear h1 hb1 hb2 hb1z
  obtain ⟨i0, hi0, hz0, hz1, hz2⟩ := info_parts info_period
  go_wp2_with fail
  go_loopw [8, 9] (fun v i wr => ∃ (k : Nat) (O : List Pr), k ≤ n ∧ i = .int .i64 (k : Int) ∧ O = (C.take k).filter (keepL m) ∧ O.length ≤ k ∧ wr.ownsRow w2.heap.size 50 4 v O.length (flat Pr.cells O) ∧ Below w2.heap.size w2 wr) (fun _ i _ => n - (intOf i).toNat)
  case atStart => exact ⟨0, [], by omega, rfl, rfl, by simp, World.ownsRow_nil _ _ _ _, Below.refl _ _⟩
  case round =>
    obtain ⟨k, O, hk, rfl, hO, hOk, hown, hb⟩ := hrel
    have hwz := hb.size
    have HOO := Lib.hid hO
    obtain ⟨A2, c2, rfl, _, _, _⟩ := own_form hown
    by_cases hlt : k < n
    · clear hO
      have hkl : k < C.length := by rw [HL.out]; exact hlt
      obtain ⟨x, hx⟩ : ∃ x, C[k]? = some x := ⟨_, List.getElem?_eq_getElem hkl⟩
      obtain ⟨_, g, o, rfl, hgb, hc⟩ := (h2.below hb).elem pr_len hx (by omega)
      have e0 : wr.cell? ⟨g, o + k * 4, none⟩ = some (.int .i64 x.s) := hc 0 _ rfl
      have e1 : wr.cell? ⟨g, o + k * 4 + 1, none⟩ = some (.int .i64 x.r) := hc 1 _ rfl
      have e2 : wr.cell? ⟨g, o + k * 4 + 2, none⟩ = some (.int .i64 x.f) := hc 2 _ rfl
      have e3 : wr.cell? ⟨g, o + k * 4 + 3, none⟩ = some (.int .i64 x.t) := hc 3 _ rfl
      have hlo : (0 : Int) ≤ (k : Int) := by omega
      have hhi : (k : Int) < (n : Int) := by omega
      have hgl : g < wr.heap.size := by omega
      have hst : (C.take (k + 1)).filter (keepL m) = if keepL m x = true then O ++ [x] else O := by
        rw [take_snoc hx, List.filter_append, ← HOO.out]
        cases hkx : keepL m x <;> simp [hkx]
      have HST := Lib.hid hst
      clear hx hc hst
      go_upto_region 9 with (fail)
      go_cut [46] from 25 to 53 (fun v wx => v = .bool (keepL m x) ∧ Below wr.heap.size wr wx)
      case first =>
        by_cases c0 : x.r = 1
        · have d0 : (x.r == 1) = true := beq_iff_eq.2 c0
          have hkx : keepL m x = true := by unfold keepL; rw [decide_eq_true c0]; rfl
          have HKX := Lib.hid hkx
          clear hkx
          go_wp2_with fail
          go_meet
          exact ⟨by rw [HKX.out], Below.refl _ _⟩
        · have d0 : (x.r == 1) = false := beq_eq_false_iff_ne.2 c0
          have hkx : keepL m x = dset [x.sp] m := by unfold keepL; rw [decide_eq_false c0]; rfl
          have HKX := Lib.hid hkx
          clear hkx
          go_wp2_with fail
          refine (rcontains_any _ 1 1 [x.sp] m _ (Rd.built (heap_alloc_new wr _) (by simp) rfl) rfl (by omega)).mono ?_
          rintro e w' ⟨rfl, rfl⟩
          go_wp2_with fail
          go_meet
          exact ⟨by rw [HKX.out], (Below.refl _ _).alloc (Nat.le_refl _) _⟩
      case rest =>
        obtain ⟨hcv, hbx⟩ := hcut
        subst hcv
        have hownc := own_under hown hbx
        have hbc := hb.trans (hbx.mono hwz)
        have q0 : wc.cell? ⟨g, o + k * 4, none⟩ = some (.int .i64 x.s) := (hbx.cell (p := ⟨g, o + k * 4, none⟩) hgl).trans e0
        have q1 : wc.cell? ⟨g, o + k * 4 + 1, none⟩ = some (.int .i64 x.r) := (hbx.cell (p := ⟨g, o + k * 4 + 1, none⟩) hgl).trans e1
        have q2 : wc.cell? ⟨g, o + k * 4 + 2, none⟩ = some (.int .i64 x.f) := (hbx.cell (p := ⟨g, o + k * 4 + 2, none⟩) hgl).trans e2
        have q3 : wc.cell? ⟨g, o + k * 4 + 3, none⟩ = some (.int .i64 x.t) := (hbx.cell (p := ⟨g, o + k * 4 + 3, none⟩) hgl).trans e3
        have hzc := hbc.size
        clear e0 e1 e2 e3 hbx
        cases hkx : keepL m x
        · have HT : Hid ((C.take (k + 1)).filter (keepL m) = O) := Lib.hid (by rw [HST.out, hkx]; rfl)
          clear hkx
          go_wp2_with fail
          go_roundw
          case rel => exact ⟨k + 1, O, by omega, by go_num, HT.out.symm, by omega, hownc, hbc⟩
          case measure => simp [intOf]; omega
        · have HT : Hid ((C.take (k + 1)).filter (keepL m) = O ++ [x]) := Lib.hid (by rw [HST.out, hkx]; rfl)
          clear hkx
          go_wp2_with (at_builtin; go_loud (refine wpList_append_rd (by rfl) (.tmp 47) (.tmp 52) 41 (by rfl) w2.heap.size 50 i0 _ 4 32 Try.underlying41 hi0 hz0 hz1 hz2 rfl (by omega) (.slice A2 O.length c2) O.length (flat Pr.cells O) (by rfl) (hownc.alloc _) (wc.heap.size + 1) (some ⟨wc.heap.size, 0, none⟩) 1 1 [.int .i64 x.s, .int .i64 x.r, .int .i64 x.f, .int .i64 x.t] (by rfl) (Rd.built (heap_alloc_new wc _) (by omega) rfl) (by intro u hu; simp at hu; rcases hu with rfl | rfl | rfl | rfl <;> rfl) (by unfold maxLen; omega) (by omega) (by simp; omega) ?_); intro v4 w4 hown4 hg4 hat4)
          have hb4 := (hbc.alloc hbc.size (.cells #[.int .i64 x.s, .int .i64 x.r, .int .i64 x.f, .int .i64 x.t] 50)).grown hg4 (by have := hbc.size; simp; omega) (fun g e => by have := (hownc.lt g e).1; omega)
          have ef : flat Pr.cells (O ++ [x]) = flat Pr.cells O ++ [.int .i64 x.s, .int .i64 x.r, .int .i64 x.f, .int .i64 x.t] := by rw [flat_append, flat_one]; rfl
          have el : (O ++ [x]).length = O.length + 1 := by simp
          go_roundw
          case rel => exact ⟨k + 1, O ++ [x], by omega, by go_num, HT.out.symm, by omega, by rw [el, ef]; exact hown4, hb4⟩
          case measure => simp [intOf]; omega
    · rw [List.take_of_length_le (by have := HL.out; omega)] at hO
      have HE := Lib.hid hO
      have hD := Rd.ofOwn hown
      have h4 := (h2.below hb).mono hwz
      have hbb := hbb2.trans (hb.mono hbb2.size)
      clear hO hown h2 hb hbb2
      go_wp2_with fail
      refine (oat_any m h4 HL.out (by omega)).mono ?_
      rintro e w5 ⟨rfl, hb5⟩
      have hD5 := (hD.below hb5).mono hb5.size
      have hbb5 := hbb.trans (hb5.mono hbb.size)
      obtain ⟨s, r, b, hv⟩ := atV_form C m
      have HV := Lib.hid hv
      rw [hv]
      clear h4 hbb hb5 hv hD
      go_wp2_with fail
      refine (oat_any m hD5 rfl (by omega)).mono ?_
      rintro e w6 ⟨rfl, hb6⟩
      have hbb6 := hbb5.trans (hb6.mono hbb5.size)
      have ea : atV O m = .tuple #[.int .i64 s, .int .i64 r, .bool b] := by
        rw [← HV.out, HE.out]
        unfold atV
        rw [local_at]
      rw [ea]
      clear hD5 hbb5 hb6 ea
      go_wp2_with fail
      refine (awk_any w6).mono ?_
      rintro e w7 ⟨rfl, hb7⟩
      go_wp2_with fail
      go_ret
      exact ⟨rfl, hbb6.trans (hb7.mono hbb6.size)⟩
end Go.Proofs.Ytkncfhdfobcjeaa
