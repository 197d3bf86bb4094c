/- Resolve of the reference. -/
import Derived.Test.YtkncfhdfobcjeaaOvG
import Derived.Test.YtkncfhdfobcjeaaOvI
import Derived.Test.YtkncfhdfobcjeaaSpEdges
namespace Go.Proofs.Ytkncfhdfobcjeaa
open Go.RowKit

def rS1 (e : List Int) (a b : Int) : List Int := insS (insS e a) b
def rS2 (e : List Int) (a b : Int) : List Int := if a + 1 < b then insS (rS1 e a b) (a + 1) else rS1 e a b
def rS3 (e : List Int) (a b : Int) : List Int := if a < b - 1 then insS (rS2 e a b) (b - 1) else rS2 e a b
def rS4 (e : List Int) (a b : Int) : List Int := if b + 1 ≤ 73049 then insS (rS3 e a b) (b + 1) else rS3 e a b
theorem refS_rS (e : List Int) (p : Pr) : refS e p = if (cutS p.sp).f < (cutS p.sp).t then rS4 e (cutS p.sp).f (cutS p.sp).t else e := rfl
theorem pcs_end' {mem : Int → List Int} {E : List Int} {k : Nat} {O : List Pc} (h : ¬ k + 1 < E.length) : pcs mem (E.drop k) O = O := by
  have hdl : (E.drop k).length ≤ 1 := by rw [List.length_drop]; omega
  match hE : E.drop k, hdl with
  | [], _ => rfl
  | [_], _ => rfl
  | _ :: _ :: _, hdl => simp at hdl
theorem pcs_step' {mem : Int → List Int} {E : List Int} {k : Nat} {O : List Pc} {a b : Int} (ha : E[k]? = some a) (hb : E[k + 1]? = some b) : pcs mem (E.drop k) O = pcs mem (E.drop (k + 1)) (addP O a b (mem a)) := by
  obtain ⟨h1, h2⟩ := List.getElem?_eq_some_iff.1 ha
  obtain ⟨h3, h4⟩ := List.getElem?_eq_some_iff.1 hb
  rw [List.drop_eq_getElem_cons h1, List.drop_eq_getElem_cons h3, h2, h4]
  rfl
theorem refE_take {C : List Pr} {k : Nat} {x : Pr} (hx : C[k]? = some x) : refE (C.take (k + 1)) = refS (refE (C.take k)) x := by rw [take_snoc hx, refE_snoc]

theorem cc_set_all (X : List Pc) (q : Pc) (b s r : Int) : ((((flat Pc.cc (X ++ [q])).set (X.length * 4) (.int .i64 q.f)).set (X.length * 4 + 1) (.int .i64 b)).set (X.length * 4 + 2) (.int .i64 s)).set (X.length * 4 + 3) (.int .i64 r) = flat Pc.cc (X ++ [⟨q.f, b, [s, r]⟩]) := by
  rw [flat_append, flat_append, flat_one, flat_one, List.set_append_right _ _ (by rw [cc_flen]; omega), List.set_append_right _ _ (by rw [cc_flen]; omega), List.set_append_right _ _ (by rw [cc_flen]; omega), List.set_append_right _ _ (by rw [cc_flen]; omega), cc_flen, show X.length * 4 + 1 - X.length * 4 = 1 by omega, show X.length * 4 + 2 - X.length * 4 = 2 by omega, show X.length * 4 + 3 - X.length * 4 = 3 by omega, Nat.sub_self]
  rfl
theorem cc_setAll {w : World} {base g n c : Nat} {X : List Pc} {q : Pc} (h : w.ownsRow base 52 4 (.slice (some ⟨g, 0, none⟩) n c) n (flat Pc.cc (X ++ [q]))) (b s r : Int) :
    ((((w.setCell ⟨g, X.length * 4, none⟩ (.int .i64 q.f)).setCell ⟨g, X.length * 4 + 1, none⟩ (.int .i64 b)).setCell ⟨g, X.length * 4 + 2, none⟩ (.int .i64 s)).setCell ⟨g, X.length * 4 + 3, none⟩ (.int .i64 r)).ownsRow base 52 4 (.slice (some ⟨g, 0, none⟩) n c) n (flat Pc.cc (X ++ [⟨q.f, b, [s, r]⟩])) := by
  have h1 := (h.stored (X.length * 4) (.int .i64 q.f)).1
  have h2 := (h1.stored (X.length * 4 + 1) (.int .i64 b)).1
  have h3 := (h2.stored (X.length * 4 + 2) (.int .i64 s)).1
  have h4 := (h3.stored (X.length * 4 + 3) (.int .i64 r)).1
  rw [cc_set_all] at h4
  simpa using h4

set_option maxRecDepth 100000 in
set_option maxHeartbeats 8000000 in
theorem rresolve_any {A : Option Addr} {n c : Nat} {C : List Pr} {w : World} (hI : ∀ p ∈ C, I64 p.f ∧ I64 p.t) (h : Rd w w.heap.size 4 A n (flat Pr.cells C)) (hn : C.length = n) (hn2 : n ≤ 100) :
    Calls Try.prog 32 #[.slice A n c] w (RetCt w C) := by
  have HN := Lib.hid hn
  have HI := Lib.hid hI
  obtain ⟨i2, hi2, hp0, hp1, hp2⟩ := info_parts info_counted
  clear hn hI
  go_enter Try.func32, Try.ntmps32
  go_wp2_with fail
  go_loopw [3, 4] (fun v i wr => ∃ (k : Nat) (A2 : Option Addr) (c2 : Nat) (O2 : List Int), k ≤ n ∧ i = .int .i64 (k : Int) ∧ v = .slice A2 O2.length c2 ∧ O2 = refE (C.take k) ∧ Rd wr wr.heap.size 1 A2 O2.length (ints O2) ∧ O2.length ≤ c2 ∧ c2 ≤ maxLen ∧ Below w.heap.size w wr) (fun _ i _ => n - (intOf i).toNat)
  case atStart => exact ⟨0, none, 0, [], by omega, rfl, rfl, rfl, Rd.zero _ _ _ _, Nat.le_refl _, by unfold maxLen; omega, Below.refl _ _⟩
  case round =>
    obtain ⟨k, A2, c2, O2, hk, rfl, rfl, hO2, hrd2', hoc, hcm, hb⟩ := hrel
    have hwsz := hb.size
    have hO2l : O2.length ≤ 5 * k := by
      have := refE_length (C.take k)
      rw [← hO2, List.length_take] at this
      omega
    have hO2s : O2.Pairwise (· < ·) := by rw [hO2]; exact refE_sorted _
    by_cases hlt : k < n
    · have hkl : k < C.length := by rw [HN.out]; exact hlt
      obtain ⟨x, hx⟩ : ∃ x, C[k]? = some x := ⟨_, List.getElem?_eq_getElem hkl⟩
      obtain ⟨_, g, o, rfl, hgb, hc⟩ := (h.below hb).elem pr_len hx (by omega)
      have e2 : wr.cell? ⟨g, o + k * 4 + 2, none⟩ = some (.int .i64 x.f) := hc 2 _ rfl
      have e3 : wr.cell? ⟨g, o + k * 4 + 3, none⟩ = some (.int .i64 x.t) := hc 3 _ rfl
      have hM := refE_take hx
      rw [← hO2, refS_rS] at hM
      have HM := Lib.hid hM
      have hlo : (0 : Int) ≤ (k : Int) := by omega
      have hhi : (k : Int) < (n : Int) := by omega
      have hmx : (if x.f < 0 then 0 else x.f) = max x.f 0 := by split <;> omega
      have hmn : (if 73049 < x.t then 73049 else x.t) = min x.t 73049 := by split <;> omega
      have hgl : g < wr.heap.size := by omega
      have a2 := (World.cell?_alloc_lt wr (.cells #[.int .i64 0, .int .i64 0] 48) ⟨g, o + k * 4 + 2, none⟩ hgl).trans e2
      have a3 := (World.cell?_alloc_lt wr (.cells #[.int .i64 0, .int .i64 0] 48) ⟨g, o + k * 4 + 3, none⟩ hgl).trans e3
      clear hx hc hM hO2
      go_wp2_with fail
      go_region
      have hrow : (wr.alloc (.cells #[.int .i64 (max x.f 0), .int .i64 (min x.t 73049)] 48)).drew.heap[wr.heap.size]? = some (.cells #[.int .i64 (max x.f 0), .int .i64 (min x.t 73049)] 48 (0, 0)) := heap_alloc_new wr _
      have hbW := (hb.alloc hwsz (.cells #[.int .i64 (max x.f 0), .int .i64 (min x.t 73049)] 48)).drew
      have hrdW : Rd (wr.alloc (.cells #[.int .i64 (max x.f 0), .int .i64 (min x.t 73049)] 48)).drew (wr.alloc (.cells #[.int .i64 (max x.f 0), .int .i64 (min x.t 73049)] 48)).drew.heap.size 1 A2 O2.length (ints O2) := (hrd2'.alloc (Nat.le_refl _) (.cells #[.int .i64 (max x.f 0), .int .i64 (min x.t 73049)] 48)).mono (by simp)
      have hzW : wr.heap.size < (wr.alloc (.cells #[.int .i64 (max x.f 0), .int .i64 (min x.t 73049)] 48)).drew.heap.size := by simp
      clear hmx hmn a2 a3 e2 e3 hrd2'
      obtain ⟨W, hW⟩ : ∃ W, W = (wr.alloc (.cells #[.int .i64 (max x.f 0), .int .i64 (min x.t 73049)] 48)).drew := ⟨_, rfl⟩
      rw [← hW] at hrow hbW hrdW hzW ⊢
      clear hW
      have s0 : W.cell? ⟨wr.heap.size, 0, none⟩ = some (.int .i64 (max x.f 0)) := by rw [cell_of_row W _ 0 _ _ _ hrow]; rfl
      have s1 : W.cell? ⟨wr.heap.size, 1, none⟩ = some (.int .i64 (min x.t 73049)) := by rw [cell_of_row W _ 1 _ _ _ hrow]; rfl
      have hWz := hbW.size
      have hM2 : refE (C.take (k + 1)) = if max x.f 0 < min x.t 73049 then rS4 O2 (max x.f 0) (min x.t 73049) else O2 := HM.out
      have hm0 : 0 ≤ max x.f 0 := by omega
      have hm1 : min x.t 73049 ≤ 73049 := by omega
      clear hrow HM hb hgl hgb
      generalize max x.f 0 = mf at *
      generalize min x.t 73049 = mt at *
      by_cases hct : mf < mt
      · rw [if_pos hct] at hM2
        have HM2 := Lib.hid hM2
        have hl1 := length_insS O2 mf
        have hl2 := length_insS (insS O2 mf) mt
        have HSR := Lib.hid hO2s
        have HSR1 := Lib.hid (sorted_insS mf hO2s)
        have HSR2 : Hid ((rS1 O2 mf mt).Pairwise (· < ·)) := Lib.hid (sorted_insS mt (sorted_insS mf hO2s))
        have HL2 : Hid ((rS1 O2 mf mt).length ≤ O2.length + 2) := Lib.hid (by unfold rS1; omega)
        have w1 : IntKind.i64.wrap (mf + 1) = mf + 1 := IntWalk.i64_in _ (by omega)
        have w2 : IntKind.i64.wrap (mt - 1) = mt - 1 := IntWalk.i64_in _ (by omega)
        have w3 : IntKind.i64.wrap (mt + 1) = mt + 1 := IntWalk.i64_in _ (by omega)
        clear hM2 hO2s
        go_upto_region 7 with (fail)
        have s0d : W.drew.cell? ⟨wr.heap.size, 0, none⟩ = some (.int .i64 mf) := s0
        have s1d : W.drew.cell? ⟨wr.heap.size, 1, none⟩ = some (.int .i64 mt) := s1
        have hbWd := hbW.drew
        have hrdWd : Rd W.drew W.drew.heap.size 1 A2 O2.length (ints O2) := hrdW
        have hzWd : wr.heap.size < W.drew.heap.size := hzW
        have hWzd : w.heap.size ≤ W.drew.heap.size := hWz
        go_region_held3 (fun w' => w'.cell? ⟨wr.heap.size, 0, none⟩ = some (.int .i64 mf) ∧ w'.cell? ⟨wr.heap.size, 1, none⟩ = some (.int .i64 mt)) (go_keep)
          (first
            | (go_at_call 51; ((with_reducible refine (ins_any A2 O2.length c2 O2 mf _ hrdWd HSR.out hoc (by omega) hcm).mono ?_)); rintro e w3 ⟨A3, c3, rfl, hrd3, hoc3, hcm3, hb3⟩
               have k0 : w3.cell? ⟨wr.heap.size, 0, none⟩ = some (.int .i64 mf) := (hb3.cell (p := ⟨wr.heap.size, 0, none⟩) hzWd).trans s0d
               have k1 : w3.cell? ⟨wr.heap.size, 1, none⟩ = some (.int .i64 mt) := (hb3.cell (p := ⟨wr.heap.size, 1, none⟩) hzWd).trans s1d
               have hbb3 := hbWd.trans (hb3.mono hWzd)
               have hz3 : wr.heap.size < w3.heap.size := Nat.lt_of_lt_of_le hzWd hb3.size)
            | (go_at_call 51; ((with_reducible refine (ins_any A3 (insS O2 mf).length c3 (insS O2 mf) mt _ hrd3 HSR1.out hoc3 (by omega) hcm3).mono ?_)); rintro e w4 ⟨A4, c4, rfl, hrd4, hoc4, hcm4, hb4⟩
               have g0 : w4.cell? ⟨wr.heap.size, 0, none⟩ = some (.int .i64 mf) := (hb4.cell (p := ⟨wr.heap.size, 0, none⟩) hz3).trans k0
               have g1 : w4.cell? ⟨wr.heap.size, 1, none⟩ = some (.int .i64 mt) := (hb4.cell (p := ⟨wr.heap.size, 1, none⟩) hz3).trans k1
               have hbb4 := hbb3.trans (hb4.mono hbb3.size)
               have hz4 : wr.heap.size < w4.heap.size := Nat.lt_of_lt_of_le hz3 hb4.size))
        clear hl1 hl2 HSR HSR1 hrd3 hoc3 hcm3 k0 k1 hrdW hrdWd s0 s1 s0d s1d hoc hcm hb3 hb4 hbW hbWd hzW hzWd hWz hWzd
        have hrdE : Rd w4 w4.heap.size 1 A4 (rS1 O2 mf mt).length (ints (rS1 O2 mf mt)) := hrd4
        have hocE : (rS1 O2 mf mt).length ≤ c4 := hoc4
        have hval : (Value.slice A4 (insS (insS O2 mf) mt).length c4) = Value.slice A4 (rS1 O2 mf mt).length c4 := rfl
        rw [hval]
        clear hval hrd4 hoc4
        obtain ⟨L, hL⟩ : ∃ L, L = rS1 O2 mf mt := ⟨_, rfl⟩
        have HL1 : Hid (rS1 O2 mf mt = L) := Lib.hid hL.symm
        rw [← hL] at hrdE hocE HSR2 HL2 ⊢
        clear hL
        by_cases hc0 : mf + 1 < mt
        · have h5l := length_insS L (mf + 1)
          go_wp2_with fail
          refine (ins_any A4 L.length c4 L (mf + 1) _ hrdE HSR2.out hocE (by have := HL2.out; omega) hcm4).mono ?_
          rintro e w5 ⟨A5, c5, rfl, hrd5, hoc5, hcm5, hb5⟩
          have g05 : w5.cell? ⟨wr.heap.size, 0, none⟩ = some (.int .i64 mf) := (hb5.cell (p := ⟨wr.heap.size, 0, none⟩) hz4).trans g0
          have g15 : w5.cell? ⟨wr.heap.size, 1, none⟩ = some (.int .i64 mt) := (hb5.cell (p := ⟨wr.heap.size, 1, none⟩) hz4).trans g1
          have hbb5 := hbb4.trans (hb5.mono hbb4.size)
          have hz5 : wr.heap.size < w5.heap.size := Nat.lt_of_lt_of_le hz4 hb5.size
          have HS5 := Lib.hid (sorted_insS (mf + 1) HSR2.out)
          have HL5 : Hid ((insS L (mf + 1)).length ≤ O2.length + 3) := Lib.hid (by have := HL2.out; omega)
          by_cases hc1 : mf < mt - 1
          · have h6l := length_insS (insS L (mf + 1)) (mt - 1)
            go_wp2_with fail
            refine (ins_any A5 (insS L (mf + 1)).length c5 (insS L (mf + 1)) (mt - 1) _ hrd5 HS5.out hoc5 (by have := HL5.out; omega) hcm5).mono ?_
            rintro e w6 ⟨A6, c6, rfl, hrd6, hoc6, hcm6, hb6⟩
            have g06 : w6.cell? ⟨wr.heap.size, 0, none⟩ = some (.int .i64 mf) := (hb6.cell (p := ⟨wr.heap.size, 0, none⟩) hz5).trans g05
            have g16 : w6.cell? ⟨wr.heap.size, 1, none⟩ = some (.int .i64 mt) := (hb6.cell (p := ⟨wr.heap.size, 1, none⟩) hz5).trans g15
            have hbb6 := hbb5.trans (hb6.mono hbb5.size)
            have hz6 : wr.heap.size < w6.heap.size := Nat.lt_of_lt_of_le hz5 hb6.size
            have HS6 := Lib.hid (sorted_insS (mt - 1) HS5.out)
            have HL6 : Hid ((insS (insS L (mf + 1)) (mt - 1)).length ≤ O2.length + 4) := Lib.hid (by have := HL5.out; omega)
            by_cases hc2 : mt + 1 ≤ 73049
            · have h7l := length_insS (insS (insS L (mf + 1)) (mt - 1)) (mt + 1)
              go_wp2_with fail
              refine (ins_any A6 (insS (insS L (mf + 1)) (mt - 1)).length c6 (insS (insS L (mf + 1)) (mt - 1)) (mt + 1) _ hrd6 HS6.out hoc6 (by have := HL6.out; omega) hcm6).mono ?_
              rintro e w7 ⟨A7, c7, rfl, hrd7, hoc7, hcm7, hb7⟩
              have g07 : w7.cell? ⟨wr.heap.size, 0, none⟩ = some (.int .i64 mf) := (hb7.cell (p := ⟨wr.heap.size, 0, none⟩) hz6).trans g06
              have g17 : w7.cell? ⟨wr.heap.size, 1, none⟩ = some (.int .i64 mt) := (hb7.cell (p := ⟨wr.heap.size, 1, none⟩) hz6).trans g16
              have hbb7 := hbb6.trans (hb7.mono hbb6.size)
              have hz7 : wr.heap.size < w7.heap.size := Nat.lt_of_lt_of_le hz6 hb7.size
              have HS7 := Lib.hid (sorted_insS (mt + 1) HS6.out)
              have HL7 : Hid ((insS (insS (insS L (mf + 1)) (mt - 1)) (mt + 1)).length ≤ O2.length + 5) := Lib.hid (by have := HL6.out; omega)
              have hT : refE (C.take (k + 1)) = (insS (insS (insS L (mf + 1)) (mt - 1)) (mt + 1)) := by
                rw [HM2.out]
                unfold rS4 rS3 rS2
                rw [if_pos hc2, if_pos hc1, if_pos hc0, HL1.out]
              have HT := Lib.hid hT
              clear hT
              go_wp2_with fail
              go_roundw
              case rel => exact ⟨k + 1, A7, c7, (insS (insS (insS L (mf + 1)) (mt - 1)) (mt + 1)), by omega, by go_num, rfl, HT.out.symm, hrd7, hoc7, hcm7, hbb7⟩
              case measure => simp [intOf]; omega
            · have hd2 : 73049 < mt + 1 := by omega
              have bd2 : decide (mt + 1 ≤ 73049) = false := decide_eq_false hc2
              have HD2 := Lib.hid hd2
              clear hc2 hd2
              have hT : refE (C.take (k + 1)) = (insS (insS L (mf + 1)) (mt - 1)) := by
                rw [HM2.out]
                unfold rS4 rS3 rS2
                rw [if_neg (Int.not_le.2 HD2.out), if_pos hc1, if_pos hc0, HL1.out]
              have HT := Lib.hid hT
              clear hT
              go_wp2_with fail
              go_roundw
              case rel => exact ⟨k + 1, A6, c6, (insS (insS L (mf + 1)) (mt - 1)), by omega, by go_num, rfl, HT.out.symm, hrd6, hoc6, hcm6, hbb6⟩
              case measure => simp [intOf]; omega
          · have hd1 : mt - 1 ≤ mf := by omega
            have bd1 : decide (mf < mt - 1) = false := decide_eq_false hc1
            have HD1 := Lib.hid hd1
            clear hc1 hd1
            by_cases hc2 : mt + 1 ≤ 73049
            · have h7l := length_insS (insS L (mf + 1)) (mt + 1)
              go_wp2_with fail
              refine (ins_any A5 (insS L (mf + 1)).length c5 (insS L (mf + 1)) (mt + 1) _ hrd5 HS5.out hoc5 (by have := HL5.out; omega) hcm5).mono ?_
              rintro e w7 ⟨A7, c7, rfl, hrd7, hoc7, hcm7, hb7⟩
              have g07 : w7.cell? ⟨wr.heap.size, 0, none⟩ = some (.int .i64 mf) := (hb7.cell (p := ⟨wr.heap.size, 0, none⟩) hz5).trans g05
              have g17 : w7.cell? ⟨wr.heap.size, 1, none⟩ = some (.int .i64 mt) := (hb7.cell (p := ⟨wr.heap.size, 1, none⟩) hz5).trans g15
              have hbb7 := hbb5.trans (hb7.mono hbb5.size)
              have hz7 : wr.heap.size < w7.heap.size := Nat.lt_of_lt_of_le hz5 hb7.size
              have HS7 := Lib.hid (sorted_insS (mt + 1) HS5.out)
              have HL7 : Hid ((insS (insS L (mf + 1)) (mt + 1)).length ≤ O2.length + 4) := Lib.hid (by have := HL5.out; omega)
              have hT : refE (C.take (k + 1)) = (insS (insS L (mf + 1)) (mt + 1)) := by
                rw [HM2.out]
                unfold rS4 rS3 rS2
                rw [if_pos hc2, if_neg (Int.not_lt.2 HD1.out), if_pos hc0, HL1.out]
              have HT := Lib.hid hT
              clear hT
              go_wp2_with fail
              go_roundw
              case rel => exact ⟨k + 1, A7, c7, (insS (insS L (mf + 1)) (mt + 1)), by omega, by go_num, rfl, HT.out.symm, hrd7, hoc7, hcm7, hbb7⟩
              case measure => simp [intOf]; omega
            · have hd2 : 73049 < mt + 1 := by omega
              have bd2 : decide (mt + 1 ≤ 73049) = false := decide_eq_false hc2
              have HD2 := Lib.hid hd2
              clear hc2 hd2
              have hT : refE (C.take (k + 1)) = (insS L (mf + 1)) := by
                rw [HM2.out]
                unfold rS4 rS3 rS2
                rw [if_neg (Int.not_le.2 HD2.out), if_neg (Int.not_lt.2 HD1.out), if_pos hc0, HL1.out]
              have HT := Lib.hid hT
              clear hT
              go_wp2_with fail
              go_roundw
              case rel => exact ⟨k + 1, A5, c5, (insS L (mf + 1)), by omega, by go_num, rfl, HT.out.symm, hrd5, hoc5, hcm5, hbb5⟩
              case measure => simp [intOf]; omega
        · have hd0 : mt ≤ mf + 1 := by omega
          have bd0 : decide (mf + 1 < mt) = false := decide_eq_false hc0
          have HD0 := Lib.hid hd0
          clear hc0 hd0
          by_cases hc1 : mf < mt - 1
          · have h6l := length_insS L (mt - 1)
            go_wp2_with fail
            refine (ins_any A4 L.length c4 L (mt - 1) _ hrdE HSR2.out hocE (by have := HL2.out; omega) hcm4).mono ?_
            rintro e w6 ⟨A6, c6, rfl, hrd6, hoc6, hcm6, hb6⟩
            have g06 : w6.cell? ⟨wr.heap.size, 0, none⟩ = some (.int .i64 mf) := (hb6.cell (p := ⟨wr.heap.size, 0, none⟩) hz4).trans g0
            have g16 : w6.cell? ⟨wr.heap.size, 1, none⟩ = some (.int .i64 mt) := (hb6.cell (p := ⟨wr.heap.size, 1, none⟩) hz4).trans g1
            have hbb6 := hbb4.trans (hb6.mono hbb4.size)
            have hz6 : wr.heap.size < w6.heap.size := Nat.lt_of_lt_of_le hz4 hb6.size
            have HS6 := Lib.hid (sorted_insS (mt - 1) HSR2.out)
            have HL6 : Hid ((insS L (mt - 1)).length ≤ O2.length + 3) := Lib.hid (by have := HL2.out; omega)
            by_cases hc2 : mt + 1 ≤ 73049
            · have h7l := length_insS (insS L (mt - 1)) (mt + 1)
              go_wp2_with fail
              refine (ins_any A6 (insS L (mt - 1)).length c6 (insS L (mt - 1)) (mt + 1) _ hrd6 HS6.out hoc6 (by have := HL6.out; omega) hcm6).mono ?_
              rintro e w7 ⟨A7, c7, rfl, hrd7, hoc7, hcm7, hb7⟩
              have g07 : w7.cell? ⟨wr.heap.size, 0, none⟩ = some (.int .i64 mf) := (hb7.cell (p := ⟨wr.heap.size, 0, none⟩) hz6).trans g06
              have g17 : w7.cell? ⟨wr.heap.size, 1, none⟩ = some (.int .i64 mt) := (hb7.cell (p := ⟨wr.heap.size, 1, none⟩) hz6).trans g16
              have hbb7 := hbb6.trans (hb7.mono hbb6.size)
              have hz7 : wr.heap.size < w7.heap.size := Nat.lt_of_lt_of_le hz6 hb7.size
              have HS7 := Lib.hid (sorted_insS (mt + 1) HS6.out)
              have HL7 : Hid ((insS (insS L (mt - 1)) (mt + 1)).length ≤ O2.length + 4) := Lib.hid (by have := HL6.out; omega)
              have hT : refE (C.take (k + 1)) = (insS (insS L (mt - 1)) (mt + 1)) := by
                rw [HM2.out]
                unfold rS4 rS3 rS2
                rw [if_pos hc2, if_pos hc1, if_neg (Int.not_lt.2 HD0.out), HL1.out]
              have HT := Lib.hid hT
              clear hT
              go_wp2_with fail
              go_roundw
              case rel => exact ⟨k + 1, A7, c7, (insS (insS L (mt - 1)) (mt + 1)), by omega, by go_num, rfl, HT.out.symm, hrd7, hoc7, hcm7, hbb7⟩
              case measure => simp [intOf]; omega
            · have hd2 : 73049 < mt + 1 := by omega
              have bd2 : decide (mt + 1 ≤ 73049) = false := decide_eq_false hc2
              have HD2 := Lib.hid hd2
              clear hc2 hd2
              have hT : refE (C.take (k + 1)) = (insS L (mt - 1)) := by
                rw [HM2.out]
                unfold rS4 rS3 rS2
                rw [if_neg (Int.not_le.2 HD2.out), if_pos hc1, if_neg (Int.not_lt.2 HD0.out), HL1.out]
              have HT := Lib.hid hT
              clear hT
              go_wp2_with fail
              go_roundw
              case rel => exact ⟨k + 1, A6, c6, (insS L (mt - 1)), by omega, by go_num, rfl, HT.out.symm, hrd6, hoc6, hcm6, hbb6⟩
              case measure => simp [intOf]; omega
          · have hd1 : mt - 1 ≤ mf := by omega
            have bd1 : decide (mf < mt - 1) = false := decide_eq_false hc1
            have HD1 := Lib.hid hd1
            clear hc1 hd1
            by_cases hc2 : mt + 1 ≤ 73049
            · have h7l := length_insS L (mt + 1)
              go_wp2_with fail
              refine (ins_any A4 L.length c4 L (mt + 1) _ hrdE HSR2.out hocE (by have := HL2.out; omega) hcm4).mono ?_
              rintro e w7 ⟨A7, c7, rfl, hrd7, hoc7, hcm7, hb7⟩
              have g07 : w7.cell? ⟨wr.heap.size, 0, none⟩ = some (.int .i64 mf) := (hb7.cell (p := ⟨wr.heap.size, 0, none⟩) hz4).trans g0
              have g17 : w7.cell? ⟨wr.heap.size, 1, none⟩ = some (.int .i64 mt) := (hb7.cell (p := ⟨wr.heap.size, 1, none⟩) hz4).trans g1
              have hbb7 := hbb4.trans (hb7.mono hbb4.size)
              have hz7 : wr.heap.size < w7.heap.size := Nat.lt_of_lt_of_le hz4 hb7.size
              have HS7 := Lib.hid (sorted_insS (mt + 1) HSR2.out)
              have HL7 : Hid ((insS L (mt + 1)).length ≤ O2.length + 3) := Lib.hid (by have := HL2.out; omega)
              have hT : refE (C.take (k + 1)) = (insS L (mt + 1)) := by
                rw [HM2.out]
                unfold rS4 rS3 rS2
                rw [if_pos hc2, if_neg (Int.not_lt.2 HD1.out), if_neg (Int.not_lt.2 HD0.out), HL1.out]
              have HT := Lib.hid hT
              clear hT
              go_wp2_with fail
              go_roundw
              case rel => exact ⟨k + 1, A7, c7, (insS L (mt + 1)), by omega, by go_num, rfl, HT.out.symm, hrd7, hoc7, hcm7, hbb7⟩
              case measure => simp [intOf]; omega
            · have hd2 : 73049 < mt + 1 := by omega
              have bd2 : decide (mt + 1 ≤ 73049) = false := decide_eq_false hc2
              have HD2 := Lib.hid hd2
              clear hc2 hd2
              have hT : refE (C.take (k + 1)) = L := by
                rw [HM2.out]
                unfold rS4 rS3 rS2
                rw [if_neg (Int.not_le.2 HD2.out), if_neg (Int.not_lt.2 HD1.out), if_neg (Int.not_lt.2 HD0.out), HL1.out]
              have HT := Lib.hid hT
              clear hT
              go_wp2_with fail
              go_roundw
              case rel => exact ⟨k + 1, A4, c4, L, by omega, by go_num, rfl, HT.out.symm, hrdE, hocE, hcm4, hbb4⟩
              case measure => simp [intOf]; omega
      · rw [if_neg hct] at hM2
        have HM2 := Lib.hid hM2
        clear hM2 hO2s
        go_wp2_with fail
        go_roundw
        case rel => exact ⟨k + 1, A2, c2, O2, by omega, by go_num, rfl, HM2.out.symm, hrdW, hoc, hcm, hbW⟩
        case measure => simp [intOf]; omega
    · rw [List.take_of_length_le (by have := HN.out; omega)] at hO2
      subst hO2

      have HRR := Lib.hid (refR_main C)
      have HBE : Hid (∀ x ∈ refE C, 0 ≤ x ∧ x ≤ 73049) := Lib.hid fun x hx => refE_bd hx
      generalize refE C = E at *
      have HRT : Hid (pcs (memC C) E [] = pcs (memC C) E []) := Lib.hid rfl
      clear HRT
      obtain ⟨w6, rfl⟩ : ∃ w6 : World, w6 = wr := ⟨_, rfl⟩
      have hb6 := hb
      have hz6 := hb6.size
      have hEl : E.length ≤ 500 := by omega
      clear hO2l hO2s hb hwsz
      go_wp2_with fail
      go_loopw [6, 7] (fun v i wn => ∃ (m : Nat) (X : List Pc), m ≤ E.length ∧ i = .int .i64 (m : Int) ∧ X.length ≤ m ∧ (∀ p ∈ X, Two p) ∧ wn.ownsRow w6.heap.size 52 4 v X.length (flat Pc.cc X) ∧ pcs (memC C) (E.drop m) X = pcs (memC C) E [] ∧ Below w6.heap.size w6 wn) (fun _ i _ => E.length - (intOf i).toNat)
      case atStart => exact ⟨0, [], by omega, rfl, by simp, by simp, World.ownsRow_nil _ _ _ _, rfl, Below.refl _ _⟩
      case round =>
        obtain ⟨m, X, hm, rfl, hXm, htw, hown, hpcs, hb⟩ := hrel
        have HTW := Lib.hid htw
        clear htw
        have hwsz := hb.size
        have hw1 : IntKind.i64.wrap ((m : Int) + 1) = (m : Int) + 1 := IntWalk.i64_in _ (by omega)
        obtain ⟨A7, c7, rfl, hnc7, hcm7, hA7⟩ := own_form hown
        by_cases hlt2 : m + 1 < E.length
        · obtain ⟨e0, he0⟩ : ∃ x, E[m]? = some x := ⟨_, List.getElem?_eq_getElem (by omega)⟩
          obtain ⟨e1, he1⟩ : ∃ x, E[m + 1]? = some x := ⟨_, List.getElem?_eq_getElem hlt2⟩
          have hq01 : ∀ wx : World, Below w6.heap.size w6 wx → ∃ b o, A2 = some ⟨b, o, none⟩ ∧ b < w6.heap.size ∧ wx.cell? ⟨b, o + m, none⟩ = some (.int .i64 e0) ∧ wx.cell? ⟨b, o + (m + 1), none⟩ = some (.int .i64 e1) := by
            intro wx hbx
            obtain ⟨_, b, o, hA, hbb, q0⟩ := (hrd2'.below hbx).int he0
            obtain ⟨_, b', o', hA', _, q1⟩ := (hrd2'.below hbx).int he1
            rw [hA] at hA'
            injection hA' with hA'
            injection hA' with h1 h2
            subst h1 h2
            exact ⟨b, o, hA, hbb, q0, q1⟩
          rw [pcs_step' he0 he1] at hpcs
          have HPC := Lib.hid hpcs
          have HQ := Lib.hid hq01
          have hlo : (0 : Int) ≤ (m : Int) := by omega
          have hhi : (m : Int) < (E.length : Int) := by omega
          have hhi2 : (m : Int) + 1 < (E.length : Int) := by omega
          have hlo2 : (0 : Int) ≤ (m : Int) + 1 := by omega
          clear he0 he1 hpcs hq01
          obtain ⟨gE, oE, rfl, hgE, q0, q1⟩ := HQ.out wr hb
          have hbw := hb6.trans (hb.mono hz6)
          go_wp2_with fail
          refine (countedat_any e0 HI.out ((h.below hbw).mono hbw.size) HN.out (by omega)).mono ?_
          rintro e w8 ⟨rfl, hb8⟩
          have hb68 := hb.trans (hb8.mono hwsz)
          have hown8 := own_under hown hb8
          obtain ⟨_, _, eA, _, k0, k1⟩ := HQ.out w8 hb68
          injection eA with eA
          injection eA with eA1 eA2
          subst eA1 eA2
          clear q0 q1 hown hb hb8
          cases hat : atC C e0 with
          | none =>
            have hmem : memC C e0 = [] := by unfold memC; rw [hat]
            have hv : atV C e0 = .tuple #[.int .i64 (-1), .int .i64 0, .bool false] := by unfold atV; rw [hat]
            have HPA : Hid (pcs (memC C) (E.drop (m + 1)) X = pcs (memC C) E []) := by have := HPC.out; rw [hmem, addP_nil] at this; exact this
            rw [hv]
            clear hv hat hmem
            go_wp2_with fail
            go_roundw
            case rel => exact ⟨m + 1, X, by omega, by go_num, by omega, HTW.out, hown8, HPA.out, hb68⟩
            case measure => simp [intOf]; omega
          | some p =>
            obtain ⟨s, r⟩ := p
            have hmem : memC C e0 = [s, r] := by unfold memC; rw [hat]
            have hv : atV C e0 = .tuple #[.int .i64 s, .int .i64 r, .bool true] := by unfold atV; rw [hat]
            have HPC2 : Hid (pcs (memC C) (E.drop (m + 1)) (addP X e0 e1 [s, r]) = pcs (memC C) E []) := by have := HPC.out; rw [hmem] at this; exact this
            rw [hv]
            clear hv hat hmem HPC
            rcases List.eq_nil_or_concat X with rfl | ⟨X', q, rfl⟩
            · have HPA : Hid (pcs (memC C) (E.drop (m + 1)) [⟨e0, e1, [s, r]⟩] = pcs (memC C) E []) := HPC2.out
              clear HPC2
              go_upto_region 21 with (fail)
              go_quiet (fail)
              have hown9 : (w8.drewN nq).ownsRow w6.heap.size 52 4 (.slice A7 0 c7) 0 (flat Pc.cc []) := hown8
              have hb9 : Below w6.heap.size w6 (w8.drewN nq) := below_drewN hb68 nq
              have q0' : (w8.drewN nq).cell? ⟨gE, oE + m, none⟩ = some (.int .i64 e0) := k0
              have q1' : (w8.drewN nq).cell? ⟨gE, oE + (m + 1), none⟩ = some (.int .i64 e1) := k1
              go_upto_region 25 with (fail)
              obtain ⟨W9, hW9⟩ : ∃ W, W = w8.drewN nq := ⟨_, rfl⟩
              rw [← hW9] at hown9 hb9 q0' q1' ⊢
              clear hW9 k0 k1 hb68 hown8
              have hz9 := hb9.size
              go_region_held3 (fun w' => w'.cell? ⟨gE, oE + m, none⟩ = some (.int .i64 e0) ∧ w'.cell? ⟨gE, oE + (m + 1), none⟩ = some (.int .i64 e1)) (go_keep) ((refine step_append_rd (by rfl) (.tmp 151) (.tmp 165) 44 (by rfl) w6.heap.size 52 i2 _ 4 32 Try.underlying44 hi2 hp0 hp1 hp2 rfl (by omega) (.slice A7 0 c7) 0 (flat Pc.cc []) (by rfl) (hown9.alloc _) (W9.heap.size + 1) (some ⟨W9.heap.size, 0, none⟩) 1 1 [.int .i64 e0, .int .i64 e1, .int .i64 s, .int .i64 r] (by rfl) (Rd.built (heap_alloc_new W9 _) (by omega) rfl) (by intro u hu; simp at hu; rcases hu with rfl | rfl | rfl | rfl <;> rfl) (by unfold maxLen; omega) (by omega) (by simp; omega) ?_; intro v4 w4 hown4 hg4 hat4; have k0 : w4.cell? ⟨gE, oE + m, none⟩ = some (.int .i64 e0) := hg4.cell ((World.cell?_alloc_lt W9 _ ⟨gE, oE + m, none⟩ (by show gE < _; omega)).trans q0') (fun e => by have := (hown9.lt gE e.symm).1; omega); have k1 : w4.cell? ⟨gE, oE + (m + 1), none⟩ = some (.int .i64 e1) := hg4.cell ((World.cell?_alloc_lt W9 _ ⟨gE, oE + (m + 1), none⟩ (by show gE < _; omega)).trans q1') (fun e => by have := (hown9.lt gE e.symm).1; omega)))
              go_wp2_with fail
              have hbf := (hb9.alloc hb9.size (.cells #[.int .i64 e0, .int .i64 e1, .int .i64 s, .int .i64 r] 52)).drew.grown hg4 (by simp; omega) (fun g e => (hown9.lt g e).1)
              go_roundw
              case rel => exact ⟨m + 1, [⟨e0, e1, [s, r]⟩], by omega, by go_num, by simp, fun p hp => by rw [List.mem_singleton.1 hp]; exact ⟨s, r, rfl⟩, hown4, HPA.out, hbf⟩
              case measure => simp [intOf]; omega
            · rw [List.concat_eq_append] at *
              have hN1 : (X' ++ [q]).length = X'.length + 1 := by simp
              obtain ⟨s', r', hqm⟩ := HTW.out q (by simp)
              obtain ⟨g2, rfl, hg2⟩ := hA7 (by omega)
              have hq0 : (X' ++ [q])[X'.length]? = some q := by simp
              have c0 := ccell hown8 hq0 0 (.int .i64 q.f) rfl
              have c1 := ccell hown8 hq0 1 (.int .i64 q.t) rfl
              have c2' : w8.cell? ⟨g2, X'.length * 4 + 2, none⟩ = some (.int .i64 s') := by have := ccell hown8 hq0 2 _ rfl; rw [hqm] at this; exact this
              have c3' : w8.cell? ⟨g2, X'.length * 4 + 3, none⟩ = some (.int .i64 r') := by have := ccell hown8 hq0 3 _ rfl; rw [hqm] at this; exact this
              rw [Nat.add_zero] at c0
              have hXN : X'.length = (X' ++ [q]).length - 1 := by omega
              rw [hXN] at c0 c1 c2' c3'
              have HAP : Hid (addP (X' ++ [q]) e0 e1 [s, r] = if q.t = e0 ∧ q.m = [s, r] then X' ++ [⟨q.f, e1, [s, r]⟩] else X' ++ [q, ⟨e0, e1, [s, r]⟩]) := Lib.hid (by rw [addP_snoc, if_neg (by simp)])
              have hsa : ∀ W : World, W.ownsRow w6.heap.size 52 4 (.slice (some ⟨g2, 0, none⟩) (X' ++ [q]).length c7) (X' ++ [q]).length (flat Pc.cc (X' ++ [q])) → ((((W.setCell ⟨g2, ((X' ++ [q]).length - 1) * 4, none⟩ (.int .i64 q.f)).setCell ⟨g2, ((X' ++ [q]).length - 1) * 4 + 1, none⟩ (.int .i64 e1)).setCell ⟨g2, ((X' ++ [q]).length - 1) * 4 + 2, none⟩ (.int .i64 s)).setCell ⟨g2, ((X' ++ [q]).length - 1) * 4 + 3, none⟩ (.int .i64 r)).ownsRow w6.heap.size 52 4 (.slice (some ⟨g2, 0, none⟩) (X' ++ [q]).length c7) (X' ++ [q]).length (flat Pc.cc (X' ++ [⟨q.f, e1, [s, r]⟩])) := fun W hW => by rw [← hXN]; exact cc_setAll hW e1 s r
              have HSA := Lib.hid hsa
              have hlm : (X' ++ [(⟨q.f, e1, [s, r]⟩ : Pc)]).length = (X' ++ [q]).length := by simp
              have HLM := Lib.hid hlm
              have hln : (X' ++ [q, (⟨e0, e1, [s, r]⟩ : Pc)]).length = (X' ++ [q]).length + 1 := by simp
              have hfl : flat Pc.cc (X' ++ [q, (⟨e0, e1, [s, r]⟩ : Pc)]) = flat Pc.cc (X' ++ [q]) ++ [.int .i64 e0, .int .i64 e1, .int .i64 s, .int .i64 r] := by rw [show X' ++ [q, (⟨e0, e1, [s, r]⟩ : Pc)] = (X' ++ [q]) ++ [⟨e0, e1, [s, r]⟩] by simp, flat_append _ [_], flat_one]; rfl
              have HLN := Lib.hid hln
              have HFL := Lib.hid hfl
              have HQM := Lib.hid hqm
              have htw2 : ∀ b : Int, ∀ p ∈ X' ++ [(⟨q.f, b, [s, r]⟩ : Pc)], Two p := fun b p hp => by
                rcases List.mem_append.1 hp with hp | hp
                · exact HTW.out p (by simp [hp])
                · rw [List.mem_singleton.1 hp]; exact ⟨s, r, rfl⟩
              have htw3 : ∀ p ∈ X' ++ [q, (⟨e0, e1, [s, r]⟩ : Pc)], Two p := fun p hp => by
                rw [show X' ++ [q, (⟨e0, e1, [s, r]⟩ : Pc)] = (X' ++ [q]) ++ [⟨e0, e1, [s, r]⟩] by simp] at hp
                rcases List.mem_append.1 hp with hp | hp
                · exact HTW.out p hp
                · rw [List.mem_singleton.1 hp]; exact ⟨s, r, rfl⟩
              have HTW2 := Lib.hid htw2
              have HTW3 := Lib.hid htw3
              clear hXN hsa hlm hln hfl hqm htw2 htw3 hq0 HTW hA7 hg2
              generalize hN : (X' ++ [q]).length = N at *
              generalize hF : flat Pc.cc (X' ++ [q]) = F at *
              clear hN hF
              have hg9 : g2 < w8.heap.size := (hown8.lt g2 rfl).2
              have hg2b : w6.heap.size ≤ g2 := (hown8.lt g2 rfl).1
              have hN0 : 0 < N := by omega
              have hN0' : (0 : Int) < (N : Int) := by omega
              have hN0'' : (1 : Int) ≤ (N : Int) := by omega
              have hN01 : 1 ≤ N := by omega
              have hNm : (N : Int) ≤ 500000 := by omega
              have hx3 : 0 ≤ (N : Int) - 1 := by omega
              have hx4 : (N : Int) - 1 < (N : Int) := by omega
              have hwN : IntKind.i64.wrap ((N : Int) - 1) = (N : Int) - 1 := IntWalk.i64_in _ (by omega)
              clear hN1
              by_cases hta : q.t = e0
              · rw [hta] at c1
                by_cases hs1 : s' = s
                · rw [hs1] at c2'
                  by_cases hr1 : r' = r
                  · rw [hr1] at c3'
                    have HPA : Hid (pcs (memC C) (E.drop (m + 1)) (X' ++ [⟨q.f, e1, [s, r]⟩]) = pcs (memC C) E []) := Lib.hid (by have := HPC2.out; rw [HAP.out, if_pos ⟨hta, HQM.out.trans (by rw [hs1, hr1])⟩] at this; exact this)
                    clear HPC2 HAP hta hs1 hr1 HLN HFL HTW3
                    go_upto_region 21 with (fail)
                    go_quiet (fail)
                    have c0q : (w8.drewN nq).cell? ⟨g2, (N - 1) * 4, none⟩ = some (.int .i64 q.f) := c0
                    have c1q : (w8.drewN nq).cell? ⟨g2, (N - 1) * 4 + 1, none⟩ = some (.int .i64 e0) := c1
                    have c2q : (w8.drewN nq).cell? ⟨g2, (N - 1) * 4 + 2, none⟩ = some (.int .i64 s) := c2'
                    have c3q : (w8.drewN nq).cell? ⟨g2, (N - 1) * 4 + 3, none⟩ = some (.int .i64 r) := c3'
                    have f0q : (w8.drewN nq).frozen? ⟨g2, (N - 1) * 4, none⟩ = false := hown8.frozenAt ((N - 1) * 4)
                    have q0q : (w8.drewN nq).cell? ⟨gE, oE + m, none⟩ = some (.int .i64 e0) := k0
                    have q1q : (w8.drewN nq).cell? ⟨gE, oE + (m + 1), none⟩ = some (.int .i64 e1) := k1
                    have hownq : (w8.drewN nq).ownsRow w6.heap.size 52 4 (.slice (some ⟨g2, 0, none⟩) N c7) N F := hown8
                    have hb9 : Below w6.heap.size w6 (w8.drewN nq) := below_drewN hb68 nq
                    have hg9q : g2 < (w8.drewN nq).heap.size := hg9
                    have hgE9 : gE < (w8.drewN nq).heap.size := by have := hb9.size; omega
                    go_upto_region 22 with (fail)
                    obtain ⟨W9, hW9⟩ : ∃ W, W = w8.drewN nq := ⟨_, rfl⟩
                    rw [← hW9] at c0q c1q c2q c3q f0q q0q q1q hownq hb9 hg9q hgE9 ⊢
                    clear hW9 c0 c1 c2' c3' k0 k1 hown8 hb68 hg9
                    have hg9n : g2 ≠ W9.heap.size := by omega
                    have hgE9n : gE ≠ W9.heap.size := by omega
                    go_upto_region 23 with (fail)
                    have hrow := heap_alloc_new W9 (.cells #[.int .i64 q.f, .int .i64 e0, .int .i64 s, .int .i64 r] 52)
                    have hbA : Below W9.heap.size W9 (W9.alloc (.cells #[.int .i64 q.f, .int .i64 e0, .int .i64 s, .int .i64 r] 52)) := (Below.refl _ _).alloc (Nat.le_refl _) _
                    obtain ⟨W10, hW10⟩ : ∃ W, W = W9.alloc (.cells #[.int .i64 q.f, .int .i64 e0, .int .i64 s, .int .i64 r] 52) := ⟨_, rfl⟩
                    rw [← hW10] at hrow hbA ⊢
                    clear hW10
                    have k1 : W10.cell? ⟨gE, oE + (m + 1), none⟩ = some (.int .i64 e1) := (hbA.cell (p := ⟨gE, oE + (m + 1), none⟩) hgE9).trans q1q
                    have b1 : W10.cell? ⟨W9.heap.size, 1, none⟩ = some (.int .i64 e0) := by rw [cell_of_row W10 _ 1 _ _ _ hrow]; rfl
                    have bf1 := frozen_of_row W10 W9.heap.size 1 _ _ hrow
                    clear q0q q1q
                    go_upto_region 24 with (fail)
                    have hrow2 : (W10.setCell ⟨W9.heap.size, 1, none⟩ (.int .i64 e1)).heap[W9.heap.size]? = some (.cells #[.int .i64 q.f, .int .i64 e1, .int .i64 s, .int .i64 r] 52 (0, 0)) := heap_setCell_same W10 W9.heap.size 1 _ _ (.int .i64 e1) hrow
                    have hbS : Below W9.heap.size W9 (W10.setCell ⟨W9.heap.size, 1, none⟩ (.int .i64 e1)) := hbA.setCell (p := ⟨W9.heap.size, 1, none⟩) (Nat.le_refl _) _
                    obtain ⟨W11, hW11⟩ : ∃ W, W = W10.setCell ⟨W9.heap.size, 1, none⟩ (.int .i64 e1) := ⟨_, rfl⟩
                    rw [← hW11] at hrow2 hbS ⊢
                    clear hW11 hrow b1 bf1 k1 hbA
                    have r0 : W11.cell? ⟨W9.heap.size, 0, none⟩ = some (.int .i64 q.f) := by rw [cell_of_row W11 _ 0 _ _ _ hrow2]; rfl
                    have r1 : W11.cell? ⟨W9.heap.size, 1, none⟩ = some (.int .i64 e1) := by rw [cell_of_row W11 _ 1 _ _ _ hrow2]; rfl
                    have r2 : W11.cell? ⟨W9.heap.size, 2, none⟩ = some (.int .i64 s) := by rw [cell_of_row W11 _ 2 _ _ _ hrow2]; rfl
                    have r3 : W11.cell? ⟨W9.heap.size, 3, none⟩ = some (.int .i64 r) := by rw [cell_of_row W11 _ 3 _ _ _ hrow2]; rfl
                    have d0 : W11.cell? ⟨g2, (N - 1) * 4, none⟩ = some (.int .i64 q.f) := (hbS.cell (p := ⟨g2, (N - 1) * 4, none⟩) hg9q).trans c0q
                    have d1 : W11.cell? ⟨g2, (N - 1) * 4 + 1, none⟩ = some (.int .i64 e0) := (hbS.cell (p := ⟨g2, (N - 1) * 4 + 1, none⟩) hg9q).trans c1q
                    have d2 : W11.cell? ⟨g2, (N - 1) * 4 + 2, none⟩ = some (.int .i64 s) := (hbS.cell (p := ⟨g2, (N - 1) * 4 + 2, none⟩) hg9q).trans c2q
                    have d3 : W11.cell? ⟨g2, (N - 1) * 4 + 3, none⟩ = some (.int .i64 r) := (hbS.cell (p := ⟨g2, (N - 1) * 4 + 3, none⟩) hg9q).trans c3q
                    have o11 := own_under hownq hbS
                    have hf0 := o11.frozenAt ((N - 1) * 4)
                    have hf1 := o11.frozenAt ((N - 1) * 4 + 1)
                    have hf2 := o11.frozenAt ((N - 1) * 4 + 2)
                    have hf3 := o11.frozenAt ((N - 1) * 4 + 3)
                    have HSE := Lib.hid (HSA.out W11 o11)
                    have hb11 := hb9.trans (hbS.mono hb9.size)
                    clear o11 HSA c0q c1q c2q c3q f0q hownq hb9 hrow2 hbS hg9q hgE9
                    go_wp2_with fail
                    clear hwN
                    refine ⟨⟨m + 1, X' ++ [⟨q.f, e1, [s, r]⟩], by omega, by go_num, by have := HLM.out; omega, HTW2.out e1, ?_, HPA.out, (((hb11.setCell (p := ⟨g2, (N - 1) * 4, none⟩) hg2b _).setCell (p := ⟨g2, (N - 1) * 4 + 1, none⟩) hg2b _).setCell (p := ⟨g2, (N - 1) * 4 + 2, none⟩) hg2b _).setCell (p := ⟨g2, (N - 1) * 4 + 3, none⟩) hg2b _⟩, by simp [intOf]; omega⟩
                    rw [HLM.out]
                    exact HSE.out
                  · have hdr : (r' == r) = false := beq_eq_false_iff_ne.2 hr1
                    have HPA : Hid (pcs (memC C) (E.drop (m + 1)) (X' ++ [q, ⟨e0, e1, [s, r]⟩]) = pcs (memC C) E []) := Lib.hid (by have := HPC2.out; rw [HAP.out, if_neg (fun e => hr1 (by have := HQM.out.symm.trans e.2; simp at this; exact this.2))] at this; exact this)
                    clear HPC2 HAP hta hs1 hr1 HSA HTW2 HLM
                    go_upto_region 21 with (fail)
                    go_quiet (fail)
                    have hown9 : (w8.drewN nq).ownsRow w6.heap.size 52 4 (.slice (some ⟨g2, 0, none⟩) N c7) N F := hown8
                    have hb9 : Below w6.heap.size w6 (w8.drewN nq) := below_drewN hb68 nq
                    have q0' : (w8.drewN nq).cell? ⟨gE, oE + m, none⟩ = some (.int .i64 e0) := k0
                    have q1' : (w8.drewN nq).cell? ⟨gE, oE + (m + 1), none⟩ = some (.int .i64 e1) := k1
                    go_upto_region 25 with (fail)
                    obtain ⟨W9, hW9⟩ : ∃ W, W = w8.drewN nq := ⟨_, rfl⟩
                    rw [← hW9] at hown9 hb9 q0' q1' ⊢
                    clear hW9 k0 k1 hb68 hown8 c0 c1 c2' c3' hwN
                    have hz9 := hb9.size
                    go_region_held3 (fun w' => w'.cell? ⟨gE, oE + m, none⟩ = some (.int .i64 e0) ∧ w'.cell? ⟨gE, oE + (m + 1), none⟩ = some (.int .i64 e1)) (go_keep) ((refine step_append_rd (by rfl) (.tmp 151) (.tmp 165) 44 (by rfl) w6.heap.size 52 i2 _ 4 32 Try.underlying44 hi2 hp0 hp1 hp2 rfl (by omega) (.slice (some ⟨g2, 0, none⟩) N c7) N F (by rfl) (hown9.alloc _) (W9.heap.size + 1) (some ⟨W9.heap.size, 0, none⟩) 1 1 [.int .i64 e0, .int .i64 e1, .int .i64 s, .int .i64 r] (by rfl) (Rd.built (heap_alloc_new W9 _) (by omega) rfl) (by intro u hu; simp at hu; rcases hu with rfl | rfl | rfl | rfl <;> rfl) (by unfold maxLen; omega) (by omega) (by simp; omega) ?_; intro v4 w4 hown4 hg4 hat4; have k0 : w4.cell? ⟨gE, oE + m, none⟩ = some (.int .i64 e0) := hg4.cell ((World.cell?_alloc_lt W9 _ ⟨gE, oE + m, none⟩ (by show gE < _; omega)).trans q0') (fun e => by have := (hown9.lt gE e.symm).1; omega); have k1 : w4.cell? ⟨gE, oE + (m + 1), none⟩ = some (.int .i64 e1) := hg4.cell ((World.cell?_alloc_lt W9 _ ⟨gE, oE + (m + 1), none⟩ (by show gE < _; omega)).trans q1') (fun e => by have := (hown9.lt gE e.symm).1; omega)))
                    go_wp2_with fail
                    have hbf := (hb9.alloc hb9.size (.cells #[.int .i64 e0, .int .i64 e1, .int .i64 s, .int .i64 r] 52)).drew.grown hg4 (by simp; omega) (fun g e => (hown9.lt g e).1)
                    go_roundw
                    case rel => exact ⟨m + 1, X' ++ [q, ⟨e0, e1, [s, r]⟩], by omega, by go_num, by rw [HLN.out]; omega, HTW3.out, by rw [HLN.out, HFL.out]; exact hown4, HPA.out, hbf⟩
                    case measure => simp [intOf]; omega
                · have hds : (s' == s) = false := beq_eq_false_iff_ne.2 hs1
                  have HPA : Hid (pcs (memC C) (E.drop (m + 1)) (X' ++ [q, ⟨e0, e1, [s, r]⟩]) = pcs (memC C) E []) := Lib.hid (by have := HPC2.out; rw [HAP.out, if_neg (fun e => hs1 (by have := HQM.out.symm.trans e.2; simp at this; exact this.1))] at this; exact this)
                  clear HPC2 HAP hta hs1 HSA HTW2 HLM
                  go_upto_region 21 with (fail)
                  go_quiet (fail)
                  have hown9 : (w8.drewN nq).ownsRow w6.heap.size 52 4 (.slice (some ⟨g2, 0, none⟩) N c7) N F := hown8
                  have hb9 : Below w6.heap.size w6 (w8.drewN nq) := below_drewN hb68 nq
                  have q0' : (w8.drewN nq).cell? ⟨gE, oE + m, none⟩ = some (.int .i64 e0) := k0
                  have q1' : (w8.drewN nq).cell? ⟨gE, oE + (m + 1), none⟩ = some (.int .i64 e1) := k1
                  go_upto_region 25 with (fail)
                  obtain ⟨W9, hW9⟩ : ∃ W, W = w8.drewN nq := ⟨_, rfl⟩
                  rw [← hW9] at hown9 hb9 q0' q1' ⊢
                  clear hW9 k0 k1 hb68 hown8 c0 c1 c2' c3' hwN
                  have hz9 := hb9.size
                  go_region_held3 (fun w' => w'.cell? ⟨gE, oE + m, none⟩ = some (.int .i64 e0) ∧ w'.cell? ⟨gE, oE + (m + 1), none⟩ = some (.int .i64 e1)) (go_keep) ((refine step_append_rd (by rfl) (.tmp 151) (.tmp 165) 44 (by rfl) w6.heap.size 52 i2 _ 4 32 Try.underlying44 hi2 hp0 hp1 hp2 rfl (by omega) (.slice (some ⟨g2, 0, none⟩) N c7) N F (by rfl) (hown9.alloc _) (W9.heap.size + 1) (some ⟨W9.heap.size, 0, none⟩) 1 1 [.int .i64 e0, .int .i64 e1, .int .i64 s, .int .i64 r] (by rfl) (Rd.built (heap_alloc_new W9 _) (by omega) rfl) (by intro u hu; simp at hu; rcases hu with rfl | rfl | rfl | rfl <;> rfl) (by unfold maxLen; omega) (by omega) (by simp; omega) ?_; intro v4 w4 hown4 hg4 hat4; have k0 : w4.cell? ⟨gE, oE + m, none⟩ = some (.int .i64 e0) := hg4.cell ((World.cell?_alloc_lt W9 _ ⟨gE, oE + m, none⟩ (by show gE < _; omega)).trans q0') (fun e => by have := (hown9.lt gE e.symm).1; omega); have k1 : w4.cell? ⟨gE, oE + (m + 1), none⟩ = some (.int .i64 e1) := hg4.cell ((World.cell?_alloc_lt W9 _ ⟨gE, oE + (m + 1), none⟩ (by show gE < _; omega)).trans q1') (fun e => by have := (hown9.lt gE e.symm).1; omega)))
                  go_wp2_with fail
                  have hbf := (hb9.alloc hb9.size (.cells #[.int .i64 e0, .int .i64 e1, .int .i64 s, .int .i64 r] 52)).drew.grown hg4 (by simp; omega) (fun g e => (hown9.lt g e).1)
                  go_roundw
                  case rel => exact ⟨m + 1, X' ++ [q, ⟨e0, e1, [s, r]⟩], by omega, by go_num, by rw [HLN.out]; omega, HTW3.out, by rw [HLN.out, HFL.out]; exact hown4, HPA.out, hbf⟩
                  case measure => simp [intOf]; omega
              · have hdt : (q.t == e0) = false := beq_eq_false_iff_ne.2 hta
                have HPA : Hid (pcs (memC C) (E.drop (m + 1)) (X' ++ [q, ⟨e0, e1, [s, r]⟩]) = pcs (memC C) E []) := Lib.hid (by have := HPC2.out; rw [HAP.out, if_neg (fun e => hta e.1)] at this; exact this)
                clear HPC2 HAP hta HSA HTW2 HLM
                go_upto_region 21 with (fail)
                go_quiet (fail)
                have hown9 : (w8.drewN nq).ownsRow w6.heap.size 52 4 (.slice (some ⟨g2, 0, none⟩) N c7) N F := hown8
                have hb9 : Below w6.heap.size w6 (w8.drewN nq) := below_drewN hb68 nq
                have q0' : (w8.drewN nq).cell? ⟨gE, oE + m, none⟩ = some (.int .i64 e0) := k0
                have q1' : (w8.drewN nq).cell? ⟨gE, oE + (m + 1), none⟩ = some (.int .i64 e1) := k1
                go_upto_region 25 with (fail)
                obtain ⟨W9, hW9⟩ : ∃ W, W = w8.drewN nq := ⟨_, rfl⟩
                rw [← hW9] at hown9 hb9 q0' q1' ⊢
                clear hW9 k0 k1 hb68 hown8 c0 c1 c2' c3' hwN
                have hz9 := hb9.size
                go_region_held3 (fun w' => w'.cell? ⟨gE, oE + m, none⟩ = some (.int .i64 e0) ∧ w'.cell? ⟨gE, oE + (m + 1), none⟩ = some (.int .i64 e1)) (go_keep) ((refine step_append_rd (by rfl) (.tmp 151) (.tmp 165) 44 (by rfl) w6.heap.size 52 i2 _ 4 32 Try.underlying44 hi2 hp0 hp1 hp2 rfl (by omega) (.slice (some ⟨g2, 0, none⟩) N c7) N F (by rfl) (hown9.alloc _) (W9.heap.size + 1) (some ⟨W9.heap.size, 0, none⟩) 1 1 [.int .i64 e0, .int .i64 e1, .int .i64 s, .int .i64 r] (by rfl) (Rd.built (heap_alloc_new W9 _) (by omega) rfl) (by intro u hu; simp at hu; rcases hu with rfl | rfl | rfl | rfl <;> rfl) (by unfold maxLen; omega) (by omega) (by simp; omega) ?_; intro v4 w4 hown4 hg4 hat4; have k0 : w4.cell? ⟨gE, oE + m, none⟩ = some (.int .i64 e0) := hg4.cell ((World.cell?_alloc_lt W9 _ ⟨gE, oE + m, none⟩ (by show gE < _; omega)).trans q0') (fun e => by have := (hown9.lt gE e.symm).1; omega); have k1 : w4.cell? ⟨gE, oE + (m + 1), none⟩ = some (.int .i64 e1) := hg4.cell ((World.cell?_alloc_lt W9 _ ⟨gE, oE + (m + 1), none⟩ (by show gE < _; omega)).trans q1') (fun e => by have := (hown9.lt gE e.symm).1; omega)))
                go_wp2_with fail
                have hbf := (hb9.alloc hb9.size (.cells #[.int .i64 e0, .int .i64 e1, .int .i64 s, .int .i64 r] 52)).drew.grown hg4 (by simp; omega) (fun g e => (hown9.lt g e).1)
                go_roundw
                case rel => exact ⟨m + 1, X' ++ [q, ⟨e0, e1, [s, r]⟩], by omega, by go_num, by rw [HLN.out]; omega, HTW3.out, by rw [HLN.out, HFL.out]; exact hown4, HPA.out, hbf⟩
                case measure => simp [intOf]; omega
        · rw [pcs_end' hlt2] at hpcs
          subst hpcs
          go_wp2_with fail
          go_ret
          exact ⟨A7, c7, _, rfl, HRR.out, HTW.out, by omega, ownsRow_base hown hz6, hb6.trans (hb.mono hz6)⟩
end Go.Proofs.Ytkncfhdfobcjeaa
