/- The reference's edges. -/
import Derived.Test.YthncjohekjnjaaaSpRefB
import Derived.Test.YthncjohekjnjaaaEdges
import Derived.Test.YthncjohekjnjaaaInsB
namespace Go.Proofs.Ythncjohekjnjaaa
open Go.RowKit

/-- A list of spans that lies in memory: where, how many, the capacity, and what it reads as. -/
structure SRow where
  a : Option Addr
  n : Nat
  c : Nat
  l : List Sp
def SRow.val (r : SRow) : Value := .slice r.a r.n r.c
def SRow.good (w : World) (B : Nat) (r : SRow) : Prop := Rd w B 2 r.a r.n (flat Sp.cells r.l) ∧ r.l.length = r.n ∧ r.n ≤ 5000
def edgR (rs : List SRow) (out : List Int) : List Int := rs.foldl (fun o r => edgL o r.l) out
theorem edgR_sorted : ∀ (rs : List SRow) {out : List Int}, out.Pairwise (· < ·) → (edgR rs out).Pairwise (· < ·)
  | [], _, h => h
  | r :: rs, _, h => edgR_sorted rs (edgL_sorted r.l h)
theorem edgR_snoc (rs : List SRow) (r : SRow) (out : List Int) : edgR (rs ++ [r]) out = edgL (edgR rs out) r.l := by simp [edgR]
theorem edgL_snoc (l : List Sp) (x : Sp) (out : List Int) : edgL out (l ++ [x]) = edgS (edgL out l) x := by simp [edgL]
theorem edgR_length : ∀ (rs : List SRow) (out : List Int), (∀ r ∈ rs, r.l.length ≤ 5000) → (edgR rs out).length ≤ out.length + 10000 * rs.length
  | [], out, _ => by simp [edgR]
  | r :: rs, out, h => by
    have h1 := edgR_length rs (edgL out r.l) fun x hx => h x (by simp [hx])
    have h2 := edgL_length r.l out
    have h3 := h r (by simp)
    show (edgR rs (edgL out r.l)).length ≤ _
    simp only [List.length_cons]
    omega

set_option maxHeartbeats 4000000 in
theorem edges_any (A : Option Addr) (N c : Nat) (rs : List SRow) (w : World) (h : Rd w w.heap.size 1 A N (rs.map SRow.val)) (hg : ∀ r ∈ rs, r.good w w.heap.size) (hN : rs.length = N) (hN2 : N ≤ 50) :
    Calls Try.prog 56 #[.slice A N c] w fun e w' => ∃ A' c', e = .returned (.slice A' (edgR rs []).length c') ∧ Rd w' w'.heap.size 1 A' (edgR rs []).length (ints (edgR rs [])) ∧ Below w.heap.size w w' := by
  have HN := Lib.hid hN
  have HG := Lib.hid hg
  clear hN hg
  go_enter Try.func56, Try.ntmps56
  go_wp2_with fail
  go_loopw [3, 4] (fun v i wr => ∃ (k : Nat) (A' : Option Addr) (c' : Nat) (O : List Int), k ≤ N ∧ i = .int .i64 (k : Int) ∧ v = .slice A' O.length c' ∧ O = edgR (rs.take k) [] ∧ Rd wr wr.heap.size 1 A' O.length (ints O) ∧ O.length ≤ c' ∧ c' ≤ maxLen ∧ Below w.heap.size w wr) (fun _ i _ => N - (intOf i).toNat)
  case atStart => exact ⟨0, none, 0, [], by omega, rfl, rfl, rfl, Rd.zero _ _ _ _, Nat.le_refl _, by unfold maxLen; omega, Below.refl _ _⟩
  case round =>
    obtain ⟨k, A', c', O, hk, rfl, rfl, hO, hrd, hoc, hcm, hb⟩ := hrel
    have hwsz := hb.size
    by_cases hlt : k < N
    · have hkl : k < rs.length := by rw [HN.out]; exact hlt
      obtain ⟨r, hr⟩ : ∃ r, rs[k]? = some r := ⟨_, List.getElem?_eq_getElem hkl⟩
      obtain ⟨hrd2, hrl, hrn⟩ := HG.out r (List.mem_of_getElem? hr)
      have hcell : ∀ wx, Below w.heap.size w wx → ∃ b o, A = some ⟨b, o, none⟩ ∧ b < w.heap.size ∧ wx.cell? ⟨b, o + k, none⟩ = some (.slice r.a r.n r.c) := by
        intro wx hbx
        obtain ⟨b, o, hA, hbb, hc⟩ := (h.below hbx).2 (by omega)
        exact ⟨b, o, hA, hbb, hc k _ (by rw [List.getElem?_map, hr]; rfl)⟩
      have hOl : O.length ≤ 10000 * k := by
        have := edgR_length (rs.take k) [] fun x hx => by
          obtain ⟨_, h1, h2⟩ := HG.out x (List.mem_of_mem_take hx)
          omega
        rw [← hO, List.length_take] at this
        simp at this
        omega
      have hOs : O.Pairwise (· < ·) := by rw [hO]; exact edgR_sorted _ List.Pairwise.nil
      have hstep : edgR (rs.take (k + 1)) [] = edgL O r.l := by rw [List.take_add_one, hr, hO]; exact edgR_snoc _ _ _
      obtain ⟨b, o, rfl, hbb, hcl⟩ := hcell wr hb
      have HST := Lib.hid hstep
      have HCE := Lib.hid hcell
      have HOS := Lib.hid hOs
      have HRL := Lib.hid hrl
      have hlo : (0 : Int) ≤ (k : Int) := by omega
      have hhi : (k : Int) < (N : Int) := by omega
      clear hr hO hstep hcell hOs hrl
      obtain ⟨wo, rfl⟩ : ∃ wo : World, wo = wr := ⟨_, rfl⟩
      go_wp2_with fail
      go_loopw [3, 5] (fun v i wn => ∃ (j : Nat) (A2 : Option Addr) (c2 : Nat) (O2 : List Int), j ≤ r.n ∧ i = .int .i64 (j : Int) ∧ v = .slice A2 O2.length c2 ∧ O2 = edgL O (r.l.take j) ∧ Rd wn wn.heap.size 1 A2 O2.length (ints O2) ∧ O2.length ≤ c2 ∧ c2 ≤ maxLen ∧ Below w.heap.size w wn) (fun _ i _ => r.n - (intOf i).toNat)
      case atStart => exact ⟨0, A', c', O, by omega, rfl, rfl, rfl, hrd, hoc, hcm, hb⟩
      case round =>
        clear hrd hoc hcm hb hcl hwsz
        obtain ⟨j, A2, c2, O2, hj, rfl, rfl, hO2, hrd, hoc, hcm, hb⟩ := hrel
        have hwsz := hb.size
        obtain ⟨b', o', hA, _, hcl⟩ := HCE.out wr hb
        injection hA with hA
        injection hA with hA1 hA2
        subst hA1 hA2
        by_cases hlj : j < r.n
        · have hjl : j < r.l.length := by rw [HRL.out]; exact hlj
          obtain ⟨x, hx⟩ : ∃ x, r.l[j]? = some x := ⟨_, List.getElem?_eq_getElem hjl⟩
          obtain ⟨_, g, o2, hra, hgb, e0, e1⟩ := sp_cells (hrd2.below hb) hx
          have hO2l : O2.length ≤ O.length + 2 * j := by
            have := edgL_length (r.l.take j) O
            rw [← hO2, List.length_take] at this
            omega
          have hO2s : O2.Pairwise (· < ·) := by rw [hO2]; exact edgL_sorted _ HOS.out
          have hstep : edgL O (r.l.take (j + 1)) = edgS O2 x := by rw [take_snocS hx, edgL_snoc, ← hO2]
          have HS := Lib.hid hstep
          have HRA := Lib.hid hra
          have hlo2 : (0 : Int) ≤ (j : Int) := by omega
          have hhi2 : (j : Int) < (r.n : Int) := by omega
          rw [hra] at hcl
          clear hx hO2 hstep hra
          go_wp2_with fail
          refine (rcut_any x.f x.t _).mono ?_
          rintro e w2 ⟨rfl, hb2⟩
          have hbb2 := hb.trans (hb2.mono hwsz)
          have hrd2' := (hrd.below hb2).mono hb2.size
          have hz2 := hb2.size
          clear hrd hb hb2 hcl e0 e1
          have HE1 : Hid (max x.f 0 = (cutS x).f) := rfl
          have HE2 : Hid (min x.t 73049 = (cutS x).t) := rfl
          generalize max x.f 0 = mf at *
          generalize min x.t 73049 = mt at *
          by_cases hct : mf < mt
          · have hdec : decide (mf < mt) = true := by simpa using hct
            have HS2 : Hid (edgL O (r.l.take (j + 1)) = insS (insS O2 mf) mt) := by
              have := HS.out
              unfold edgS at this
              rw [← HE1.out, ← HE2.out, if_pos hct] at this
              exact this
            have hs1 := sorted_insS mf hO2s
            have hl1 := length_insS O2 mf
            have hl2 := length_insS (insS O2 mf) mt
            have HSR := Lib.hid hO2s
            have HSR1 := Lib.hid hs1
            rw [hdec]
            clear hdec hct HS hO2s hs1
            go_upto_region 10 with (fail)
            have hrow : (w2.alloc (.cells #[.int .i64 mf, .int .i64 mt] 48)).heap[w2.heap.size]? = some (.cells #[.int .i64 mf, .int .i64 mt] 48 (0, 0)) := heap_alloc_new w2 _
            have hbW := hbb2.alloc hbb2.size (.cells #[.int .i64 mf, .int .i64 mt] 48)
            have hrdW := (hrd2'.alloc (Nat.le_refl _) (.cells #[.int .i64 mf, .int .i64 mt] 48)).mono (show w2.heap.size ≤ (w2.alloc (.cells #[.int .i64 mf, .int .i64 mt] 48)).heap.size by simp)
            have hzW : w2.heap.size < (w2.alloc (.cells #[.int .i64 mf, .int .i64 mt] 48)).heap.size := by simp
            obtain ⟨W, hW⟩ : ∃ W, W = w2.alloc (.cells #[.int .i64 mf, .int .i64 mt] 48) := ⟨_, rfl⟩
            rw [← hW] at hrow hbW hrdW hzW ⊢
            clear hW
            have s0 : W.cell? ⟨w2.heap.size, 0, none⟩ = some (.int .i64 mf) := by rw [cell_of_row W _ 0 _ _ _ hrow]; rfl
            have s1 : W.cell? ⟨w2.heap.size, 1, none⟩ = some (.int .i64 mt) := by rw [cell_of_row W _ 1 _ _ _ hrow]; rfl
            have hbWd := hbW.drew
            have hrdWd : Rd W.drew W.drew.heap.size 1 A2 O2.length (ints O2) := hrdW
            have hWz := hbW.size
            clear hrd2' hbb2 hrow
            go_region_held3 (fun w' => w'.cell? ⟨w2.heap.size, 0, none⟩ = some (.int .i64 mf) ∧ w'.cell? ⟨w2.heap.size, 1, none⟩ = some (.int .i64 mt)) (go_keep)
              (first
                | (go_at_call 29; ((with_reducible refine (ins_any A2 O2.length c2 O2 mf _ hrdWd HSR.out hoc (by omega) hcm).mono ?_)); rintro e w3 ⟨A3, c3, rfl, hrd3, hoc3, hcm3, hb3⟩
                   have k0 : w3.cell? ⟨w2.heap.size, 0, none⟩ = some (.int .i64 mf) := (hb3.cell (p := ⟨w2.heap.size, 0, none⟩) hzW).trans s0
                   have k1 : w3.cell? ⟨w2.heap.size, 1, none⟩ = some (.int .i64 mt) := (hb3.cell (p := ⟨w2.heap.size, 1, none⟩) hzW).trans s1
                   have hbb3 := hbWd.trans (hb3.mono hWz)
                   have hz3 : w2.heap.size < w3.heap.size := Nat.lt_of_lt_of_le hzW hb3.size)
                | (go_at_call 29; ((with_reducible refine (ins_any A3 (insS O2 mf).length c3 (insS O2 mf) mt _ hrd3 HSR1.out hoc3 (by omega) hcm3).mono ?_)); rintro e w4 ⟨A4, c4, rfl, hrd4, hoc4, hcm4, hb4⟩
                   have g0 : w4.cell? ⟨w2.heap.size, 0, none⟩ = some (.int .i64 mf) := (hb4.cell (p := ⟨w2.heap.size, 0, none⟩) hz3).trans k0
                   have g1 : w4.cell? ⟨w2.heap.size, 1, none⟩ = some (.int .i64 mt) := (hb4.cell (p := ⟨w2.heap.size, 1, none⟩) hz3).trans k1))
            go_wp2_with fail
            go_roundw
            case rel => exact ⟨j + 1, A4, c4, insS (insS O2 mf) mt, by omega, by go_num, rfl, HS2.out.symm, hrd4, hoc4, hcm4, hbb3.trans (hb4.mono hbb3.size)⟩
            case measure => simp [intOf]; omega
          · have hdec : decide (mf < mt) = false := by simpa using hct
            have HS2 : Hid (edgL O (r.l.take (j + 1)) = O2) := by
              have := HS.out
              unfold edgS at this
              rw [← HE1.out, ← HE2.out, if_neg hct] at this
              exact this
            rw [hdec]
            clear hdec hct HS hO2s
            go_wp2_with fail
            go_roundw
            case rel => exact ⟨j + 1, A2, c2, O2, by omega, by go_num, rfl, HS2.out.symm, (hrd2'.alloc (Nat.le_refl _) _).mono (by simp), hoc, hcm, hbb2.alloc hbb2.size _⟩
            case measure => simp [intOf]; omega
        · have hjn : r.l.take j = r.l := List.take_of_length_le (by have := HRL.out; omega)
          rw [hjn, ← HST.out] at hO2
          have HO2 := Lib.hid hO2
          clear hO2 hjn
          go_wp2_with fail
          go_roundw
          case rel => exact ⟨k + 1, A2, c2, O2, by omega, by go_num, rfl, HO2.out, hrd, hoc, hcm, hb⟩
          case measure => simp [intOf]; omega
    · rw [List.take_of_length_le (by have := HN.out; omega)] at hO
      subst hO
      go_wp2_with fail
      go_ret
      exact ⟨_, _, rfl, hrd, hb⟩
end Go.Proofs.Ythncjohekjnjaaa
