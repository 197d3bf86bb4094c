/- The walk of OverlapOnce. -/
import Derived.Test.YtkncfhdfobcjeaaOvY2
import Derived.Test.YtkncfhdfobcjeaaOvH
import Derived.Test.YtkncfhdfobcjeaaSpChain
import Derived.Deep.CutRange
namespace Go.Proofs.Ytkncfhdfobcjeaa
open Go.RowKit

set_option maxRecDepth 100000 in
set_option maxHeartbeats 8000000 in
theorem walkOverlapOnce (A : Option Addr) (n c : Nat) (l : List Pr) (sc : Int) (d : Int) (w : World) (h : Rd w w.heap.size 4 A n (flat Pr.cells l)) (hn : l.length = n) (hok : ∀ p ∈ l, p.ok) (_ : n ≤ maxLen) (isc : I64 sc) (id : I64 d) :
    Calls Try.prog 7 #[.slice A n c, .int .i64 sc, .int .i64 d] w fun e w' => e = .returned (.bool true) ∧ Below w.heap.size w w' := by
  by_cases hbig : 40 < n
  · have hbig2 : (40 : Int) < (n : Int) := by omega
    go_enter Try.func7, Try.ntmps7
    go_wp2_with fail
    go_ret
    exact ⟨rfl, Below.refl _ _⟩
  have hbig2 : ¬ (40 : Int) < (n : Int) := by omega
  have HN := Lib.hid hn
  clear hn
  go_enter Try.func7, Try.ntmps7
  go_wp2_with fail
  refine (claims_any sc h HN.out hok (by omega)).mono ?_
  rintro e w1 ⟨A1, c1, C, rfl, h1, hl1, ho1, hb1⟩
  have HL := Lib.hid hl1
  have HO := Lib.hid ho1
  have hb1z := hb1.size
  clear h hl1 ho1 HN hok
  go_wp2_with fail
  refine (near_any d sc id _).mono ?_
  rintro e w2 ⟨m, rfl, hm, hb2⟩
  have h2 := (h1.below hb2).mono hb2.size
  have hbb2 := hb1.trans (hb2.mono hb1.size)
  clear h1 hb1 hb2 hb1z
  go_wp2_with fail
  go_loopw [8, 9] (fun v i wr => ∃ k : Nat, k ≤ n ∧ i = .int .i64 (k : Int) ∧ v = .bool ((C.take k).any (onD m)) ∧ Below w2.heap.size w2 wr) (fun _ i _ => n - (intOf i).toNat)
  case atStart => exact ⟨0, by omega, rfl, rfl, Below.refl _ _⟩
  case round =>
    obtain ⟨k, hk, rfl, rfl, hb⟩ := hrel
    have hwz := hb.size
    by_cases hlt : k < n
    · skip
      have hkl : k < C.length := by rw [HL.out]; exact hlt
      obtain ⟨x, hx⟩ : ∃ x, C[k]? = some x := ⟨_, List.getElem?_eq_getElem hkl⟩
      obtain ⟨_, g, o, rfl, hgb, hc⟩ := (h2.below hb).elem pr_len hx (by omega)
      have e0 : wr.cell? ⟨g, o + k * 4, none⟩ = some (.int .i64 x.s) := hc 0 _ rfl
      have e1 : wr.cell? ⟨g, o + k * 4 + 1, none⟩ = some (.int .i64 x.r) := hc 1 _ rfl
      have e2 : wr.cell? ⟨g, o + k * 4 + 2, none⟩ = some (.int .i64 x.f) := hc 2 _ rfl
      have e3 : wr.cell? ⟨g, o + k * 4 + 3, none⟩ = some (.int .i64 x.t) := hc 3 _ rfl
      have hlo : (0 : Int) ≤ (k : Int) := by omega
      have hhi : (k : Int) < (n : Int) := by omega
      have hgl : g < wr.heap.size := by omega
      have hst : (C.take (k + 1)).any (onD m) = ((C.take k).any (onD m) || onD m x) := by
        rw [take_snoc hx, List.any_append]
        simp
      have HST := Lib.hid hst
      clear hx hc hst
      go_upto_region 9 with (fail)
      generalize (C.take k).any (onD m) = cl at *
      cases cl
      · rw [Bool.false_or] at HST
        by_cases c0 : 0 ≤ x.s
        · have d0 : decide (0 ≤ x.s) = true := decide_eq_true c0
          by_cases c1 : x.s < 6
          · have d1 : decide (x.s < 6) = true := decide_eq_true c1
            by_cases c2 : 1 ≤ x.r
            · have d2 : decide (1 ≤ x.r) = true := decide_eq_true c2
              by_cases c3 : x.r ≤ 7
              · have d3 : decide (x.r ≤ 7) = true := decide_eq_true c3
                have hof : onD m x = dset [x.sp] m := by unfold onD; rw [d0, d1, d2, d3]; rfl
                rw [hof] at HST
                clear hof
                go_wp2_with fail
                refine (rcontains_any _ 1 1 [x.sp] m _ (Rd.built (heap_alloc_new wr _) (by simp) rfl) rfl (by omega)).mono ?_
                rintro e w' ⟨rfl, rfl⟩
                go_wp2_with fail
                go_roundw
                case rel => exact ⟨k + 1, by omega, by go_num, by rw [HST.out], hb.alloc hwz _⟩
                case measure => simp [intOf]; omega
              · have d3 : decide (x.r ≤ 7) = false := decide_eq_false c3
                have hof : onD m x = false := by unfold onD; rw [d0, d1, d2, d3]; simp
                rw [hof] at HST
                clear hof
                go_wp2_with fail
                go_roundw
                case rel => exact ⟨k + 1, by omega, by go_num, by rw [HST.out], hb⟩
                case measure => simp [intOf]; omega
            · have d2 : decide (1 ≤ x.r) = false := decide_eq_false c2
              have hof : onD m x = false := by unfold onD; rw [d0, d1, d2]; simp
              rw [hof] at HST
              clear hof
              go_wp2_with fail
              go_roundw
              case rel => exact ⟨k + 1, by omega, by go_num, by rw [HST.out], hb⟩
              case measure => simp [intOf]; omega
          · have d1 : decide (x.s < 6) = false := decide_eq_false c1
            have hof : onD m x = false := by unfold onD; rw [d0, d1]; simp
            rw [hof] at HST
            clear hof
            go_wp2_with fail
            go_roundw
            case rel => exact ⟨k + 1, by omega, by go_num, by rw [HST.out], hb⟩
            case measure => simp [intOf]; omega
        · have d0 : decide (0 ≤ x.s) = false := decide_eq_false c0
          have hof : onD m x = false := by unfold onD; rw [d0]; simp
          rw [hof] at HST
          clear hof
          go_wp2_with fail
          go_roundw
          case rel => exact ⟨k + 1, by omega, by go_num, by rw [HST.out], hb⟩
          case measure => simp [intOf]; omega
      · rw [Bool.true_or] at HST
        go_wp2_with fail
        go_roundw
        case rel => exact ⟨k + 1, by omega, by go_num, by rw [HST.out], hb⟩
        case measure => simp [intOf]; omega
    · rw [List.take_of_length_le (by have := HL.out; omega)]
      obtain ⟨cl, hcl⟩ : ∃ b, C.any (onD m) = b := ⟨_, rfl⟩
      have HCL := Lib.hid hcl
      have h4 := (h2.below hb).mono hwz
      have hbb := hbb2.trans (hb.mono hbb2.size)
      rw [hcl]
      clear hcl h2 hb hbb2
      go_wp2_with fail
      refine (resolve_any h4 HL.out (by omega)).mono ?_
      intro e w5 hr
      obtain ⟨A5, c5, R, rfl, hR, htw, hRl, h5, hb5⟩ := hr.open (n := 40) (by have := HL.out; omega)
      have h45 := (h4.below hb5).mono hb5.size
      have hbb5 := hbb.trans (hb5.mono hbb.size)
      have HR := Lib.hid hR
      have HTW := Lib.hid htw
      clear hr hR h4 hbb hb5 htw
      go_wp2_with fail
      go_loopw [11, 12] (fun v i wn => ∃ j : Nat, j ≤ R.length ∧ i = .int .i64 (j : Int) ∧ v = .int .i64 ((hits (R.take j) m).length : Int) ∧ Below w5.heap.size w5 wn) (fun _ i _ => R.length - (intOf i).toNat)
      case atStart => exact ⟨0, by omega, rfl, rfl, Below.refl _ _⟩
      case round =>
        obtain ⟨wn, hwn⟩ : ∃ W : World, W = wr := ⟨_, rfl⟩
        obtain ⟨j, hj, rfl, rfl, hb⟩ := hrel
        have hwz := hb.size
        by_cases hlt : j < R.length
        · obtain ⟨p, hp⟩ : ∃ p, R[j]? = some p := ⟨_, List.getElem?_eq_getElem hlt⟩
          have hpm : (R.map Pc.pr)[j]? = some p.pr := by rw [List.getElem?_map, hp]; rfl
          obtain ⟨s, r, hm2⟩ := HTW.out p (List.mem_of_getElem? hp)
          obtain ⟨_, g, o, rfl, hgb, hc⟩ := (h5.below hb).elem pc_len hpm (by omega)
          have e0 : wr.cell? ⟨g, o + j * 4, none⟩ = some (.int .i64 p.f) := hc 0 _ rfl
          have e1 : wr.cell? ⟨g, o + j * 4 + 1, none⟩ = some (.int .i64 p.t) := hc 1 _ rfl
          have e2 : wr.cell? ⟨g, o + j * 4 + 2, none⟩ = some (.int .i64 s) := by have := hc 2 _ rfl; rw [show p.pr.s = s by show p.m.getD 0 0 = s; rw [hm2]; rfl] at this; exact this
          have e3 : wr.cell? ⟨g, o + j * 4 + 3, none⟩ = some (.int .i64 r) := by have := hc 3 _ rfl; rw [show p.pr.r = r by show p.m.getD 1 0 = r; rw [hm2]; rfl] at this; exact this
          have hlo : (0 : Int) ≤ (j : Int) := by omega
          have hhi : (j : Int) < (R.length : Int) := by omega
          have hgl : g < wr.heap.size := by omega
          have hst : hits (R.take (j + 1)) m = if p.f ≤ m ∧ m < p.t then hits (R.take j) m ++ [p] else hits (R.take j) m := by
            unfold hits
            rw [List.take_add_one, hp, Option.toList_some, List.filter_append]
            by_cases hcx : p.f ≤ m ∧ m < p.t
            · simp [hcx]
            · simp [hcx]
          have HST := Lib.hid hst
          have hdd : p.f ≤ m → m < p.t → Dd C s r m = true := fun a1 a2 => res_hit HR.out (List.mem_of_getElem? hp) a1 a2 hm2
          have hlb : (hits (R.take j) m).length ≤ j := by
            unfold hits
            have := List.length_filter_le (fun p : Pc => decide (p.f ≤ m ∧ m < p.t)) (R.take j)
            rw [List.length_take] at this
            omega
          have HDD := Lib.hid hdd
          clear hp hpm hm2 hc hst hdd
          generalize hhl : hits (R.take j) m = Hl at *
          clear hhl
          by_cases c0 : p.f ≤ m
          · have d0 : decide (p.f ≤ m) = true := decide_eq_true c0
            by_cases c1 : m < p.t
            · have d1 : decide (m < p.t) = true := decide_eq_true c1
              have hw1 : IntKind.i64.wrap ((Hl.length : Int) + 1) = (Hl.length : Int) + 1 := IntWalk.i64_in _ (by omega)
              have HTT : Hid ((hits (R.take (j + 1)) m).length = Hl.length + 1) := Lib.hid (by rw [HST.out, if_pos ⟨c0, c1⟩]; simp)
              have HD2 := Lib.hid (HDD.out c0 c1)
              have hnl : (nf (Dd C s r)).length ≤ 80 := by have := nf_ddl C s r; have := HL.out; omega
              have HNL := Lib.hid hnl
              have h6 : Rd wr.drew wr.drew.heap.size 4 A1 n (flat Pr.cells C) := (h45.below hb).mono hwz
              clear HDD HST hnl
              go_upto_region 17 with (fail)
              go_cut [113] from 73 to 113 (fun v wx => v = .bool false ∧ Below wr.heap.size wr wx)
              case first =>
                go_region_held3 (fun w' => w'.cell? ⟨g, o + j * 4 + 2, none⟩ = some (.int .i64 s) ∧ w'.cell? ⟨g, o + j * 4 + 3, none⟩ = some (.int .i64 r)) (go_keep)
                  (first
                    | (go_at_call 34; ((with_reducible refine (periods_any s r h6 HL.out (by omega)).mono ?_)); rintro e w6 ⟨A6, c6, rfl, hown6, hb6⟩
                       have k0 : w6.cell? ⟨g, o + j * 4 + 2, none⟩ = some (.int .i64 s) := (hb6.cell (p := ⟨g, o + j * 4 + 2, none⟩) hgl).trans e2
                       have k1 : w6.cell? ⟨g, o + j * 4 + 3, none⟩ = some (.int .i64 r) := (hb6.cell (p := ⟨g, o + j * 4 + 3, none⟩) hgl).trans e3)
                    | (go_at_call 25; ((with_reducible refine (rcontains_any A6 (nf (Dd C s r)).length c6 (nf (Dd C s r)) m _ (Rd.ofOwn hown6) rfl (by have := HNL.out; omega)).mono ?_)); rintro e w7 ⟨rfl, rfl⟩
                       rw [dd_nf, HD2.out]))
                go_wp2_with fail
                go_meet
                exact ⟨rfl, (Below.refl wr.heap.size wr).drew.trans hb6⟩
              case rest =>
                obtain ⟨hcv, hbx⟩ := hcut
                subst hcv
                go_wp2_with fail
                go_roundw
                case rel => exact ⟨j + 1, by omega, by go_num, by rw [HTT.out]; go_num, hb.trans (hbx.mono hwz)⟩
                case measure => simp [intOf]; omega
            · have d1 : decide (m < p.t) = false := decide_eq_false c1
              have HTT : Hid (hits (R.take (j + 1)) m = Hl) := Lib.hid (by rw [HST.out, if_neg (fun e => c1 e.2)])
              clear HST HDD c1
              go_wp2_with fail
              go_roundw
              case rel => exact ⟨j + 1, by omega, by go_num, by rw [HTT.out], hb⟩
              case measure => simp [intOf]; omega
          · have d0 : decide (p.f ≤ m) = false := decide_eq_false c0
            have HTT : Hid (hits (R.take (j + 1)) m = Hl) := Lib.hid (by rw [HST.out, if_neg (fun e => c0 e.1)])
            clear HST HDD c0
            go_wp2_with fail
            go_roundw
            case rel => exact ⟨j + 1, by omega, by go_num, by rw [HTT.out], hb⟩
            case measure => simp [intOf]; omega
        · rw [List.take_of_length_le (by omega), res_once HR.out m]
          have HC := HCL.out
          have hbb := hbb5.trans (hb.mono hbb5.size)
          cases cl
          all_goals
            rw [HC]
            go_wp2_with fail
            refine (awk_any wr).mono ?_
            rintro e wa ⟨rfl, hba⟩
            go_wp2_with fail
            go_ret
            exact ⟨rfl, hbb.trans (hba.mono hbb.size)⟩
end Go.Proofs.Ytkncfhdfobcjeaa
