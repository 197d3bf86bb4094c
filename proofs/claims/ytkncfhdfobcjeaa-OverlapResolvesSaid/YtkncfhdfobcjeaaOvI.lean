/- CountedAt of the reference. -/
import Derived.Test.YtkncfhdfobcjeaaOvH
namespace Go.Proofs.Ytkncfhdfobcjeaa
open Go.RowKit

theorem bestR_mem (P F : Int → Int) : ∀ (r : List Int) (b : Int), bestR P F b r ∈ b :: r
  | [], b => by simp [bestR]
  | s :: r, b => by
    rw [bestR_cons]
    have := bestR_mem P F r (if closerB P F s b = true then s else b)
    split at this <;> rename_i h <;> simp [h] at this ⊢ <;> rcases this with h | h <;> simp [h]
theorem cloR_mem (P F : Int → Int) {l : List Int} (h : l ≠ []) : cloR P F l ∈ l := by
  cases l with
  | nil => exact absurd rfl h
  | cons a r => exact bestR_mem P F r a
theorem cloR_snoc (P F : Int → Int) (l : List Int) (s : Int) (h : l ≠ []) : cloR P F (l ++ [s]) = if closerB P F s (cloR P F l) = true then s else cloR P F l := by
  cases l with
  | nil => exact absurd rfl h
  | cons a r => exact bestR_snoc P F a s r
theorem cloC_R (C : List Pr) (r x : Int) : cloC C r x = cloR (fun s => prevD (Dd C s 1) x) (fun s => follD (Dd C s 1) x) (stL C r x) := clo_eq (fun s => prevD_ge _ _) _
theorem stT_bd {C : List Pr} {r x s : Int} {i : Nat} (h : s ∈ stT C r x i) : ∃ i : Nat, i < 6 ∧ s = (i : Int) := by
  refine stL_bd (C := C) (r := r) (x := x) ?_
  unfold stT at h
  unfold stL
  rw [List.mem_filter] at h ⊢
  exact ⟨List.mem_of_mem_take h.1, h.2⟩
/-- The best of the first i states. -/
def bsT (C : List Pr) (r x : Int) (i : Nat) : Int := cloR (fun s => prevD (Dd C s 1) x) (fun s => follD (Dd C s 1) x) (stT C r x i)
theorem bsT_nil {C : List Pr} {r x : Int} {i : Nat} (h : stT C r x i = []) : bsT C r x i = -1 := by unfold bsT; rw [h]; rfl
theorem bsT_ne {C : List Pr} {r x : Int} {i : Nat} (h : stT C r x i ≠ []) : 0 ≤ bsT C r x i ∧ bsT C r x i < 6 := by
  obtain ⟨j, h1, h2⟩ := stT_bd (cloR_mem (fun s => prevD (Dd C s 1) x) (fun s => follD (Dd C s 1) x) h)
  unfold bsT
  omega
theorem bsT_no {C : List Pr} {r x : Int} {i : Nat} (hi : i < 6) (h : Dd C (i : Int) r x = false) : bsT C r x (i + 1) = bsT C r x i ∧ stT C r x (i + 1) = stT C r x i := by
  have e : stT C r x (i + 1) = stT C r x i := by rw [stT_succ C r x hi, if_neg (by rw [h]; simp)]
  exact ⟨by unfold bsT; rw [e], e⟩
theorem bsT_new {C : List Pr} {r x : Int} {i : Nat} (hi : i < 6) (h : Dd C (i : Int) r x = true) (h0 : stT C r x i = []) : bsT C r x (i + 1) = (i : Int) := by
  unfold bsT
  rw [stT_succ C r x hi, if_pos h, h0]
  rfl
theorem bsT_step {C : List Pr} {r x : Int} {i : Nat} (hi : i < 6) (h : Dd C (i : Int) r x = true) (h0 : stT C r x i ≠ []) : bsT C r x (i + 1) = if closerB (fun s => prevD (Dd C s 1) x) (fun s => follD (Dd C s 1) x) (i : Int) (bsT C r x i) = true then (i : Int) else bsT C r x i := by
  unfold bsT
  rw [stT_succ C r x hi, if_pos h, cloR_snoc _ _ _ _ h0]

set_option maxRecDepth 100000 in
set_option maxHeartbeats 4000000 in
theorem countedat_any {A : Option Addr} {n c : Nat} {C : List Pr} {w : World} (d : Int) (hI : ∀ p ∈ C, I64 p.f ∧ I64 p.t) (h : Rd w w.heap.size 4 A n (flat Pr.cells C)) (hn : C.length = n) (hn2 : n ≤ 5000) :
    Calls Try.prog 36 #[.slice A n c, .int .i64 d] w fun e w' => e = .returned (atV C d) ∧ Below w.heap.size w w' := by
  cases hd : isD d with
  | false =>
    have HV := Lib.hid (atV_off (C := C) hd)
    have HD := Lib.hid hd
    clear hd
    go_enter Try.func36, Try.ntmps36
    go_wp2_with fail
    refine (vday_any d w).mono ?_
    rintro e _ ⟨rfl, rfl⟩
    rw [HD.out]
    go_wp2_with fail
    go_ret3
    exact ⟨congrArg Ending.returned HV.out.symm, Below.refl _ _⟩
  | true =>
    have hdd := (isD_iff d).1 hd
    have HD := Lib.hid hd
    have HI := Lib.hid hI
    have HN := Lib.hid hn
    clear hd hI hn
    go_enter Try.func36, Try.ntmps36
    go_wp2_with fail
    refine (vday_any d w).mono ?_
    rintro e _ ⟨rfl, rfl⟩
    rw [HD.out]
    go_wp2_with fail
    go_loopw [7] (fun v wr => ∃ q : Nat, q ≤ 7 ∧ v = .int .i64 ((q : Int) + 1) ∧ (∀ p : Nat, p < q → stL C ((p : Int) + 1) d = []) ∧ Below w.heap.size w wr) (fun v _ => 8 - (intOf v).toNat)
    case atStart => exact ⟨0, by omega, rfl, fun p hp => by omega, Below.refl _ _⟩
    case round =>
      obtain ⟨q, hq, rfl, hno, hb⟩ := hrel
      have HNO := Lib.hid hno
      clear hno
      have hwsz := hb.size
      by_cases hq7 : q < 7
      · have hq8 : (q : Int) + 1 ≤ 7 := by omega
        go_wp2_with fail
        go_loopw [8, 9] (fun v i wn => ∃ k : Nat, k ≤ 6 ∧ i = .int .i64 (k : Int) ∧ v = .int .i64 (bsT C ((q : Int) + 1) d k) ∧ Below w.heap.size w wn) (fun _ i _ => 6 - (intOf i).toNat)
        case atStart => exact ⟨0, by omega, rfl, rfl, hb⟩
        case round =>
          obtain ⟨wo, rfl⟩ : ∃ wo : World, wo = wr := ⟨_, rfl⟩
          obtain ⟨k, hk, rfl, rfl, hbo⟩ := hrel
          have hosz := hbo.size
          by_cases hlt : k < 6
          · go_wp2_with fail
            refine (cover_any (k : Int) ((q : Int) + 1) d (by omega) HD.out ((h.below hbo).mono hosz) HN.out hn2).mono ?_
            rintro e _ ⟨rfl, rfl⟩
            cases hc : Dd C (k : Int) ((q : Int) + 1) d with
            | false =>
              have HS := Lib.hid (bsT_no hlt hc).1
              clear hc
              go_wp2_with fail
              go_roundw
              case rel => exact ⟨k + 1, by omega, by go_num, by rw [HS.out], hbo⟩
              case measure => simp [intOf]; omega
            | true =>
              by_cases he : stT C ((q : Int) + 1) d k = []
              · have HS := Lib.hid (bsT_new hlt hc he)
                rw [bsT_nil he]
                clear hc he
                go_wp2_with fail
                go_roundw
                case rel => exact ⟨k + 1, by omega, by go_num, by rw [HS.out], hbo⟩
                case measure => simp [intOf]; omega
              · have HS := Lib.hid (bsT_step hlt hc he)
                obtain ⟨hb0, hb1⟩ := bsT_ne he
                clear hc he
                generalize bsT C ((q : Int) + 1) d k = b at *
                go_wp2_with fail
                refine (closer_any (k : Int) b d (by omega) (by omega) HI.out ((h.below hbo).mono hosz) HN.out hn2).mono ?_
                rintro e w5 ⟨rfl, hb5⟩
                have hbo5 := hbo.trans (hb5.mono hosz)
                cases hcl : closerB (fun s => prevD (Dd C s 1) d) (fun s => follD (Dd C s 1) d) (k : Int) b with
                | false =>
                  have HS2 : Hid (bsT C ((q : Int) + 1) d (k + 1) = b) := by have := HS.out; rw [if_neg (by rw [hcl]; simp)] at this; exact this
                  clear hcl HS
                  go_wp2_with fail
                  go_roundw
                  case rel => exact ⟨k + 1, by omega, by go_num, by rw [HS2.out], hbo5⟩
                  case measure => simp [intOf]; omega
                | true =>
                  have HS2 : Hid (bsT C ((q : Int) + 1) d (k + 1) = (k : Int)) := by have := HS.out; rw [if_pos hcl] at this; exact this
                  clear hcl HS
                  go_wp2_with fail
                  go_roundw
                  case rel => exact ⟨k + 1, by omega, by go_num, by rw [HS2.out], hbo5⟩
                  case measure => simp [intOf]; omega
          · obtain rfl : k = 6 := by omega
            by_cases he : stL C ((q : Int) + 1) d = []
            · have hv : bsT C ((q : Int) + 1) d 6 = -1 := bsT_nil (by rw [stT_all]; exact he)
              rw [hv]
              have HE := Lib.hid he
              clear he hv
              go_wp2_with fail
              go_roundw
              case rel => exact ⟨q + 1, by omega, by go_num, fun p hp => by
                by_cases e : p = q
                · rw [e]; exact HE.out
                · exact HNO.out p (by omega), hbo⟩
              case measure => simp [intOf]; omega
            · have hr := rk_hit hq7 HNO.out he
              have hv := atV_some hr
              rw [cloC_R] at hv
              obtain ⟨hb0, hb1⟩ := bsT_ne (i := 6) (by rw [stT_all]; exact he)
              have HV : Hid (atV C d = .tuple #[.int .i64 (bsT C ((q : Int) + 1) d 6), .int .i64 ((q : Int) + 1), .bool true]) := hv
              clear hr hv he
              generalize bsT C ((q : Int) + 1) d 6 = b at *
              go_wp2_with fail
              go_ret3
              exact ⟨congrArg Ending.returned HV.out.symm, hbo⟩
      · obtain rfl : q = 7 := by omega
        have HV := Lib.hid (atV_none (rk_none HNO.out))
        go_wp2_with fail
        go_ret3
        exact ⟨congrArg Ending.returned HV.out.symm, hb⟩
end Go.Proofs.Ytkncfhdfobcjeaa
