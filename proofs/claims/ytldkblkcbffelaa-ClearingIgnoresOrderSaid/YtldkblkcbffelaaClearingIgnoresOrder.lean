/- The walk of ClearingIgnoresOrder. -/
import Derived.Test.YtldkblkcbffelaaOrderA
namespace Go.Proofs.Ytldkblkcbffelaa
open Go.RowKit

set_option maxRecDepth 100000 in
set_option maxHeartbeats 4000000 in
theorem walkClearingIgnoresOrder (A : Option Addr) (n c : Nat) (l : List Rw) (u : Int) (w : World) (h : Rd w w.heap.size 4 A n (flat Rw.cells l)) (hok : ∀ r ∈ l, r.ok) (hn : n = l.length) (hn2 : n ≤ maxLen) (hu : I64 u) :
    Calls Try.prog 8 #[.slice A n c, .int .i64 u] w fun e w' => e = .returned (.bool true) ∧ Below w.heap.size w w' := by
  have Hn := Lib.hid hn
  clear hn
  go_enter Try.func8, Try.ntmps8
  go_wp2_with fail
  refine (debts_any A n c l w h hok Hn.out hn2).mono ?_
  rintro e w1 ⟨v, rfl, hown1, hb1⟩
  have hlen : (debtsOf l).length ≤ 20 := by simp [debtsOf, List.length_take]; omega
  have hDok : ∀ x ∈ debtsOf l, x.ok := by
    intro x hx
    obtain ⟨r, _, rfl⟩ := List.mem_map.1 hx
    exact debtOf_valid r
  generalize debtsOf l = D at *
  obtain ⟨A1, c1, rfl, hnc1, hcm1, hA1⟩ := own_form hown1
  have HA := Lib.hid hA1
  have HK := Lib.hid hDok
  generalize hN : D.length = N at *
  have HN := Lib.hid hN
  clear hN hA1 hDok
  by_cases h0 : N = 0
  · have h1 : (N : Int) = 0 := by omega
    clear HA
    subst h0
    go_wp2_with fail
    refine (awake_any w1).mono ?_
    rintro e w2 ⟨rfl, hb2⟩
    go_wp2_with fail
    go_ret
    exact ⟨rfl, hb1.trans (hb2.mono hb1.size)⟩
  · have h1 : ((N : Int) == 0) = false := beq_eq_false_iff_ne.2 (by omega)
    obtain ⟨g, rfl, hg1⟩ := HA.out (by omega)
    have hgw := (hown1.lt g rfl).1
    have hN0 : 1 ≤ N := by omega
    clear HA h0
    go_wp2_with fail
    go_loopw [6] (fun i wr => ∃ k : Nat, k ≤ N ∧ i = .int .i64 (k : Int) ∧ wr.ownsRow w.heap.size 37 4 (.slice (some ⟨g, 0, none⟩) N c1) N (flat Dt.cells (smL D k)) ∧ Below w.heap.size w wr) (fun i _ => N - (intOf i).toNat)
    case atStart => exact ⟨0, by omega, rfl, by rw [smL_zero]; exact hown1, hb1⟩
    case round =>
      obtain ⟨k, hk, rfl, hown, hb⟩ := hrel
      by_cases hlt : k < N
      · have hkl : k < D.length := by rw [HN.out]; exact hlt
        obtain ⟨x, hx⟩ : ∃ x, D[k]? = some x := ⟨_, List.getElem?_eq_getElem hkl⟩
        obtain ⟨_, _, _, e3⟩ := own_cells (ownsRow_base hown (Nat.zero_le _)) (smL_get hx)
        have hfz := hown.frozenAt (k * 4 + 3)
        have hst := (hown.stored (k * 4 + 3) (.int .i64 (1 + x.a % 1000))).1
        rw [smL_step hx] at hst
        have hxn := (HK.out x (List.mem_of_getElem? hx)).nums
        have hx1 : 1 ≤ x.a := hxn.2.2.2.2.2.2.2.1
        have hx2 : x.a ≤ 1000000000000 := hxn.2.2.2.2.2.2.2.2
        have hlo : (0 : Int) ≤ (k : Int) := by omega
        have hhi : (k : Int) < (N : Int) := by omega
        clear hxn hx hown hown1 hb1
        go_wp2_with fail
        go_roundw
        case rel => exact ⟨k + 1, by omega, by go_num, hst, hb.setCell hgw _⟩
        case measure => simp [intOf]; omega
      · obtain rfl : N = k := by omega
        have hsm : smL D N = D.map sm := by rw [← HN.out]; exact smL_all D
        rw [hsm] at hown
        have hEl : (D.map sm).length = N := by rw [List.length_map]; exact HN.out
        have hES : ∀ x ∈ D.map sm, Small x := by
          intro x hx
          obtain ⟨y, hy, rfl⟩ := List.mem_map.1 hx
          exact sm_small (HK.out y hy)
        generalize D.map sm = E at *
        have HE := Lib.hid hEl
        have HS := Lib.hid hES
        obtain ⟨kk, hkk⟩ : ∃ kk : Nat, u % (N : Int) = (kk : Int) := ⟨(u % (N : Int)).toNat, by have := Int.emod_nonneg u (show (N : Int) ≠ 0 by omega); omega⟩
        have hkN : kk < N := by have := Int.emod_lt_of_pos u (show 0 < (N : Int) by omega); omega
        clear hsm hEl hES hlt hk hown1 hb1 HK HN hg1
        go_wp2_with fail
        refine (mod_any u N _ hu (by omega) (by omega)).mono ?_
        rintro e w' ⟨rfl, rfl⟩
        go_wp2_with fail
        refine (new_any wr).mono ?_
        rintro e w3 ⟨rfl, hb3, hA3⟩
        have hL3 : Led w3 (wr.heap.size + 1) wr.heap.size [] := ⟨[], hA3, Rel.start, by simp, by simp⟩
        have hwr := hb.size
        have hz3 := hb3.size
        have hbb3 := hb.trans (hb3.mono hwr)
        have hown3 := ownsRow_base (base' := 0) (hown.kept (grownBy_of_below hb3 none) (Classical.em _)) (Nat.zero_le _)
        clear hA3 hown hb hb3
        go_wp2_with fail
        refine (new_any w3).mono ?_
        rintro e w4 ⟨rfl, hb4, hA4⟩
        have hK4 : Led w4 (w3.heap.size + 1) w3.heap.size [] := ⟨[], hA4, Rel.start, by simp, by simp⟩
        have hL4 := hL3.below hb4
        have hbb4 := hbb3.trans (hb4.mono (by omega))
        have hown4 := hown3.kept (grownBy_of_below hb4 none) (Classical.em _)
        have q1 := hL3.lt
        have q2 := hL3.ltm
        clear hA4 hown3 hbb3 hb4 hL3 hkk
        obtain ⟨la, hla⟩ : ∃ x, x = wr.heap.size + 1 := ⟨_, rfl⟩
        obtain ⟨ma, hma⟩ : ∃ x, x = wr.heap.size := ⟨_, rfl⟩
        obtain ⟨lk, hlk⟩ : ∃ x, x = w3.heap.size + 1 := ⟨_, rfl⟩
        obtain ⟨mk, hmk⟩ : ∃ x, x = w3.heap.size := ⟨_, rfl⟩
        have hne1 : la ≠ mk := by omega
        have hne2 : ma ≠ mk := by omega
        have hne3 : lk ≠ ma := by omega
        have hge1 : w.heap.size ≤ ma := by omega
        have hge2 : w.heap.size ≤ mk := by omega
        rw [← hla, ← hma] at hL4
        rw [← hlk, ← hmk] at hK4
        go_wp2_with fail
        rw [← hla, ← hlk]
        clear hla hma hlk hmk q1 q2 hz3
        go_loopw [10] (fun i wr => ∃ k : Nat, k ≤ N ∧ i = .int .i64 (k : Int) ∧ Led wr la ma (E.take k) ∧ Led wr lk mk ((rot E kk).take k) ∧ wr.ownsRow 0 37 4 (.slice (some ⟨g, 0, none⟩) N c1) N (flat Dt.cells E) ∧ Below w.heap.size w wr) (fun i _ => N - (intOf i).toNat)
        case atStart => exact ⟨0, by omega, rfl, hL4, hK4, hown4, hbb4⟩
        case round =>
          clear hL4 hK4 hown4 hbb4 hwr
          obtain ⟨k, hk, rfl, hL, hK, hown, hb⟩ := hrel
          have hwr := hb.size
          by_cases hlt : k < N
          · have hkl : k < E.length := by rw [HE.out]; exact hlt
            obtain ⟨x, hx⟩ : ∃ x, E[k]? = some x := ⟨_, List.getElem?_eq_getElem hkl⟩
            obtain ⟨j, hj, hjn⟩ : ∃ j : Nat, ((k : Int) + (kk : Int)) % (N : Int) = (j : Int) ∧ j = (k + kk) % N := ⟨(k + kk) % N, by simp, rfl⟩
            have hjl : j < N := by rw [hjn]; exact Nat.mod_lt _ (by omega)
            obtain ⟨y, hy⟩ : ∃ y, E[j]? = some y := ⟨_, List.getElem?_eq_getElem (by rw [HE.out]; exact hjl)⟩
            have hry : (rot E kk)[k]? = some y := by
              rw [rot_get (by rw [HE.out]; exact hkN) hkl, HE.out, ← hjn]
              exact hy
            have hs1 := small_post (L := E.take k) (x := x) (fun z hz => HS.out z (List.mem_of_mem_take hz)) (HS.out x (List.mem_of_getElem? hx)) (by rw [List.length_take]; omega)
            have hs2 := small_post (L := (rot E kk).take k) (x := y) (fun z hz => HS.out z (rot_mem (List.mem_of_mem_take hz))) (HS.out y (List.mem_of_getElem? hy)) (by rw [List.length_take]; omega)
            rw [← take_succ_get hx] at hs1
            rw [← take_succ_get hry] at hs2
            obtain ⟨e0, e1, e2, e3⟩ := own_cells hown hx
            have hll1 : (E.take k).length ≤ 900 := by rw [List.length_take]; omega
            have hll2 : ((rot E kk).take k).length ≤ 900 := by rw [List.length_take]; omega
            have HS1 := Lib.hid hs1
            have HS2 := Lib.hid hs2
            have HJ := Lib.hid hj
            have hlo : (0 : Int) ≤ (k : Int) := by omega
            have hhi : (k : Int) < (N : Int) := by omega
            have hjo : (0 : Int) ≤ (j : Int) := by omega
            have hji : (j : Int) < (N : Int) := by omega
            have HY := Lib.hid hy
            clear hs1 hs2 hx hy hry hj hjn
            go_wp2_with fail
            refine (post_led la ma (E.take k) x _ hL hll1).mono ?_
            rintro e w5 ⟨rfl, hL5, hg5⟩
            rw [HS1.out.1]
            rw [HS1.out.2] at hL5
            have hK5 := hK.grown hg5 (fun e => hne3 (by injection e)) (fun e => hne2 (by injection e with e; exact e.symm))
            have hown5 := hown.kept hg5 (.inr (hL.own_ne hown).1)
            have hb5 := hb.grown hg5 hwr (fun k e => by injection e with e; omega)
            obtain ⟨f0, f1, f2, f3⟩ := own_cells hown5 HY.out
            have hj2 := HJ.out
            clear hL hK hown hb e0 e1 e2 e3
            go_wp2_with fail
            refine (post_led lk mk ((rot E kk).take k) y _ hK5 hll2).mono ?_
            rintro e w6 ⟨rfl, hK6, hg6⟩
            rw [HS2.out.1]
            rw [HS2.out.2] at hK6
            have hL6 := hL5.grown hg6 (fun e => hne1 (by injection e)) (fun e => hne2 (by injection e))
            have hown6 := hown5.kept hg6 (.inr (hK5.own_ne hown5).1)
            have hb6 := hb5.grown hg6 hb5.size (fun k e => by injection e with e; omega)
            clear hL5 hK5 hown5 hb5 f0 f1 f2 f3 hj2
            go_wp2_with fail
            go_roundw
            case rel => exact ⟨k + 1, by omega, by go_num, hL6, hK6, hown6, hb6⟩
            case measure => simp [intOf]; omega
          · have hE1 : E.take k = E := List.take_of_length_le (by have := HE.out; omega)
            have hE2 : (rot E kk).take k = rot E kk := List.take_of_length_le (by rw [rot_length]; have := HE.out; omega)
            rw [hE1] at hL
            rw [hE2] at hK
            have hl1 : E.length ≤ 900 := by have := HE.out; omega
            have hl2 : (rot E kk).length ≤ 900 := by rw [rot_length]; exact hl1
            have HR := Lib.hid fun (s v : Int) => rpos_rot E kk s v
            have hp1 := hL.lt
            have hp2 := hL.ltm
            have hp3 := hK.lt
            have hp4 := hK.ltm
            generalize rot E kk = F at *
            clear hE1 hE2 hown hne1 hne2 hne3 hge1 hge2
            obtain ⟨wo, rfl⟩ : ∃ wo : World, wo = wr := ⟨_, rfl⟩
            go_wp2_with fail
            clear hlt hk
            go_loopw [11] (fun c wr => ∃ k : Nat, k ≤ 3 ∧ c = .int .i64 ((k : Int) + 1) ∧ Below wo.heap.size wo wr) (fun c _ => 5 - (intOf c).toNat)
            case atStart => exact ⟨0, by omega, rfl, Below.refl _ _⟩
            case round =>
              obtain ⟨k, hk, rfl, hbo⟩ := hrel
              have hw1 : IntKind.i64.wrap ((k : Int) + 1) = (k : Int) + 1 := IntWalk.i64_in _ (by omega)
              by_cases hlt : k < 3
              · generalize hu : (k : Int) + 1 = cu at *
                have hu3 : cu ≤ 3 := by omega
                have hu1 : 1 ≤ cu := by omega
                go_wp2_with fail
                refine (netting_of la ma E cu _ (hL.belowLe hbo hp1 hp2) hl1).mono ?_
                rintro e w1 ⟨v1, rfl, hown1, hb1⟩
                have hbb1 := hbo.trans (hb1.mono hbo.size)
                go_wp2_with fail
                refine (netting_of lk mk F cu _ (hK.belowLe hbb1 hp3 hp4) hl2).mono ?_
                rintro e w2 ⟨v2, rfl, hown2, hb2⟩
                have hbb2 := hbb1.trans (hb2.mono hbb1.size)
                have hown3 := hown1.kept (grownBy_of_below hb2 none) (Classical.em _)
                have he : (fun s : Nat => rpos F s cu) = fun s : Nat => rpos E s cu := funext fun s => HR.out s cu
                rw [he] at hown2
                have hnl := net_length cu 6 (fun s : Nat => rpos E s cu)
                generalize net cu 6 (fun s : Nat => rpos E s cu) = G at *
                generalize hM : G.length = M at *
                have HM := Lib.hid hM
                clear hM he
                obtain ⟨A1, c1, rfl, _⟩ := own_form hown3
                obtain ⟨A2, c2, rfl, _⟩ := own_form hown2
                have hz2 := hbb2.size
                go_wp2_with fail
                refine (same_debts A1 A2 M c1 c2 G w2 (Rd.ofOwn hown3) (Rd.ofOwn hown2) HM.out (by omega)).mono ?_
                rintro e w3 ⟨rfl, hb3⟩
                have hbb3 := hbb2.trans (hb3.mono hz2)
                clear hbo hbb1 hbb2 hb1 hb2 hown1 hown2 hown3 hb3
                go_wp2_with fail
                go_loopw [12] (fun s ws => ∃ i : Nat, i ≤ 6 ∧ s = .int .i64 (i : Int) ∧ Below wo.heap.size wo ws) (fun s _ => 6 - (intOf s).toNat)
                case atStart => exact ⟨0, by omega, rfl, hbb3⟩
                case round =>
                  clear hbb3
                  obtain ⟨i, hi, rfl, hbi⟩ := hrel
                  by_cases hli : i < 6
                  · go_wp2_with fail
                    refine (position_of la ma E i cu _ (hL.belowLe hbi hp1 hp2) hl1 hli).mono ?_
                    rintro e w4 ⟨rfl, hb4⟩
                    have hbb4 := hbi.trans (hb4.mono hbi.size)
                    go_wp2_with fail
                    refine (position_of lk mk F i cu _ (hK.belowLe hbb4 hp3 hp4) hl2 hli).mono ?_
                    rintro e w5 ⟨rfl, hb5⟩
                    rw [HR.out i cu]
                    have hbb5 := hbb4.trans (hb5.mono hbb4.size)
                    generalize rpos E i cu = p
                    go_wp2_with fail
                    go_roundw
                    case rel => exact ⟨i + 1, by omega, by go_num, hbb5⟩
                    case measure => simp [intOf]; omega
                  · go_wp2_with fail
                    go_roundw
                    case rel => exact ⟨k + 1, by omega, congrArg (Value.int .i64) (by omega), hbi⟩
                    case measure => simp [intOf]; omega
              · go_wp2_with fail
                refine (awake_any _).mono ?_
                rintro e w4 ⟨rfl, hb4⟩
                go_wp2_with fail
                go_ret
                exact ⟨rfl, (hb.trans (hbo.mono hwr)).trans (hb4.mono (by have := hbo.size; omega))⟩
end Go.Proofs.Ytldkblkcbffelaa
