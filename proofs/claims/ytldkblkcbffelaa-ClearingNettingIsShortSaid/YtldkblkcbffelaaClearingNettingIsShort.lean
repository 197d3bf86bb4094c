/- The walk of ClearingNettingIsShort. -/
import Derived.Test.YtldkblkcbffelaaNetLaw
namespace Go.Proofs.Ytldkblkcbffelaa
open Go.RowKit

theorem posSum_sumTo (L : List Dt) (u : Int) : ∀ k, posSum L u k = sumTo (fun s : Nat => rpos L s u) k
  | 0 => rfl
  | k + 1 => by simp only [posSum, sumTo, posSum_sumTo L u k]
theorem mv_snoc (D : List Dt) (x : Dt) (q : Nat → Int) : mv (D ++ [x]) q = book (mv D q) x := by simp [mv]
theorem book_at {d c : Nat} {u a : Int} (hne : d ≠ c) (q : Nat → Int) : book q ⟨d, c, u, a⟩ = upd (upd q d (q d - a)) c (q c + a) := by
  have : ¬ c = d := fun e => hne e.symm
  simp [book, upd, this]
theorem book_bd {d c : Nat} {u a B : Int} (hne : d ≠ c) (ha : 1 ≤ a ∧ a ≤ 1000000000000) {q : Nat → Int} (h : ∀ i, -B ≤ q i ∧ q i ≤ B) : ∀ i, -(B + 1000000000000) ≤ book q ⟨d, c, u, a⟩ i ∧ book q ⟨d, c, u, a⟩ i ≤ B + 1000000000000 := by
  intro i
  rw [book_at hne]
  have h1 := h i
  have h2 := h d
  have h3 := h c
  simp only [upd]
  split
  · omega
  · split <;> omega
/-- What the law books for all payments of the netting. -/
theorem mv_all {L : List Dt} {u : Int} (hok : ∀ x ∈ L, x.ok) : ∀ i, i < 6 → mv (net u 6 (fun s : Nat => rpos L s u)) (fun _ => 0) i = rpos L i u := by
  intro i hi
  have hz := pEnd_zero (p := fun s : Nat => rpos L s u) (by rw [← posSum_sumTo]; exact posSum_zero hok u) i hi
  rw [mv_net, hz]
  simp

set_option maxRecDepth 100000 in
set_option maxHeartbeats 4000000 in
theorem walkClearingNettingIsShort (A : Option Addr) (n c : Nat) (l : List Rw) (u : Int) (w : World) (h : Rd w w.heap.size 4 A n (flat Rw.cells l)) (hok : ∀ r ∈ l, r.ok) (hn : n = l.length) (hn2 : n ≤ maxLen) (hu : I64 u) :
    Calls Try.prog 7 #[.slice A n c, .int .i64 u] w fun e w' => e = .returned (.bool true) ∧ Below w.heap.size w w' := by
  have Hn := Lib.hid hn
  clear hn
  obtain ⟨u1, u2⟩ := hu
  have hw1 : IntKind.i64.wrap (1 + u % 3) = 1 + u % 3 := IntWalk.i64_in _ (by omega)
  go_enter Try.func7, Try.ntmps7
  go_wp2_with fail
  refine (ledgers_any A n c l w h hok Hn.out hn2).mono ?_
  rintro e w1 ⟨lb, mb, rb, rfl, hL, hR, hb1, hlb, hmb, hrb⟩
  clear hR
  have hsh := held_len l
  have hwide := wide_held (debtsOf l) [] wide_nil
  generalize heldOf [] (debtsOf l) = L at *
  go_wp2_with fail
  refine (awake_any w1).mono ?_
  rintro e w2 ⟨rfl, hb2⟩
  have hbb2 := hb1.trans (hb2.mono hb1.size)
  have hL2 := hL.below hb2
  clear hL hb1 hb2
  go_wp2_with fail
  refine (mod_any u 3 _ ⟨u1, u2⟩ (by omega) (by omega)).mono ?_
  rintro e w' ⟨rfl, rfl⟩
  generalize hcu : 1 + u % 3 = cu at *
  have hcr : 1 ≤ cu ∧ cu ≤ 3 := by omega
  go_wp2_with fail
  clear hcu
  refine (netting_of lb mb L cu w2 hL2 (by omega)).mono ?_
  rintro e w4 ⟨v, rfl, hown, hb4⟩
  have hbb4 := hbb2.trans (hb4.mono hbb2.size)
  have hL4 := hL2.below hb4
  have hnl := net_length cu 6 (fun s : Nat => rpos L s cu)
  have HM := Lib.hid (net_mem cu 6 (fun s : Nat => rpos L s cu))
  have HS := Lib.hid (net_short cu 6 (fun s : Nat => rpos L s cu))
  have HV := Lib.hid (mv_all (u := cu) hL2.ok)
  have HW : Hid (∀ s : Nat, s < 6 → -1000000000000 ≤ rpos L s cu ∧ rpos L s cu ≤ 1000000000000) := Lib.hid fun s hs => (fitsB_iff _).1 (hwide s cu hs)
  generalize net cu 6 (fun s : Nat => rpos L s cu) = D at *
  obtain ⟨A1, c1, rfl, _⟩ := own_form hown
  have hrd := Rd.ofOwn hown
  generalize hN : D.length = N at *
  have HN := Lib.hid hN
  have hl4 := hL4.lt
  have hm4 := hL4.ltm
  clear hL2 hbb2 hb4 hN hwide hown
  go_wp2_with fail
  go_loopw [11] (fun i wr => ∃ k : Nat, k ≤ N ∧ i = .int .i64 (k : Int) ∧ Pos wr w4.heap.size (mv (D.take k) fun _ => 0) ∧ (∀ i, -(1000000000000 * (k : Int)) ≤ mv (D.take k) (fun _ => 0) i ∧ mv (D.take k) (fun _ => 0) i ≤ 1000000000000 * (k : Int)) ∧ Below w4.heap.size w4 wr) (fun i _ => N - (intOf i).toNat)
  case atStart => exact ⟨0, by omega, rfl, heap_alloc_new w4 _, fun i => by simp [mv], (Below.refl _ _).alloc (Nat.le_refl _) _⟩
  case round =>
    obtain ⟨k, hk, rfl, hp, hbd, hb⟩ := hrel
    have hwsz := hb.size
    have hLr := hL4.belowLe hb hl4 hm4
    by_cases hlt : k < N
    · have hkl : k < D.length := by rw [HN.out]; exact hlt
      obtain ⟨x, hx⟩ : ∃ x, D[k]? = some x := ⟨_, List.getElem?_eq_getElem hkl⟩
      obtain ⟨d, c', e1, e2, hd, hc, hdc, eu, ha, hpd, hpc, hac⟩ := HM.out x (List.mem_of_getElem? hx)
      obtain ⟨_, g, o, rfl, hgb, q0, q1, q2, q3⟩ := dt_cells4 (hrd.below hb) hx
      have hsn : mv (D.take (k + 1)) (fun _ => 0) = book (mv (D.take k) fun _ => 0) x := by rw [take_succ_get hx, mv_snoc]
      have hwc := HW.out c' hc
      obtain ⟨xd, xc, xu, xa⟩ := x
      obtain rfl : xd = d := e1
      obtain rfl : xc = c' := e2
      obtain rfl : xu = cu := eu
      have ha1 : 1 ≤ xa := ha
      have ha2 : xa ≤ 1000000000000 := by have : xa ≤ rpos L (c' : Nat) xu := hac; omega
      have hpd1 : rpos L (d : Nat) xu < 0 := hpd
      have hpc1 : 0 < rpos L (c' : Nat) xu := hpc
      have hbk := book_bd hdc ⟨ha1, ha2⟩ (u := xu) hbd
      have hqd := hbd d
      have hqc := hbd c'
      rw [book_at hdc] at hsn
      have hbk2 : ∀ i, -(1000000000000 * ((k + 1 : Nat) : Int)) ≤ mv (D.take (k + 1)) (fun _ => 0) i ∧ mv (D.take (k + 1)) (fun _ => 0) i ≤ 1000000000000 * ((k + 1 : Nat) : Int) := by
        intro i
        have := hbk i
        rw [book_at hdc] at this
        rw [hsn]
        omega
      have HSn := Lib.hid hsn
      have HB := Lib.hid hbk2
      clear hx ha hac hpd hpc hsn hbk hbk2 hwc hbd
      generalize (mv (D.take k) fun _ => 0) = q at *
      have q0' : wr.cell? ⟨g, o + k * 4, none⟩ = some (.int .i64 (d : Nat)) := q0
      have q1' : wr.cell? ⟨g, o + k * 4 + 1, none⟩ = some (.int .i64 (c' : Nat)) := q1
      have q2' : wr.cell? ⟨g, o + k * 4 + 2, none⟩ = some (.int .i64 xu) := q2
      have q3' : wr.cell? ⟨g, o + k * 4 + 3, none⟩ = some (.int .i64 xa) := q3
      have hd6 : (d : Int) < 6 := by omega
      have hc6 : (c' : Int) < 6 := by omega
      have hkn : (k : Int) < (N : Int) := by omega
      have hn1 : ¬ xa < 1 := by omega
      have hn2' : ¬ 1000000000000 < xa := by omega
      clear q0 q1 q2 q3
      go_wp2_with fail
      have hba := (Below.refl wr.heap.size wr).alloc (Nat.le_refl _) (.cells #[.int .i64 (d : Nat), .int .i64 (c' : Nat), .int .i64 xu, .int .i64 xa] 37)
      have hLa := hLr.alloc (.cells #[.int .i64 (d : Nat), .int .i64 (c' : Nat), .int .i64 xu, .int .i64 xa] 37)
      have hpa := hp.alloc (.cells #[.int .i64 (d : Nat), .int .i64 (c' : Nat), .int .i64 xu, .int .i64 xa] 37)
      have hza := hp.lt
      have hbw := hb.alloc hwsz (.cells #[.int .i64 (d : Nat), .int .i64 (c' : Nat), .int .i64 xu, .int .i64 xa] 37)
      have hrow : (wr.alloc (.cells #[.int .i64 (d : Nat), .int .i64 (c' : Nat), .int .i64 xu, .int .i64 xa] 37)).heap[wr.heap.size]? = some (.cells #[.int .i64 (d : Nat), .int .i64 (c' : Nat), .int .i64 xu, .int .i64 xa] 37 (0, 0)) := heap_alloc_new wr _
      have hzz : (wr.alloc (.cells #[.int .i64 (d : Nat), .int .i64 (c' : Nat), .int .i64 xu, .int .i64 xa] 37)).heap.size = wr.heap.size + 1 := by simp
      have HZ := Lib.hid hzz
      clear hzz hp hLr hb q0' q1' q2' q3'
      refine (position_of lb mb L d xu _ hLa (by omega) hd).mono ?_
      rintro e w5 ⟨rfl, hb5⟩
      have hL5 := hLa.below hb5
      have hp5 : Pos w5 w4.heap.size q := (hb5.block _ hpa.lt).trans hpa
      have hrow5 := (hb5.block wr.heap.size (by rw [HZ.out]; omega)).trans hrow
      have hbw5 := hbw.trans (hb5.mono hbw.size)
      have f1 : w5.cell? ⟨wr.heap.size, 1, none⟩ = some (.int .i64 (c' : Nat)) := by rw [cell_of_row w5 _ 1 _ _ _ hrow5]; rfl
      have hz5 : wr.heap.size < w5.heap.size := (Array.getElem?_eq_some_iff.1 hrow5).1
      clear hLa hpa hrow hbw hb5 hba
      go_wp2_with fail
      refine (position_of lb mb L c' xu _ hL5 (by omega) hc).mono ?_
      rintro e w6 ⟨rfl, hb6⟩
      have hp6 : Pos w6 w4.heap.size q := (hb6.block _ hp5.lt).trans hp5
      have hrow6 := (hb6.block wr.heap.size hz5).trans hrow5
      have hbw6 := hbw5.trans (hb6.mono hbw5.size)
      have g0 : w6.cell? ⟨wr.heap.size, 0, none⟩ = some (.int .i64 (d : Nat)) := by rw [cell_of_row w6 _ 0 _ _ _ hrow6]; rfl
      have g1 : w6.cell? ⟨wr.heap.size, 1, none⟩ = some (.int .i64 (c' : Nat)) := by rw [cell_of_row w6 _ 1 _ _ _ hrow6]; rfl
      have g3 : w6.cell? ⟨wr.heap.size, 3, none⟩ = some (.int .i64 xa) := by rw [cell_of_row w6 _ 3 _ _ _ hrow6]; rfl
      have m0 := hp6.cell hd
      have m1 := hp6.cell hc
      have mf := hp6.free d
      have mf1 := hp6.free c'
      have hset0 := hp6.set hd (q d - xa)
      have hset := ((hp6.set hd (q d - xa)).drew.set hc (q c' + xa)).drew
      have hbe := ((hbw6.setCell (p := ⟨w4.heap.size, d, none⟩) (Nat.le_refl _) (.int .i64 (q d - xa))).drew.setCell (p := ⟨w4.heap.size, c', none⟩) (Nat.le_refl _) (.int .i64 (q c' + xa))).drew
      have hgd := hp6.lt
      have hne : w4.heap.size ≠ wr.heap.size := by omega
      clear hL5 hp5 hrow5 hbw5 f1 hb6 hrow6 hp6 hbw6
      go_wp2_with fail
      go_region
      go_wp2_with fail
      have n1 : ∀ i, (⟨w4.heap.size, d, none⟩ : Addr) ≠ ⟨wr.heap.size, i, none⟩ := fun i e => hne (by injection e)
      obtain ⟨W3, hW3, j1, j3, jm, jf⟩ : ∃ W3, W3 = (w6.setCell ⟨w4.heap.size, d, none⟩ (.int .i64 (q d - xa))).drew ∧ W3.cell? ⟨wr.heap.size, 1, none⟩ = some (.int .i64 (c' : Nat)) ∧ W3.cell? ⟨wr.heap.size, 3, none⟩ = some (.int .i64 xa) ∧
          W3.cell? ⟨w4.heap.size, c', none⟩ = some (.int .i64 (q c')) ∧ W3.frozen? ⟨w4.heap.size, c', none⟩ = false :=
        ⟨_, rfl, (World.cell?_setCell_other w6 _ _ _ (n1 1)).trans g1, (World.cell?_setCell_other w6 _ _ _ (n1 3)).trans g3, (World.cell?_setCell_other w6 _ _ _ (fun e => hdc (by injection e))).trans m1, by
          have hs := hset0.free c'
          exact hs⟩
      rw [← hW3] at hset hbe ⊢
      clear hW3 g0 g1 g3 m0 m1 mf mf1 n1 hset0
      go_region
      go_wp2_with fail
      go_roundw
      case rel => exact ⟨k + 1, by omega, by go_num, by rw [HSn.out]; exact hset, HB.out, hbe⟩
      case measure => simp [intOf]; omega
    · have hkN : k = N := by omega
      subst hkN
      have htk : D.take k = D := List.take_of_length_le (by have := HN.out; omega)
      have hp6 : Pos wr w4.heap.size (fun s : Nat => rpos L s cu) := by
        unfold Pos at hp ⊢
        rw [posArr_congr (q := mv (D.take k) fun _ => 0) (fun i hi => by rw [htk]; exact (HV.out i hi).symm)]
        exact hp
      have HC : Hid (∀ j : Nat, cnt (fun s : Nat => rpos L s cu) (j + 1) = cnt (fun s : Nat => rpos L s cu) j + (if rpos L j cu = 0 then 0 else 1)) := Lib.hid fun j => rfl
      clear hp hbd htk hlt hk
      obtain ⟨wo, rfl⟩ : ∃ wo : World, wo = wr := ⟨_, rfl⟩
      go_wp2_with fail
      go_loopw [13, 14] (fun t s wt => ∃ j : Nat, j ≤ 6 ∧ s = .int .i64 (j : Int) ∧ t = .int .i64 (cnt (fun s : Nat => rpos L s cu) j : Nat) ∧ Below wo.heap.size wo wt) (fun _ s _ => 6 - (intOf s).toNat)
      case atStart => exact ⟨0, by omega, rfl, rfl, Below.refl _ _⟩
      case round =>
        obtain ⟨j, hj, rfl, rfl, hbt⟩ := hrel
        have hLt := hLr.belowLe hbt hLr.lt hLr.ltm
        have hpt : Pos wr w4.heap.size (fun s : Nat => rpos L s cu) := (hbt.block _ hp6.lt).trans hp6
        have hcn := cnt_le_n (fun s : Nat => rpos L s cu) j
        by_cases hlj : j < 6
        · have hlj2 : (j : Int) < 6 := by omega
          have hcj := hpt.cell hlj
          have hwj := HW.out j hlj
          have HCj := Lib.hid (HC.out j)
          have hzt := hpt.lt
          have hbd := hbt.drew
          generalize cnt (fun s : Nat => rpos L s cu) j = cj at *
          go_wp2_with fail
          go_region_held3 (fun w' => w'.cell? ⟨w4.heap.size, j, none⟩ = some (.int .i64 (rpos L j cu))) (go_keep)
            (first | (go_at_call 21; refine (position_of lb mb L j cu _ hLt.drew (by omega) hlj).mono ?_; rintro e w7 ⟨rfl, hb7⟩
                      have hcj7 : w7.cell? ⟨w4.heap.size, j, none⟩ = some (.int .i64 (rpos L j cu)) := (hb7.cell (p := ⟨w4.heap.size, j, none⟩) hzt).trans hcj))
          have hb8 := hbd.trans (hb7.mono hbd.size)
          have hw9 : IntKind.i64.wrap ((cj : Int) + 1) = (cj : Int) + 1 := IntWalk.i64_in _ (by omega)
          clear hcj hbd hbt hpt hLt hb7
          generalize rpos L j cu = pj at *
          by_cases h0 : pj = 0
          · subst h0
            go_wp2_with fail
            go_roundw
            case rel => exact ⟨j + 1, by omega, by go_num, by rw [HCj.out]; rfl, hb8⟩
            case measure => simp [intOf]; omega
          · have h0' : (pj == 0) = false := beq_eq_false_iff_ne.2 h0
            go_wp2_with fail
            go_roundw
            case rel => exact ⟨j + 1, by omega, by go_num, by rw [HCj.out, if_neg h0]; go_num, hb8⟩
            case measure => simp [intOf]; omega
        · have hj6 : j = 6 := by omega
          subst hj6
          have hfin : k = 0 ∨ k < cnt (fun s : Nat => rpos L s cu) 6 := by
            rcases HS.out with h0 | h0
            · left
              rw [← HN.out, h0]
              rfl
            · exact .inr h0
          generalize cnt (fun s : Nat => rpos L s cu) 6 = cj at *
          have hend : Below w.heap.size w wr := (hbb4.trans (hb.mono hbb4.size)).trans (hbt.mono (by have := hbb4.size; omega))
          rcases hfin with h0 | h0
          · have h1 : (k : Int) = 0 := by omega
            go_wp2_with fail
            go_ret
            exact ⟨rfl, hend⟩
          · have h1 : (k : Int) < (cj : Int) := by omega
            by_cases h2 : k = 0
            · have h3 : (k : Int) = 0 := by omega
              go_wp2_with fail
              go_ret
              exact ⟨rfl, hend⟩
            · have h3 : ((k : Int) == 0) = false := beq_eq_false_iff_ne.2 (by omega)
              go_wp2_with fail
              go_ret
              exact ⟨rfl, hend⟩
end Go.Proofs.Ytldkblkcbffelaa
