/- The walk of OverlapAlone. -/
import Derived.Test.YtkncfhdfobcjeaaOvP
import Derived.Test.YtkncfhdfobcjeaaOvQ
import Derived.Test.YtkncfhdfobcjeaaOvY2
import Derived.Test.YtkncfhdfobcjeaaSpChain
import Derived.Test.YtkncfhdfobcjeaaSpUni
import Derived.Deep.RegionLaw
import Derived.BigRegion
namespace Go.Proofs.Ytkncfhdfobcjeaa
open Go.RowKit

set_option maxRecDepth 100000 in
set_option maxHeartbeats 8000000 in
theorem walkOverlapAlone (A : Option Addr) (n c : Nat) (l : List Pr) (sc : Int) (st : Int) (rk : Int) (w : World) (h : Rd w w.heap.size 4 A n (flat Pr.cells l)) (hn : l.length = n) (hok : ∀ p ∈ l, p.ok) (hnc : n ≤ c) (hcm : c ≤ maxLen) (isc : I64 sc) (ist : I64 st) (irk : I64 rk) :
    Calls Try.prog 12 #[.slice A n c, .int .i64 sc, .int .i64 st, .int .i64 rk] w fun e w' => e = .returned (.bool true) ∧ Below w.heap.size w w' := by
  by_cases hbig : 40 < n
  · have hbig2 : (40 : Int) < (n : Int) := by omega
    go_enter Try.func12, Try.ntmps12
    go_wp2_with fail
    go_ret
    exact ⟨rfl, Below.refl _ _⟩
  have hbig2 : ¬ (40 : Int) < (n : Int) := by omega
  have HN := Lib.hid hn
  clear hn
  go_enter Try.func12, Try.ntmps12
  go_wp2_with fail
  refine (claims_cap sc h HN.out hok (by omega) hnc hcm).mono ?_
  rintro e w1 ⟨A1, c1, C, rfl, h1, hl1, ho1, hb1, hnc1, hcm1⟩
  obtain ⟨i0, hi0, hz0, hz1, hz2⟩ := info_parts info_period
  have HL := Lib.hid hl1
  have HO := Lib.hid ho1
  have hb1z := hb1.size
  clear h hl1 ho1 HN hok
  go_wp2_with fail
  refine (pick_any st 4 _ (by omega)).mono ?_
  rintro e w' ⟨rfl, rfl⟩
  have hps := pick_bd st 4 (by omega)
  generalize pick st 4 = s at *
  go_wp2_with fail
  go_loopw [9, 10] (fun v i wr => ∃ (k : Nat) (A2 : Option Addr) (c2 : Nat) (D : List Pr), k ≤ n ∧ i = .int .i64 (k : Int) ∧ v = .slice A2 n c2 ∧ Rd wr wr.heap.size 4 A2 n (flat Pr.cells D) ∧ D.length = n ∧ (∀ p ∈ D, p.ok) ∧ (∀ p ∈ D.take k, p.s = s ∧ p.r ∈ ranks) ∧ n ≤ c2 ∧ c2 ≤ maxLen ∧ Below w1.heap.size w1 wr) (fun _ i _ => n - (intOf i).toNat)
  case atStart => exact ⟨0, A1, c1, C, by omega, rfl, rfl, h1, HL.out, HO.out, by simp, hnc1, hcm1, Below.refl _ _⟩
  case round =>
    obtain ⟨k, A2, c2, D, hk, rfl, rfl, hD, hDl, hDo, hDs, hnc2, hcm2, hb⟩ := hrel
    have hwz := hb.size
    have HDL := Lib.hid hDl
    have HDO := Lib.hid hDo
    have HDS := Lib.hid hDs
    clear hDl hDo hDs h1
    by_cases hlt : k < n
    · obtain ⟨x, hx⟩ : ∃ x, D[k]? = some x := ⟨_, List.getElem?_eq_getElem (by rw [HDL.out]; exact hlt)⟩
      obtain ⟨_, g, o, rfl, hgl, hc⟩ := hD.elem pr_len hx (by omega)
      have e0 : wr.cell? ⟨g, o + k * 4, none⟩ = some (.int .i64 x.s) := hc 0 _ rfl
      have e1 : wr.cell? ⟨g, o + k * 4 + 1, none⟩ = some (.int .i64 x.r) := hc 1 _ rfl
      have e2 : wr.cell? ⟨g, o + k * 4 + 2, none⟩ = some (.int .i64 x.f) := hc 2 _ rfl
      have e3 : wr.cell? ⟨g, o + k * 4 + 3, none⟩ = some (.int .i64 x.t) := hc 3 _ rfl
      have hlo : (0 : Int) ≤ (k : Int) := by omega
      have hhi : (k : Int) < (n : Int) := by omega
      have hxo := HDO.out x (List.mem_of_getElem? hx)
      clear hc
      go_upto_region 9 with (fail)
      have hrow := heap_alloc_new wr (.cells #[.int .i64 x.s, .int .i64 x.r, .int .i64 x.f, .int .i64 x.t] 50)
      have hbA := (Below.refl wr.heap.size wr).alloc (Nat.le_refl _) (.cells #[.int .i64 x.s, .int .i64 x.r, .int .i64 x.f, .int .i64 x.t] 50)
      obtain ⟨W, hW⟩ : ∃ W, W = wr.alloc (.cells #[.int .i64 x.s, .int .i64 x.r, .int .i64 x.f, .int .i64 x.t] 50) := ⟨_, rfl⟩
      rw [← hW] at hrow hbA ⊢
      clear hW e0 e1 e2 e3
      have b0 : W.cell? ⟨wr.heap.size, 0, none⟩ = some (.int .i64 x.s) := by rw [cell_of_row W _ 0 _ _ _ hrow]; rfl
      have b1 : W.cell? ⟨wr.heap.size, 1, none⟩ = some (.int .i64 x.r) := by rw [cell_of_row W _ 1 _ _ _ hrow]; rfl
      have bf0 := frozen_of_row W wr.heap.size 0 _ _ hrow
      have bf1 := frozen_of_row W wr.heap.size 1 _ _ hrow
      go_wp2_with fail
      refine (pick_any x.r 7 _ (by omega)).mono ?_
      rintro e w' ⟨rfl, rfl⟩
      have hpb := pick_bd x.r 7 (by omega)
      generalize pick x.r 7 = b at *
      have hw1 : IntKind.i64.wrap (1 + b) = 1 + b := IntWalk.i64_in _ (by omega)
      go_upto_region 10 with (fail)
      have hrow1 := heap_setCell_same W wr.heap.size 0 _ _ (.int .i64 s) hrow
      have hrow2 : ((W.setCell ⟨wr.heap.size, 0, none⟩ (.int .i64 s)).setCell ⟨wr.heap.size, 1, none⟩ (.int .i64 (1 + b))).heap[wr.heap.size]? = some (.cells #[.int .i64 s, .int .i64 (1 + b), .int .i64 x.f, .int .i64 x.t] 50 (0, 0)) := heap_setCell_same _ wr.heap.size 1 _ _ (.int .i64 (1 + b)) hrow1
      have hbV := (hbA.setCell (p := ⟨wr.heap.size, 0, none⟩) (Nat.le_refl _) (.int .i64 s)).setCell (p := ⟨wr.heap.size, 1, none⟩) (Nat.le_refl _) (.int .i64 (1 + b))
      obtain ⟨V, hV⟩ : ∃ V, V = (W.setCell ⟨wr.heap.size, 0, none⟩ (.int .i64 s)).setCell ⟨wr.heap.size, 1, none⟩ (.int .i64 (1 + b)) := ⟨_, rfl⟩
      rw [← hV] at hrow2 hbV ⊢
      clear hV b0 b1 bf0 bf1 hrow hrow1 hbA
      have hzV : wr.heap.size < V.heap.size := (Array.getElem?_eq_some_iff.1 hrow2).1
      have k0 : V.cell? ⟨wr.heap.size, 0, none⟩ = some (.int .i64 s) := by rw [cell_of_row V _ 0 _ _ _ hrow2]; rfl
      have k1 : V.cell? ⟨wr.heap.size, 1, none⟩ = some (.int .i64 (1 + b)) := by rw [cell_of_row V _ 1 _ _ _ hrow2]; rfl
      have k2 : V.cell? ⟨wr.heap.size, 2, none⟩ = some (.int .i64 x.f) := by rw [cell_of_row V _ 2 _ _ _ hrow2]; rfl
      have k3 : V.cell? ⟨wr.heap.size, 3, none⟩ = some (.int .i64 x.t) := by rw [cell_of_row V _ 3 _ _ _ hrow2]; rfl
      have hDV : Rd V V.heap.size 4 (some ⟨g, o, none⟩) n (flat Pr.cells D) := (hD.below hbV).mono hbV.size
      have ht : Rd V V.heap.size 4 (some ⟨g, o, none⟩) k (flat Pr.cells (D.take k)) := by rw [pr_take]; exact hDV.take (by omega)
      have hd' : Rd V V.heap.size 4 (if c2 = k + 1 then some ⟨g, o, none⟩ else some ⟨g, o + (k + 1) * 4, none⟩) (n - (k + 1)) (flat Pr.cells (D.drop (k + 1))) := by
        rw [pr_drop]
        simpa [addAt] using hDV.drop (k := k + 1) (c := c2) (n := n) hlt hnc2
      have HD' : Hid (∀ p ∈ D.take k ++ ([(⟨s, 1 + b, x.f, x.t⟩ : Pr)] ++ D.drop (k + 1)), p.ok) := Lib.hid fun p hp => by
        rcases List.mem_append.1 hp with hp | hp
        · exact HDO.out p (List.mem_of_mem_take hp)
        · rcases List.mem_append.1 hp with hp | hp
          · rw [List.mem_singleton.1 hp]
            exact ⟨⟨by show _ ≤ s; omega, by show s ≤ _; omega⟩, ⟨by show _ ≤ 1 + b; omega, by show 1 + b ≤ _; omega⟩, hxo.2.2.1, hxo.2.2.2⟩
          · exact HDO.out p (List.mem_of_mem_drop hp)
      have hkD : k ≤ D.length := by rw [HDL.out]; omega
      have HS' : Hid (∀ p ∈ (D.take k ++ ([(⟨s, 1 + b, x.f, x.t⟩ : Pr)] ++ D.drop (k + 1))).take (k + 1), p.s = s ∧ p.r ∈ ranks) := Lib.hid fun p hp => by
        rw [List.take_append, List.length_take, Nat.min_eq_left hkD, show k + 1 - k = 1 by omega, List.take_of_length_le (by rw [List.length_take]; omega)] at hp
        rcases List.mem_append.1 hp with hp | hp
        · exact HDS.out p hp
        · simp at hp
          rw [hp]
          exact ⟨rfl, (mem_ranks _).2 (by show 1 ≤ 1 + b ∧ 1 + b ≤ 7; omega)⟩
      have HL' : Hid ((D.take k ++ ([(⟨s, 1 + b, x.f, x.t⟩ : Pr)] ++ D.drop (k + 1))).length = n) := Lib.hid (by
        have := HDL.out
        simp
        omega)
      have HF' : Hid ([] ++ flat Pr.cells (D.take k) ++ ([.int .i64 s, .int .i64 (1 + b), .int .i64 x.f, .int .i64 x.t] ++ flat Pr.cells (D.drop (k + 1))) = flat Pr.cells (D.take k ++ ([(⟨s, 1 + b, x.f, x.t⟩ : Pr)] ++ D.drop (k + 1)))) := Lib.hid (by rw [flat_append, flat_append, flat_one, List.nil_append]; rfl)
      have po1 := pr_one (D.take k)
      have po2 := pr_one (D.drop (k + 1))
      generalize flat Pr.cells (D.take k) = F1 at *
      generalize flat Pr.cells (D.drop (k + 1)) = F2 at *
      generalize D.take k ++ ([(⟨s, 1 + b, x.f, x.t⟩ : Pr)] ++ D.drop (k + 1)) = E at *
      have hbw := hb.trans (hbV.mono hwz)
      have hVz := hbw.size
      have hkc : (k : Int) ≤ (c2 : Int) := by omega
      have hki : (k : Int) ≤ (n : Int) := by omega
      have hk1c : (k : Int) + 1 ≤ (c2 : Int) := by omega
      have hk1n : (k : Int) + 1 ≤ (n : Int) := by omega
      have hk10 : (0 : Int) ≤ (k : Int) + 1 := by omega
      have hwk : IntKind.i64.wrap ((k : Int) + 1) = (k : Int) + 1 := IntWalk.i64_in _ (by omega)
      have htn : ((k : Int) + 1).toNat = k + 1 := by omega
      clear HDS HDO HDL hx hxo hD hDV hkD hw1 hbV hb
      have hmx : n ≤ maxLen := by omega
      have HNN : Hid (0 + k + (1 + (n - (k + 1))) = n) := Lib.hid (by omega)
      go_region_law (first
        | (refine step_append_rd (by rfl) (.const (.slice none 0 0)) (.tmp 43) 41 (by rfl) V.heap.size 50 i0 _ 4 32 Try.underlying41 hi0 hz0 hz1 hz2 rfl (by omega) (.slice none 0 0) 0 [] (by rfl) (World.ownsRow_nil _ _ _ _) V.heap.size (some ⟨g, o, none⟩) k c2 F1 (by kernel_rfl) (by first | exact ht | exact ht.alloc (Nat.le_refl _) _) po1 (by unfold maxLen; omega) (by omega) (by simp) ?_
           intro v1 w2 hown1 hg1 hat1
           have b1 : Below V.heap.size V w2 := by first | exact (Below.refl _ _).drew.grown hg1 (Nat.le_refl _) (by simp [Value.ownBlock]) | exact ((Below.refl _ _).alloc (Nat.le_refl _) _).drew.grown hg1 (by simp) (by simp [Value.ownBlock])
           have p0 := (b1.cell (p := ⟨wr.heap.size, 0, none⟩) hzV).trans k0
           have p1 := (b1.cell (p := ⟨wr.heap.size, 1, none⟩) hzV).trans k1
           have p2 := (b1.cell (p := ⟨wr.heap.size, 2, none⟩) hzV).trans k2
           have p3 := (b1.cell (p := ⟨wr.heap.size, 3, none⟩) hzV).trans k3
           have lo1 : ∀ g, v1.ownBlock = some g → V.heap.size ≤ g := fun g e => (hown1.lt g e).1)
        | (refine step_append_rd (by rfl) (.tmp 46) (.tmp 50) 41 (by rfl) V.heap.size 50 i0 _ 4 32 Try.underlying41 hi0 hz0 hz1 hz2 rfl (by omega) (.slice (some ⟨w2.heap.size, 0, none⟩) 1 1) 1 [.int .i64 s, .int .i64 (1 + b), .int .i64 x.f, .int .i64 x.t] (by kernel_rfl) (own_lit (cs := #[.int .i64 s, .int .i64 (1 + b), .int .i64 x.f, .int .i64 x.t]) (heap_alloc_new w2 _) b1.size rfl (by unfold maxLen; omega)) V.heap.size (if c2 = k + 1 then some ⟨g, o, none⟩ else some ⟨g, o + (k + 1) * 4, none⟩) (n - (k + 1)) (c2 - (k + 1)) F2 (by kernel_rfl) (hd'.below (b1.alloc b1.size _)) po2 (by unfold maxLen; omega) (by omega) (by have := b1.size; simp; omega) ?_
           intro v2 w4 hown2 hg2 hat2
           have b2 : Below V.heap.size V w4 := (b1.alloc b1.size _).grown hg2 (by have := b1.size; simp; omega) (fun g e => by have := (hown2.lt g); have h9 := b1.size; simp [Value.ownBlock] at e; omega)
           have hownk : w4.ownsRow V.heap.size 50 4 v1 (0 + k) ([] ++ F1) := (hown1.alloc _).kept hg2 (.inr fun e => absurd (hown1.lt _ e).2 (Nat.lt_irrefl _))
           obtain ⟨A3, c3, rfl, _, _, _⟩ := own_form hown2)
        | (refine step_append_rd (by rfl) (.tmp 46) (.tmp 50) 41 (by rfl) V.heap.size 50 i0 _ 4 32 Try.underlying41 hi0 hz0 hz1 hz2 rfl (by omega) (.slice (some ⟨V.heap.size, 0, none⟩) 1 1) 1 [.int .i64 s, .int .i64 (1 + b), .int .i64 x.f, .int .i64 x.t] (by kernel_rfl) (own_lit (cs := #[.int .i64 s, .int .i64 (1 + b), .int .i64 x.f, .int .i64 x.t]) ((hg1.block V.heap.size (by simp) (by simp [Value.ownBlock])).trans (heap_alloc_new V _)) (Nat.le_refl _) rfl (by unfold maxLen; omega)) V.heap.size (if c2 = k + 1 then some ⟨g, o, none⟩ else some ⟨g, o + (k + 1) * 4, none⟩) (n - (k + 1)) (c2 - (k + 1)) F2 (by kernel_rfl) (hd'.below b1) po2 (by unfold maxLen; omega) (by omega) b1.size ?_
           intro v2 w4 hown2 hg2 hat2
           have b2 : Below V.heap.size V w4 := b1.grown hg2 b1.size (fun g e => by simp [Value.ownBlock] at e; omega)
           have hownk : w4.ownsRow V.heap.size 50 4 v1 (0 + k) ([] ++ F1) := hown1.kept hg2 (.inr fun e => by
             rw [e] at hat1
             simp [Value.ownBlock] at hat1)
           obtain ⟨A3, c3, rfl, _, _, _⟩ := own_form hown2)
        | (refine step_append_rd (by rfl) (.tmp 44) (.tmp 51) 41 (by rfl) V.heap.size 50 i0 _ 4 32 Try.underlying41 hi0 hz0 hz1 hz2 rfl (by omega) v1 (0 + k) ([] ++ F1) (by kernel_rfl) hownk w4.heap.size A3 (1 + (n - (k + 1))) c3 ([.int .i64 s, .int .i64 (1 + b), .int .i64 x.f, .int .i64 x.t] ++ F2) (by kernel_rfl) (Rd.ofOwn hown2) (by
             intro u hu
             rcases List.mem_append.1 hu with hu | hu
             · simp at hu; rcases hu with rfl | rfl | rfl | rfl <;> rfl
             · exact po2 u hu) (by unfold maxLen; omega) (by omega) b2.size ?_
           intro v3 w6 hown3 hg3 hat3
           have b3 : Below V.heap.size V w6 := b2.grown hg3 b2.size (fun g e => (hownk.lt g e).1)
           rw [HF'.out, HNN.out] at hown3
           have hb4 := hbw.trans (b3.mono hVz)
           obtain ⟨A4, c4, rfl, hnc4, hcm4, hA4⟩ := own_form hown3))
      all_goals
        go_wp2_with fail
        go_roundw
        case rel => exact ⟨k + 1, A4, c4, E, by omega, by go_num, rfl, Rd.ofOwn hown3, HL'.out, HD'.out, HS'.out, hnc4, hcm4, hb4⟩
        case measure => simp [intOf]; omega
    · have hDk : D.take k = D := List.take_of_length_le (by have := HDL.out; omega)
      have HDK : Hid (∀ p ∈ D, p.s = s ∧ p.r ∈ ranks) := Lib.hid (by have := HDS.out; rw [hDk] at this; exact this)
      obtain ⟨i1, hi1, hy0, hy1, hy2⟩ := info_parts info_span
      have hbb := hb1.trans (hb.mono hb1z)
      clear hDk HDS HDO hb hi0 hz0 hz1 hz2
      go_wp2_with fail
      refine (pick_any rk 7 _ (by omega)).mono ?_
      rintro e w' ⟨rfl, rfl⟩
      have hpq := pick_bd rk 7 (by omega)
      generalize pick rk 7 = q at *
      have hwq : IntKind.i64.wrap (1 + q) = 1 + q := IntWalk.i64_in _ (by omega)
      go_wp2_with fail
      refine (resolve_any hD HDL.out (by omega)).mono ?_
      intro e w5 hr
      obtain ⟨A5, c5, R, rfl, hR, -, hRl, h5, hb5⟩ := hr.open (n := 40) (by have := HDL.out; omega)
      have hD5 := (hD.below hb5).mono hb5.size
      have hbb5 := hbb.trans (hb5.mono hbb.size)
      have HR := Lib.hid hR
      clear hr hR hD hbb hb5 hwq
      go_wp2_with fail
      go_loopw [13, 14] (fun v i wn => ∃ (j : Nat) (O : List Sp), 1 ≤ j ∧ (j : Int) ≤ 1 + q ∧ i = .int .i64 (j : Int) ∧ O.length ≤ 80 * j ∧ (∀ z, dset O z = true ↔ ∃ r : Int, 1 ≤ r ∧ r < (j : Int) ∧ Dd D s r z = true) ∧ wn.ownsRow w5.heap.size 48 2 v O.length (flat Sp.cells O) ∧ Below w5.heap.size w5 wn) (fun _ i _ => 10 - (intOf i).toNat)
      case atStart => exact ⟨1, [], by omega, by omega, rfl, by simp, fun z => ⟨fun h => by simp [dset, cov] at h, fun ⟨r, h1, h2, _⟩ => by omega⟩, World.ownsRow_nil _ _ _ _, Below.refl _ _⟩
      case round =>
        obtain ⟨wn, hwn⟩ : ∃ W : World, W = wr := ⟨_, rfl⟩
        obtain ⟨j, O, hj1, hjq, rfl, hOl, hOd, hown, hb⟩ := hrel
        have hwz := hb.size
        have HOD := Lib.hid hOd
        clear hOd
        obtain ⟨A2, c2, rfl, hnc2, hcm2, _⟩ := own_form hown
        have hDn := (hD5.below hb).mono hwz
        have hS7 : (nf (Dd D s (j : Int))).length ≤ 80 := by have := nf_ddl D s (j : Int); have := HDL.out; omega
        by_cases hlt : (j : Int) < 1 + q
        · have hd7 := dd_nf D s (j : Int)
          go_wp2_with fail
          refine (periods_any s (j : Int) hDn HDL.out (by omega)).mono ?_
          rintro e w6 ⟨A6, c6, rfl, hown6, hb6⟩
          have hownu := own_under hown hb6
          have hb7 := hb.trans (hb6.mono hwz)
          have hz7 := hb7.size
          have HD7 := Lib.hid hd7
          clear hd7 hown hb hb6
          generalize nf (Dd D s (j : Int)) = S7 at *
          go_wp2_with (at_builtin; go_loud (refine wpList_append_rd (by rfl) (.tmp 63) (.tmp 67) 34 (by rfl) w5.heap.size 48 i1 _ 2 16 Try.underlying34 hi1 hy0 hy1 hy2 rfl (by omega) (.slice A2 O.length c2) O.length (flat Sp.cells O) (by rfl) hownu w6.heap.size A6 S7.length c6 (flat Sp.cells S7) (by rfl) (Rd.ofOwn hown6) (sp_one _) (by unfold maxLen; omega) (by omega) hz7 ?_); intro v7 w7 hown7 hg7 hat7)
          have hb8 := hb7.grown hg7 hz7 (fun g e => (hownu.lt g e).1)
          have el : (O ++ S7).length = O.length + S7.length := by simp
          go_roundw
          case rel =>
            refine ⟨j + 1, O ++ S7, by omega, by omega, by go_num, by omega, fun z => ?_, by rw [el, flat_append]; exact hown7, hb8⟩
            rw [dset_append, Bool.or_eq_true, HOD.out z, HD7.out z]
            constructor
            · rintro (⟨r, h1, h2, h3⟩ | h3)
              · exact ⟨r, h1, by omega, h3⟩
              · exact ⟨(j : Int), by omega, by omega, h3⟩
            · rintro ⟨r, h1, h2, h3⟩
              by_cases hr : r = (j : Int)
              · rw [hr] at h3; exact .inr h3
              · exact .inl ⟨r, h1, by omega, h3⟩
          case measure => simp [intOf]; omega
        · have hjq2 : (j : Int) = 1 + q := by omega
          have hbb6 := hbb5.trans (hb.mono hbb5.size)
          have h5n := (h5.below hb).mono hwz
          have hOn := Ds.ofOwn hown rfl
          have HJ := Lib.hid hjq2
          clear hown hb hbb5 h5 hD5 hwn hjq2
          go_wp2_with fail
          refine (periods_any s (1 + q) hDn HDL.out (by omega)).mono ?_
          rintro e w7 hr
          obtain ⟨m7, k7, A7, c7, HM7, rfl, hl7, h7, hb7⟩ := hr.open (b := 80) (by rw [← HJ.out]; exact hS7)
          have hD7 := (hDn.below hb7).mono hb7.size
          have h57 := (h5n.below hb7).mono hb7.size
          have hO7 := hOn.below hb7
          have hbb7 := hbb6.trans (hb7.mono hbb6.size)
          clear hr hDn h5n hOn hbb6 hb7
          go_wp2_with fail
          refine (rsub_any h7 hO7 (by omega) (by omega)).mono ?_
          intro e w8 hr
          have HW : Hid (nf (fun x => dset m7 x && !dset O x) = nf (Dd (R.map Pc.pr) s (1 + q))) := Lib.hid (nf_congr fun z _ => by
            rw [alone_rank HR.out ((mem_states _).2 (by omega)) ((mem_ranks _).2 (by omega)) (fun p hp => (HDK.out p hp).1) z, HM7.out, dd_nf]
            congr 1
            rw [Bool.eq_iff_iff, Bool.not_eq_true', Bool.not_eq_true', Bool.eq_false_iff, Ne, HOD.out z, decide_eq_false_iff_not, HJ.out]
            refine not_congr ⟨?_, ?_⟩
            · rintro ⟨r, h1, h2, h3⟩
              exact ⟨r, (mem_ranks r).2 (by omega), h2, h3⟩
            · rintro ⟨r, h1, h2, h3⟩
              exact ⟨r, ((mem_ranks r).1 h1).1, h2, h3⟩)
          obtain ⟨m8, k8, A8, c8, HM8, rfl, hl8, h8, hb8⟩ := hr.open (b := 1000) (by rw [HW.out]; have := nf_ddl (R.map Pc.pr) s (1 + q); rw [List.length_map] at this; omega)
          have hD8 := (hD7.below hb8).mono hb8.size
          have h58 := (h57.below hb8).mono hb8.size
          have hbb8 := hbb7.trans (hb8.mono hbb7.size)
          clear hr hD7 h57 hbb7 hb8 h7 hO7
          go_wp2_with fail
          refine (awk_any w8).mono ?_
          rintro e wa ⟨rfl, hba⟩
          have hDa := (hD8.below hba).mono hba.size
          have h5a := (h58.below hba).mono hba.size
          have h8a := h8.below hba
          have hbba := hbb8.trans (hba.mono hbb8.size)
          clear hD8 h58 h8 hbb8 hba
          have hRm : (R.map Pc.pr).length = R.length := by rw [List.length_map]
          have HRM := Lib.hid hRm
          clear hRm
          go_wp2_with fail
          refine (ofc_any s (1 + q) h5a HRM.out (by omega)).mono ?_
          intro e w9 hr
          obtain ⟨m9, k9, A9, c9, HM9, rfl, hl9, h9, hb9⟩ := hr.open (b := 1000) (by have := nf_ddl (R.map Pc.pr) s (1 + q); have := HRM.out; omega)
          have hD9 := (hDa.below hb9).mono hb9.size
          have h59 := (h5a.below hb9).mono hb9.size
          have h89 := h8a.below hb9
          have hbb9 := hbba.trans (hb9.mono hbba.size)
          clear hr hDa h5a h8a hbba hb9
          go_wp2_with fail
          refine (sames_true h9 h89 (by rw [HM9.out, HM8.out, HW.out]) (by omega) (by omega)).mono ?_
          rintro e w10 ⟨rfl, hb10⟩
          have hD10 := (hD9.below hb10).mono hb10.size
          have h510 := (h59.below hb10).mono hb10.size
          have hbb10 := hbb9.trans (hb10.mono hbb9.size)
          clear hD9 h59 h89 h9 hbb9 hb10
          go_wp2_with fail
          refine (ofc_any s 0 h510 HRM.out (by omega)).mono ?_
          intro e w11 hr
          obtain ⟨m11, k11, A11, c11, HM11, rfl, hl11, h11, hb11⟩ := hr.open (b := 1000) (by have := nf_ddl (R.map Pc.pr) s 0; have := HRM.out; omega)
          have hD11 := (hD10.below hb11).mono hb11.size
          have hbb11 := hbb10.trans (hb11.mono hbb10.size)
          clear hr hD10 h510 hbb10 hb11
          go_wp2_with fail
          refine (periods_any s 0 hD11 HDL.out (by omega)).mono ?_
          intro e w12 hr
          obtain ⟨m12, k12, A12, c12, HM12, rfl, hl12, h12, hb12⟩ := hr.open (b := 1000) (by have := nf_ddl D s 0; have := HDL.out; omega)
          have h1112 := h11.below hb12
          have hbb12 := hbb11.trans (hb12.mono hbb11.size)
          clear hr hD11 hbb11 hb12 h11
          go_wp2_with fail
          refine (sames_true h1112 h12 (by rw [HM11.out, HM12.out]; exact nf_congr fun z _ => alone_all HR.out ((mem_states _).2 (by omega)) HDK.out z) (by omega) (by omega)).mono ?_
          rintro e w13 ⟨rfl, hb13⟩
          go_wp2_with fail
          go_ret
          exact ⟨rfl, hbb12.trans (hb13.mono hbb12.size)⟩
end Go.Proofs.Ytkncfhdfobcjeaa
