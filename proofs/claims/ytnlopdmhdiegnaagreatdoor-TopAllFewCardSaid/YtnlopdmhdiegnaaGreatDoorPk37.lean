/- Lemmas (no conditions): Ere -/
import Derived.Test.YtnlopdmhdiegnaaGreatDoorPk35
import Derived.Test.YtnlopdmhdiegnaaGreatDoorSx
set_option linter.unusedSimpArgs false
set_option linter.unusedVariables false
set_option maxRecDepth 100000
set_option maxHeartbeats 64000000
namespace Go.Proofs.YtnlopdmhdiegnaaGreatDoor
open Go.RowKit
section
theorem Km.same {M : Nat} {a b : World} (h : Km M a b) {p : Addr} (hl : p.block < a.heap.size) (hne : p.block ≠ M) : b.cell? p = a.cell? p := by
 have h1 : a.heap[p.block]? = some a.heap[p.block] := Array.getElem?_eq_getElem hl
 have h2 := h p.block _ h1 hne
 unfold World.cell?
 rw [h2, h1]
theorem Km.grow {M : Nat} {a b c : World} {row : Option Nat} (h : Km M a b) (hg : b.grownBy c row) (hr : ∀ g, row = some g -> a.heap.size <= g) : Km M a c := fun g o h1 h2 => by
 have hl := (gis h1).1
 have hb := h g o h1 h2
 rw [hg.block g (gis hb).1 (fun e => by have := hr g e.symm; omega)]
 exact hb
def Ym (w : World) (M n : Nat) (v : Int) : Prop := ∃ m, Im w M n m /\ ∀ x u, m x = some u -> (0 <= u /\ u <= v) /\ ∃ z : Nat, x = 1900 + (z : Int) /\ z <= 199
theorem Ym.kept {w w' : World} {M n : Nat} {v : Int} (h : Ym w M n v) (hb : Below w.heap.size w w') : Ym w' M n v := by
 obtain ⟨m, h1, h2⟩ := h
 exact ⟨m, h1.under hb, h2⟩
theorem Ym.weak {w : World} {M n : Nat} {v v' : Int} (h : Ym w M n v) (hv : v <= v') : Ym w M n v' := by
 obtain ⟨m, h1, h2⟩ := h
 exact ⟨m, h1, fun x u hu => ⟨⟨(h2 x u hu).1.1, Int.le_trans (h2 x u hu).1.2 hv⟩, (h2 x u hu).2⟩⟩
theorem Ym.put {w : World} {M n : Nat} {v y : Int} (h : Ym w M n v) (hn : n < 1000000) {z : Nat} (hz : z <= 199) (h0 : 0 <= y) (h1 : y <= v) (hv : v <= 1000000000) :
  ∃ w', (Instr.mapUpdate 240 (.map (some M)) (.int .i64 (1900 + (z : Int))) (.int .i64 y)).run Tryz.prog w = .ok () w' /\ Ym w' M (n + 1) v /\ w.grownBy w' (some M) := by
 obtain ⟨m, hI, hm⟩ := h
 obtain ⟨w', hrun, hI2, hg⟩ := hI.put hn (x := 1900 + (z : Int)) (y := y) (by omega) (by omega) (by omega) (by omega)
 refine ⟨w', hrun, ⟨_, hI2, fun x u hu => ?_⟩, hg⟩
 by_cases hx : x = 1900 + (z : Int)
 ·have hu' : (if x = 1900 + (z : Int) then some y else m x) = some u := hu
  rw [if_pos hx] at hu'
  obtain rfl := Option.some.inj hu'
  exact ⟨⟨h0, h1⟩, z, hx, hz⟩
 ·have hu' : (if x = 1900 + (z : Int) then some y else m x) = some u := hu
  rw [if_neg hx] at hu'
  exact hm x u hu'
theorem Ym.look {w : World} {M n : Nat} {v : Int} (h : Ym w M n v) (hv : 0 <= v) {z : Nat} (hz : z <= 199) : ∃ u, (Instr.lookup 240 (.map (some M)) (.int .i64 (1900 + (z : Int))) false).run Tryz.prog w = .ok (.int .i64 u) w /\ 0 <= u /\ u <= v := by
 obtain ⟨m, hI, hm⟩ := h
 refine ⟨_, hI.look (by omega) (by omega), ?_⟩
 cases hx : m (1900 + (z : Int)) with
 | none => exact ⟨Int.le_refl 0, hv⟩
 | some u => exact (hm _ u hx).1
theorem ym_ne {w : World} {M n m base e sz c : Nat} {v : Int} {A : Option Addr} {xs : List Value} (hY : Ym w M n v) (h : w.ownsRow base e sz (.slice A m c) m xs) : some M ≠ (Value.slice A m c).ownBlock := by
 obtain ⟨_, ⟨_, ⟨es, clock, hM, _⟩, _⟩, _⟩ := hY
 rcases h.2 with ⟨e0, _⟩ | ⟨g, cap, cur, e0, _, hg, _⟩
 ·rw [e0]
  simp [Value.ownBlock]
 ·rw [e0]
  intro e2
  have e3 : M = g := by simpa [Value.ownBlock] using e2
  rw [e3, hg] at hM
  cases hM
theorem convert_f {f : Int} (hf : f = 1) (x : Nat) (hx : x <= 1000) (n : Nat) (hn : n <= 199) (m : Int) (hm : m = 12 * (n : Int) + 11) (w : World) :
  Calls Tryz.prog 138 #[.int .i64 (x : Int), .int .i64 f, .int .i64 1, .int .i64 m, .slice none 0 0, .agg #[.int .i64 1, .int .i64 1]] w fun e w' => e = .returned (.tuple #[.int .i64 (x : Int), .int .i64 0]) /\ Below w.heap.size w w' := by
 subst hf
 exact convert_ok x hx n hn m hm w
theorem years_one {A CA : Option Addr} {n c cn cc st : Nat} {L : List Fc} {K : List Pr} {ws : List Sp} {lo : Int} {w : World} (hL : Rd w w.heap.size 14 A n (flat Fc.cells L)) (hl : L.length = n) (hW : Wks ws L) (h0 : 0 <= lo) (hw : WOk lo ws) (h6 : ws.length <= 6)
  (hC : Rd w w.heap.size 4 CA cn (flat Pr.ccells K)) (hcn : K.length = cn) (hK : Ctd ws K) (hst : st < 6) (hno : st < ws.length) :
  Calls Tryz.prog 76 #[.slice A n c, .slice CA cn cc, .int .i64 (st : Int), .int .i64 1, .slice none 0 0] w (RetEa w) := by
 obtain ⟨i0, hi0, hz0, hz1, hz2⟩ := info_parts info_ea
 have hmm := @run_makeMap Tryz.prog
 have hin := incomes_any (c := c) (cc := cc) (st := st) hL hl hW h0 hw h6 hC hcn hK
 have q1 : decide ((st : Int) < 0) = false := decide_eq_false (by omega)
 have q2 : decide ((6 : Int) <= (st : Int)) = false := decide_eq_false (by omega)
 have HW := hID (show Wks ws L /\ 0 <= lo /\ WOk lo ws /\ ws.length <= 6 /\ st < ws.length from ⟨hW, h0, hw, h6, hno⟩)
 clear hL hl hW h0 hw h6 hC hcn hK hno
 go_enter Tryz.func76, Tryz.ntmps76
 go_wp2_with fail
 refine (rates_nil _).mono ?_
 rintro e w0 ⟨rfl, hw0⟩
 rw [hw0]
 clear hw0
 go_wp2_with fail
 refine hin.mono ?_
 clear hin
 rintro e w1 (⟨hbad, _⟩ | ⟨A1, c1, B, cb, x, p, rfl, hx, hp, hown, hrd, hb1⟩)
 ·have := HW.out.2.2.2.2
  omega
 ·have hpb := wok_at HW.out.2.2.1 hp
  have hlo := HW.out.2.1
  obtain ⟨df, hdf⟩ : ∃ d : Nat, p.f = (d : Int) := ⟨p.f.toNat, by omega⟩
  obtain ⟨dt, hdt⟩ : ∃ d : Nat, p.t - 1 = (d : Int) := ⟨(p.t - 1).toNat, by omega⟩
  have hdb : df <= 73048 /\ dt <= 73048 := by omega
  have hvx : Vld x /\ x.c = 1 /\ x.f < x.t /\ x.t - x.f <= 36500 /\ 0 <= x.a /\ x.a <= 1000 := by
   obtain ⟨s2, n2, a2, hs2, rfl, _, _, ha1, ha2⟩ := HW.out.1.at hx
   have hb2 := wok_at HW.out.2.2.1 hs2
   exact ⟨(HW.out.1.vld HW.out.2.1 HW.out.2.2.1 HW.out.2.2.2.1 (List.mem_of_getElem? hx)).1, rfl, hb2.2.1, by show s2.t - s2.f <= 36500; omega, ha1, ha2⟩
  have HVX := hID hvx
  clear hvx
  obtain ⟨_, _, ee, hnc1, hcm1, hAg⟩ := own_form hown
  injection ee with ea _ e2
  subst ea e2
  obtain ⟨gA, rfl, hgA⟩ := hAg (by omega)
  obtain ⟨_, gB, oB, rfl, hgB, _, _⟩ := sp_cells hrd (k := 0) (x := p) rfl
  go_upto_region 5 with (fail)
  have hI := im_made w1
  obtain ⟨V, hV, bV⟩ : ∃ V, w1.alloc (.map #[] 0) = V /\ Below w1.heap.size w1 V := ⟨_, rfl, (bRf).alloc (lRf) _⟩
  rw [hV] at hI ⊢
  clear hV hmm
  have hYM : Ym V w1.heap.size 0 0 := ⟨_, hI, fun x u hu => by cases hu⟩
  have hbV := hb1.trans (bV.mono hb1.size)
  have hAl := (hown.lt gA rfl).2
  have hin0 : ∀ i v, (incC x (some ⟨gB, oB, none⟩) cb)[i]? = some v -> V.cell? ⟨gA, i, none⟩ = some v := fun i v hv => by
   have h1 := hown.cells (g := gA) rfl i v hv
   rw [addAt, Nat.zero_add] at h1
   exact (bV.cell (by exact hAl)).trans h1
  have hkeep : ∀ u, Km w1.heap.size V u -> (∀ i v, (incC x (some ⟨gB, oB, none⟩) cb)[i]? = some v -> u.cell? ⟨gA, i, none⟩ = some v) /\ Rd u w1.heap.size 2 (some ⟨gB, oB, none⟩) 1 (flat Sp.cells [p]) := fun u hu =>
   ⟨fun i v hv => hu.cell (hin0 i v hv) (by show gA ≠ _; omega), (hrd.below bV).keep fun q hq => hu.same (lLt hq bV.size) (by omega)⟩
  have HKP := hID hkeep
  have hMl : w.heap.size <= w1.heap.size := hb1.size
  clear hkeep hin0 hI hown hrd hb1 hcm1 hnc1
  generalize w1.heap.size = M at *
  have hcs := (HKP.out V (Km.refl _ _)).1
  have k0 := hcs 0 _ rfl
  have k1 := hcs 1 _ rfl
  have k2 := hcs 2 _ rfl
  have k3 := hcs 3 _ rfl
  have k4 := hcs 4 _ rfl
  have k5 := hcs 5 _ rfl
  have k6 := hcs 6 _ rfl
  have k7 := hcs 7 _ rfl
  have k8 := hcs 8 _ rfl
  have k9 := hcs 9 _ rfl
  have k10 := hcs 10 _ rfl
  have k11 := hcs 11 _ rfl
  have k12 := hcs 12 _ rfl
  have k13 := hcs 13 _ rfl
  have k14 := hcs 14 _ rfl
  clear hcs
  go_wp2_with fail
  refine wp_loop_rounds 2 ?_
  rw [rounds_succ]
  go_upto_region 8 with (fail)
  obtain ⟨W, hW, bW, rW⟩ := box_new V (.cells #[.int .i64 x.i, .int .i64 x.n, .int .i64 x.v, .bool x.g, .int .i64 x.p, .int .i64 x.k, .int .i64 x.s, .int .i64 x.f, .int .i64 x.t, .int .i64 x.e, .int .i64 x.h, .int .i64 x.c, .int .i64 x.a, .int .i64 x.r, .slice (some ⟨gB, oB, none⟩) 1 cb] 242)
  rw [hW]
  clear hW k0 k1 k2 k3 k4 k5 k6 k7 k8 k9 k10 k11 k12 k13 k14
  have s14 : W.cell? ⟨V.heap.size, 14, none⟩ = some (.slice (some ⟨gB, oB, none⟩) 1 cb) := by rw [cOr rW]; rfl
  obtain ⟨_, _, _, eB, _, e0, e1⟩ := sp_cells (HKP.out W (Km.below bW)).2 (k := 0) (x := p) rfl
  injection eB with eB
  injection eB with eB1 eB2
  subst eB1 eB2
  rw [Nat.zero_mul, Nat.add_zero] at e0 e1
  rw [hdf] at e0
  have hbW := hbV.trans (bW.mono hbV.size)
  have HWT := hID (show IntKind.i64.wrap (p.t - 1) = (dt : Int) by rw [hdt]; exact IntWalk.i64_in _ (by omega))
  go_wp2_with fail
  refine wp_loop_rounds 2 ?_
  rw [rounds_succ]
  go_upto_region 11 with (fail)
  obtain ⟨U, hU, bU, rU⟩ := box_new W (.cells #[.int .i64 (df : Int), .int .i64 p.t] 32)
  rw [hU]
  clear hU s14 e0 e1
  have lU := (gis rU).1
  have hbU := hbW.trans (bU.mono hbW.size)
  have hKU : Km M V U := (Km.below bW).trans (Km.below bU)
  have hYU : Ym U M 0 0 := (hYM.kept bW).kept bU
  have s0 : U.cell? ⟨W.heap.size, 0, none⟩ = some (.int .i64 (df : Int)) := by rw [cOr rU]; rfl
  have s1 : U.cell? ⟨W.heap.size, 1, none⟩ = some (.int .i64 p.t) := by rw [cOr rU]; rfl
  have hda1 := date_any df hdb.1
  have hda2 := date_any dt hdb.2
  have HDA2 := hID hda2
  clear hdf hdt hda2 hYM hbV hbW bW bU
  go_wp2_with fail
  refine (hda1 _).mono ?_
  rintro e w3 ⟨⟨n1, m1, r1, rfl, _, hn1, _⟩, b3⟩
  clear hda1 s0 s1
  have s0 : w3.cell? ⟨W.heap.size, 0, none⟩ = some (.int .i64 (df : Int)) := by rw [cOr ((b3.block _ lU).trans rU)]; rfl
  have s1 : w3.cell? ⟨W.heap.size, 1, none⟩ = some (.int .i64 p.t) := by rw [cOr ((b3.block _ lU).trans rU)]; rfl
  have hwt := HWT.out
  go_wp2_with fail
  refine (HDA2.out _).mono ?_
  rintro e w4 ⟨⟨n2, m2, r2, rfl, _, hn2, _⟩, b4⟩
  have hb4 := (hbU.trans (b3.mono hbU.size)).trans (b4.mono (lTr hbU.size b3.size))
  have hK4 : Km M V w4 := (hKU.trans (Km.below b3)).trans (Km.below b4)
  have hY4 : Ym w4 M 0 0 := (hYU.kept b3).kept b4
  clear s0 s1 hwt hbU hKU hYU b3 b4 rU lU rW
  go_wp2_with fail
  go_loopw [26] (fun y wr => ∃ (z nn : Nat), y = .int .i64 (1900 + (z : Int)) /\ n1 <= z /\ z <= 200 /\ nn <= z /\ Ym wr M nn 0 /\ Km M V wr /\ Below w.heap.size w wr) (fun y _ => (2200 - intOf y).toNat)
  case atStart => exact ⟨n1, 0, rfl, lRf, by omega, by omega, hY4, hK4, hb4⟩
  case round =>
   obtain ⟨z, nn, rfl, hzA, hzB, hnn, hY, hK, hb⟩ := hrel
   by_cases hle : z <= n2
   ·have hle2 : decide (1900 + (z : Int) <= 1900 + (n2 : Int)) = true := decide_eq_true (by omega)
    obtain ⟨Y, hput, hY2, hg⟩ := hY.put (by omega) (z := z) (by omega) (Int.le_refl 0) (Int.le_refl 0) (by omega)
    have hb2 := hb.grown hg hb.size (fun g e => by injection e with e; omega)
    have hK2 := hK.trans (Km.grown hg)
    clear hY
    go_wp2_with fail
    go_roundw
    case rel => exact ⟨z + 1, nn + 1, by first | rfl | go_num, by omega, by omega, by omega, hY2, hK2, hb2⟩
    case measure => simp [intOf]; omega
   ·have hle2 : decide (1900 + (z : Int) <= 1900 + (n2 : Int)) = false := decide_eq_false (by omega)
    obtain ⟨m, hI, hm⟩ := hY
    have HM := hID hm
    have hMl2 := hI.lt
    clear hm
    go_wp2_with fail
    rw [rounds_succ]
    go_wp2_with fail
    rw [rounds_succ]
    go_wp2_with fail
    refine (keys_call _ _).mono ?_
    rintro e w5 ⟨rfl, rfl⟩
    go_wp2_with fail
    refine (keys_ret hI (by omega)).mono ?_
    rintro e w6 hks
    obtain ⟨AK, cK, kk, KL, rfl, hkc, hkm, hkn, hkl, hkmem, _, hownK, hb6⟩ := hks.open
    have hal : Below wr.heap.size wr (wr.alloc (.cells #[.map (some M)] 240)) := (bRf).alloc (lRf) _
    have hY6 : Ym w6 M nn 0 := ⟨m, (hI.under hal).under hb6, HM.out⟩
    have hK6 : Km M V w6 := hK.trans ((Km.below hal).trans (Km.below hb6))
    have hbw6 := hb.trans ((hal.trans (hb6.mono hal.size)).mono hb.size)
    have hKz : ∀ i y, KL[i]? = some y -> ∃ z : Nat, y = 1900 + (z : Int) /\ z <= 199 := fun i y hy => by
     have h1 := (hkmem y).1 (List.mem_of_getElem? hy)
     cases hu : m y with
     | none => rw [hu] at h1; cases h1
     | some u => exact (HM.out y u hu).2
    have hKc : ∀ u, Km M w6 u -> ∀ i y, KL[i]? = some y -> ∃ gK oK, AK = some ⟨gK, oK, none⟩ /\ u.cell? ⟨gK, oK + i, none⟩ = some (.int .i64 y) := fun u hu i y hy => by
     obtain ⟨_, b, o, e, hbb, hcc⟩ := (Rd.ofOwn hownK).int hy
     have hbase := (hownK.lt b (by rw [e]; rfl)).1
     exact ⟨b, o, e, hu.cell hcc (by show b ≠ M; simp at hbase; omega)⟩
    have HKZ := hID hKz
    have HKC := hID hKc
    have HKL := hID hkl
    clear hKz hKc hkl hkmem hownK hb6 hal HM hI hK hb
    go_wp2_with fail
    go_loopw [27, 104] (fun v27 ix wx => ∃ (i n6 : Nat) (A5 : Option Addr) (c5 : Nat) (E : List (Int × Int)), i <= kk /\ ix = .int .i64 (i : Int) /\ v27 = .slice A5 i c5 /\ Hid (E.length = i) /\ Hid (∀ p ∈ E, 0 <= p.2 /\ p.2 <= 1000000) /\ wx.ownsRow w6.heap.size 252 2 (.slice A5 i c5) i (flat eaCells E) /\ w6.heap.size <= wx.heap.size /\ n6 <= 200 + i /\ Ym wx M n6 (1000 * (i : Int)) /\ Km M w6 wx /\ Below w.heap.size w wx) (fun _ ix _ => kk - (intOf ix).toNat)
    case atStart => exact ⟨0, nn, none, 0, [], by omega, rfl, rfl, hID rfl, hID (by simp), World.ownsRow_nil _ _ _ _, lRf, by omega, hY6, Km.refl _ _, hbw6⟩
    case round =>
     obtain ⟨i, n6, A5, c5, E, hi, rfl, rfl, hEl, hEa, hown5, hz6, hn6, hY, hK, hb⟩ := hrel
     have hwz := hb.size
     by_cases hlt : i < kk
     ·obtain ⟨y, hy⟩ : ∃ y, KL[i]? = some y := ⟨_, List.getElem?_eq_getElem (by rw [HKL.out]; exact hlt)⟩
      obtain ⟨z, rfl, hz199⟩ := HKZ.out i y hy
      obtain ⟨gK, oK, rfl, ey⟩ := HKC.out wr hK i _ hy
      have hlo : (0 : Int) <= (i : Int) := by omega
      have hhi : (i : Int) < (kk : Int) := by omega
      have hKV : Km M V wr := hK6.trans hK
      have hcs := (HKP.out wr hKV).1
      have k0 := hcs 0 _ rfl
      have k1 := hcs 1 _ rfl
      have k2 := hcs 2 _ rfl
      have k3 := hcs 3 _ rfl
      have k4 := hcs 4 _ rfl
      have k5 := hcs 5 _ rfl
      have k6 := hcs 6 _ rfl
      have k7 := hcs 7 _ rfl
      have k8 := hcs 8 _ rfl
      have k9 := hcs 9 _ rfl
      have k10 := hcs 10 _ rfl
      have k11 := hcs 11 _ rfl
      have k12 := hcs 12 _ rfl
      have k13 := hcs 13 _ rfl
      have k14 := hcs 14 _ rfl
      clear hcs hy
      go_wp2_with fail
      refine wp_loop_rounds 2 ?_
      rw [rounds_succ]
      go_upto_region 27 with (fail)
      obtain ⟨X, hX, bX, rX⟩ := box_new wr (.cells #[.int .i64 x.i, .int .i64 x.n, .int .i64 x.v, .bool x.g, .int .i64 x.p, .int .i64 x.k, .int .i64 x.s, .int .i64 x.f, .int .i64 x.t, .int .i64 x.e, .int .i64 x.h, .int .i64 x.c, .int .i64 x.a, .int .i64 x.r, .slice (some ⟨gB, oB, none⟩) 1 cb] 242)
      rw [hX]
      clear hX k0 k1 k2 k3 k4 k5 k6 k7 k8 k9 k10 k11 k12 k13 k14 ey
      have lX := (gis rX).1
      have hbox : ∀ u, Below X.heap.size X u -> u.cell? ⟨wr.heap.size, 0, none⟩ = some (.int .i64 x.i) /\ u.cell? ⟨wr.heap.size, 1, none⟩ = some (.int .i64 x.n) /\ u.cell? ⟨wr.heap.size, 2, none⟩ = some (.int .i64 x.v) /\ u.cell? ⟨wr.heap.size, 3, none⟩ = some (.bool x.g) /\ u.cell? ⟨wr.heap.size, 4, none⟩ = some (.int .i64 x.p) /\ u.cell? ⟨wr.heap.size, 5, none⟩ = some (.int .i64 x.k) /\ u.cell? ⟨wr.heap.size, 6, none⟩ = some (.int .i64 x.s) /\ u.cell? ⟨wr.heap.size, 7, none⟩ = some (.int .i64 x.f) /\ u.cell? ⟨wr.heap.size, 8, none⟩ = some (.int .i64 x.t) /\ u.cell? ⟨wr.heap.size, 9, none⟩ = some (.int .i64 x.e) /\ u.cell? ⟨wr.heap.size, 10, none⟩ = some (.int .i64 x.h) /\ u.cell? ⟨wr.heap.size, 11, none⟩ = some (.int .i64 x.c) /\ u.cell? ⟨wr.heap.size, 12, none⟩ = some (.int .i64 x.a) /\ u.cell? ⟨wr.heap.size, 13, none⟩ = some (.int .i64 x.r) /\ u.cell? ⟨wr.heap.size, 14, none⟩ = some (.slice (some ⟨gB, oB, none⟩) 1 cb) := fun u hu => by
       refine ⟨?_, ?_, ?_, ?_, ?_, ?_, ?_, ?_, ?_, ?_, ?_, ?_, ?_, ?_, ?_⟩ <;> rw [cOr ((hu.block _ lX).trans rX)] <;> rfl
      have HBX := hID hbox
      obtain ⟨s0, s1, s2, s3, s4, s5, s6, s7, s8, s9, s10, s11, s12, s13, s14⟩ := hbox X (bRf)
      have hds : ∀ u, Km M V u -> M <= u.heap.size -> Ds u (some ⟨gB, oB, none⟩) 1 [p] := fun u hu hm => ⟨(HKP.out u hu).2.mono hm, rfl⟩
      have HDS := hID hds
      have hKX : Km M V X := hKV.trans (Km.below bX)
      have hMX : M <= X.heap.size := by have := hY; obtain ⟨_, hI, _⟩ := hY; have := hI.lt; have := bX.size; omega
      have hnl : ∀ f t : Int, (nf fun x => dset [p] x && dset [⟨f, t⟩] x).length <= 1000 := fun f t => by
       have := nfc_len (la := [p]) (lb := [⟨f, t⟩]) (n := 1) (m := 1) (fun a b => a && b) rfl rfl rfl
       omega
      have HNL := hID hnl
      clear hbox hds hnl
      have hYX := hY.kept bX
      have hownX := own_underF hown5 bX
      have hKX6 : Km M w6 X := hK.trans (Km.below bX)
      have hbX := hb.trans (bX.mono hwz)
      have hzX := bX.size
      clear bX rX lX hY hown5 hK hb
      generalize wr.heap.size = Q at *
      go_region_held3 (fun w' => w'.cell? ⟨Q, 14, none⟩ = some (.slice (some ⟨gB, oB, none⟩) 1 cb)) (first | exact s14 | exact (HBX.out _ bb9).2.2.2.2.2.2.2.2.2.2.2.2.2.2 | exact (HBX.out _ bb8).2.2.2.2.2.2.2.2.2.2.2.2.2.2 | exact (HBX.out _ bb7).2.2.2.2.2.2.2.2.2.2.2.2.2.2) (first
       | (go_at_call 137; (with_reducible refine (year_some z hz199 _).mono ?_); rintro e w7 ⟨⟨f, t, rfl⟩, b7⟩
          have bb7 : Below X.heap.size X w7 := (Below.refl X.heap.size X).drew.trans b7)
       | (go_at_call 136; (with_reducible refine (clip_any f t (HDS.out _ (hKX.trans (Km.below bb7)) (lTr hMX bb7.size)) (by omega)).mono ?_); intro e w8 hr8
          obtain ⟨A8, c8, rfl, ho8, b8⟩ := hr8
          have bb8 : Below X.heap.size X w8 := bb7.trans (b8.mono bb7.size))
       | (go_at_call 132; (with_reducible refine (days_any (Ds.ofOwn ho8 rfl) (HNL.out f t)).mono ?_); rintro e w9 ⟨rfl, b9⟩
          have bb9 : Below X.heap.size X w9 := bb8.trans (b9.mono bb8.size)))
      generalize hdd : lenL (nf (dset (nf fun x => dset [p] x && dset [⟨f, t⟩] x))) = dd at *
      have hdb2 : 0 <= dd /\ dd <= 73050 := by rw [<- hdd]; exact lenL_nf_bd _
      clear hdd
      rename_i hHeld
      clear hHeld s0 s1 s2 s3 s4 s5 s6 s7 s8 s9 s10 s11 s12 s13 s14
      have hz6X : w6.heap.size <= X.heap.size := lTr hz6 hzX
      have b9z := bb9.size
      obtain ⟨qd, hqd⟩ : ∃ b, (dd == 0) = b := ⟨_, rfl⟩
      cases qd with
      | true =>
       have hY9 : Ym w9 M n6 (1000 * (i : Int) + 1000) := (hYX.kept bb9).weak (by omega)
       have hown9 := own_underF hownX bb9
       have hK9 : Km M w6 w9 := hKX6.trans (Km.below bb9)
       have hb9 := hbX.trans (bb9.mono hbX.size)
       go_wp2_with fail
       obtain ⟨u9, hlk9, hu0, hu1⟩ := hY9.look (by omega) hz199
       have hu2 : decide ((1000000000000 : Int) < u9) = false := decide_eq_false (by omega)
       have hz9 : w6.heap.size <= w9.heap.size := lTr hz6X b9z
       rw [rounds_succ]
       go_wp2_with (at_builtin; go_loud (refine wpList_append_rd (by rfl) (.tmp 154) (.tmp 160) 170 (by rfl) w6.heap.size 252 i0 _ 2 16 Tryz.underlying170 hi0 hz0 hz1 hz2 rfl (by omega) (.slice A5 i c5) i (flat eaCells E) (by rfl) (hown9.alloc _) (w9.heap.size + 1) (some ⟨w9.heap.size, 0, none⟩) 1 1 [.int .i64 (1900 + (z : Int)), .int .i64 u9] (by rfl) (Rd.built (hAn w9 _) (by omega) rfl) (by intro u hu; simp at hu; rcases hu with rfl | rfl <;> rfl) (by unfold maxLen; omega) (by omega) (by simp; omega) ?_); intro v4 wz hownz hgz hatz)
       have hbz := (hb9.alloc hb9.size (.cells #[.int .i64 (1900 + (z : Int)), .int .i64 u9] 252)).grown hgz (by have := hb9.size; simp; omega) (fun g e => lTr hbw6.size (hown9.lt g e).1)
       have hba : Below w9.heap.size w9 (w9.alloc (.cells #[.int .i64 (1900 + (z : Int)), .int .i64 u9] 252)) := (bRf).alloc (lRf) _
       have hneM := ym_ne hY9 hown9
       have hYz : Ym wz M (n6) (1000 * ((i + 1 : Nat) : Int)) := by
        obtain ⟨mm, hI9, hm9⟩ := hY9.kept hba
        exact ⟨mm, hI9.kept hgz hneM, fun x u hu => ⟨⟨(hm9 x u hu).1.1, by have := (hm9 x u hu).1.2; omega⟩, (hm9 x u hu).2⟩⟩
       have hKz : Km M w6 wz := (hK9.trans (Km.below hba)).grow hgz (fun g e => (hown9.lt g e).1)
       have hzz : w6.heap.size <= wz.heap.size := lTr hz9 (lTr hba.size hgz.size)
       obtain ⟨A6, c6, rfl, _, _, _⟩ := own_form hownz
       go_roundw
       case rel =>
        refine ⟨i + 1, n6, A6, c6, E ++ [(1900 + (z : Int), u9)], by omega, by go_num, rfl, hID (by rw [List.length_append, hEl.out]; rfl), hID fun p hp => ?_, by rw [flat_append, flat_one]; exact hownz, hzz, by omega, hYz, hKz, hbz⟩
        rcases List.mem_append.1 hp with hp | hp
        ·exact hEa.out p hp
        ·rw [List.mem_singleton.1 hp]
         exact ⟨hu0, by show u9 <= 1000000; omega⟩
       case measure => simp [intOf]; omega
      | false =>
       obtain ⟨s0, s1, s2, s3, s4, s5, s6, s7, s8, s9, s10, s11, s12, s13, s14⟩ := HBX.out w9 bb9
       have hpa := part_ok HVX.out.1 HVX.out.2.2 dd (by omega)
       have HPA := hID hpa
       clear hpa
       go_upto_region 29 with (fail)
       go_region_held3 (fun w' => w'.cell? ⟨Q, 0, none⟩ = some (.int .i64 x.i) /\ w'.cell? ⟨Q, 1, none⟩ = some (.int .i64 x.n) /\ w'.cell? ⟨Q, 2, none⟩ = some (.int .i64 x.v) /\ w'.cell? ⟨Q, 3, none⟩ = some (.bool x.g) /\ w'.cell? ⟨Q, 4, none⟩ = some (.int .i64 x.p) /\ w'.cell? ⟨Q, 5, none⟩ = some (.int .i64 x.k) /\ w'.cell? ⟨Q, 6, none⟩ = some (.int .i64 x.s) /\ w'.cell? ⟨Q, 7, none⟩ = some (.int .i64 x.f) /\ w'.cell? ⟨Q, 8, none⟩ = some (.int .i64 x.t) /\ w'.cell? ⟨Q, 9, none⟩ = some (.int .i64 x.e) /\ w'.cell? ⟨Q, 10, none⟩ = some (.int .i64 x.h) /\ w'.cell? ⟨Q, 11, none⟩ = some (.int .i64 x.c) /\ w'.cell? ⟨Q, 12, none⟩ = some (.int .i64 x.a) /\ w'.cell? ⟨Q, 13, none⟩ = some (.int .i64 x.r) /\ w'.cell? ⟨Q, 14, none⟩ = some (.slice (some ⟨gB, oB, none⟩) 1 cb)) (first | exact ⟨s0, s1, s2, s3, s4, s5, s6, s7, s8, s9, s10, s11, s12, s13, s14⟩ | exact HBX.out _ bb11 | exact HBX.out _ bb10) (first
        | (go_at_call 139; (with_reducible refine (HPA.out _).mono ?_); rintro e w10 ⟨⟨v, hv, rfl⟩, b10⟩
           have bb10 : Below X.heap.size X w10 := bb9.drew.trans (b10.mono bb9.size))
        | (go_at_call 138; (with_reducible refine (convert_f HVX.out.2.1 v hv z hz199 (12 * (1900 + (z : Int) - 1900) + 11) (by omega) _).mono ?_); rintro e w11 ⟨rfl, b11⟩
           have bb11 : Below X.heap.size X w11 := bb10.trans (b11.mono bb10.size)))
       rename_i hHeld
       clear hHeld s0 s1 s2 s3 s4 s5 s6 s7 s8 s9 s10 s11 s12 s13 s14
       have hY11 : Ym w11 M n6 (1000 * (i : Int)) := hYX.kept bb11
       obtain ⟨u8, hlk8, hv0, hv1⟩ := hY11.look (by omega) hz199
       have hws : IntKind.i64.wrap (u8 + (v : Int)) = u8 + (v : Int) := IntWalk.i64_in _ (by omega)
       obtain ⟨Y, hput, hYY, hgY⟩ := (hY11.weak (v' := 1000 * (i : Int) + 1000) (by omega)).put (y := u8 + (v : Int)) (by omega) hz199 (by omega) (by omega) (by omega)
       have hown11 := own_underF hownX bb11
       have hownY := hown11.kept hgY (.inr fun e => ym_ne hY11 hown11 e.symm)
       have hKY : Km M w6 Y := (hKX6.trans (Km.below bb11)).trans (Km.grown hgY)
       have hb11 := hbX.trans (bb11.mono hbX.size)
       have hbY := hb11.grown hgY hb11.size (fun g e => by injection e with e; omega)
       go_wp2_with fail
       obtain ⟨u9, hlk9, hu0, hu1⟩ := hYY.look (by omega) hz199
       have hu2 : decide ((1000000000000 : Int) < u9) = false := decide_eq_false (by omega)
       have hz9 : w6.heap.size <= Y.heap.size := lTr hz6X (lTr bb11.size hgY.size)
       rw [rounds_succ]
       go_wp2_with (at_builtin; go_loud (refine wpList_append_rd (by rfl) (.tmp 154) (.tmp 160) 170 (by rfl) w6.heap.size 252 i0 _ 2 16 Tryz.underlying170 hi0 hz0 hz1 hz2 rfl (by omega) (.slice A5 i c5) i (flat eaCells E) (by rfl) (hownY.alloc _) (Y.heap.size + 1) (some ⟨Y.heap.size, 0, none⟩) 1 1 [.int .i64 (1900 + (z : Int)), .int .i64 u9] (by rfl) (Rd.built (hAn Y _) (by omega) rfl) (by intro u hu; simp at hu; rcases hu with rfl | rfl <;> rfl) (by unfold maxLen; omega) (by omega) (by simp; omega) ?_); intro v4 wz hownz hgz hatz)
       have hbz := (hbY.alloc hbY.size (.cells #[.int .i64 (1900 + (z : Int)), .int .i64 u9] 252)).grown hgz (by have := hbY.size; simp; omega) (fun g e => lTr hbw6.size (hownY.lt g e).1)
       have hba : Below Y.heap.size Y (Y.alloc (.cells #[.int .i64 (1900 + (z : Int)), .int .i64 u9] 252)) := (bRf).alloc (lRf) _
       have hneM := ym_ne hYY hownY
       have hYz : Ym wz M (n6 + 1) (1000 * ((i + 1 : Nat) : Int)) := by
        obtain ⟨mm, hI9, hm9⟩ := hYY.kept hba
        exact ⟨mm, hI9.kept hgz hneM, fun x u hu => ⟨⟨(hm9 x u hu).1.1, by have := (hm9 x u hu).1.2; omega⟩, (hm9 x u hu).2⟩⟩
       have hKz : Km M w6 wz := (hKY.trans (Km.below hba)).grow hgz (fun g e => (hownY.lt g e).1)
       have hzz : w6.heap.size <= wz.heap.size := lTr hz9 (lTr hba.size hgz.size)
       obtain ⟨A6, c6, rfl, _, _, _⟩ := own_form hownz
       go_roundw
       case rel =>
        refine ⟨i + 1, n6 + 1, A6, c6, E ++ [(1900 + (z : Int), u9)], by omega, by go_num, rfl, hID (by rw [List.length_append, hEl.out]; rfl), hID fun p hp => ?_, by rw [flat_append, flat_one]; exact hownz, hzz, by omega, hYz, hKz, hbz⟩
        rcases List.mem_append.1 hp with hp | hp
        ·exact hEa.out p hp
        ·rw [List.mem_singleton.1 hp]
         exact ⟨hu0, by show u9 <= 1000000; omega⟩
       case measure => simp [intOf]; omega
     ·go_wp2_with fail
      go_ret2
      exact ⟨A5, c5, E, by rw [hEl.out]; rfl, by rw [hEl.out]; omega, hEa.out, by rw [hEl.out]; exact ownsRow_base hown5 hbw6.size, hb⟩
end
end Go.Proofs.YtnlopdmhdiegnaaGreatDoor
