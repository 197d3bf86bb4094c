/- TopAllFew: for every input the law returns true, and its arguments read as they did; the condition: the library's tables hold what the program's text lays (the tie is given): the tied card. -/
import Derived.Test.YtnlopdmhdiegnaaGreatDoorPk
import Derived.Test.YtnlopdmhdiegnaaGreatDoorTp
import Derived.Test.YtnlopdmhdiegnaaGreatDoorCards
import Derived.Test.YtnlopdmhdiegnaaGreatDoorTie
import Derived.WalkKit
import Derived.ProofKit
import Derived.OpenShut
import Derived.ChangeOld
import Derived.Below
import Derived.LaidMore
import Derived.Deep.DeepHandedRow
set_option linter.unusedSimpArgs false
set_option linter.unusedVariables false
set_option maxRecDepth 100000
set_option maxHeartbeats 64000000
namespace Go.Proofs.YtnlopdmhdiegnaaGreatDoor
section
theorem wok_snoc : ∀ {ws : List Sp} {lo f t : Int}, WOk lo ws -> (∀ s ∈ ws, s.t <= f) -> lo <= f -> f < t -> t <= 36500 -> WOk lo (ws ++ [⟨f, t⟩])
 | [], _, _, _, _, _, h1, h2, h3 => ⟨h1, h2, h3, trivial⟩
 | s :: _, _, _, _, h, ha, _, h2, h3 => ⟨h.1, h.2.1, h.2.2.1, wok_snoc h.2.2.2 (fun x hx => ha x (List.mem_cons_of_mem _ hx)) (ha s List.mem_cons_self) h2 h3⟩
theorem wks_snoc {ws : List Sp} {L : List Fc} (h : Wks ws L) (f t : Int) : Wks (ws ++ [⟨f, t⟩]) (L ++ [wkF ws.length 1 f t 100]) := by
 refine ⟨by simp [h.1], fun k s hs => ?_⟩
 have hl := h.1
 rcases Nat.lt_trichotomy k ws.length with hk | hk | hk
 ·rw [List.getElem?_append_left hk] at hs
  rw [List.getElem?_append_left (by omega)]
  exact h.2 k s hs
 ·subst hk
  rw [List.getElem?_append_right (lRf), Nat.sub_self] at hs
  obtain rfl := Option.some.inj hs
  refine ⟨1, 100, ?_, by decide, by decide, by decide, by decide⟩
  rw [List.getElem?_append_right (by omega), hl, Nat.sub_self]
  rfl
 ·have := (List.getElem?_eq_some_iff.1 hs).1
  simp at this
  omega
structure Cut (ws : List Sp) (L : List Fc) (j : Nat) : Prop where
 len : ws.length = j
 fl : L.length = j
 wk : Wks ws L
 ok : WOk 22000 ws
 hi : ∀ s ∈ ws, s.t <= 22000 + 200 * (j : Int)
 few : ∀ s ∈ ws, 0 < s.t - s.f /\ s.t - s.f < 200
theorem Cut.zero : Cut [] [] 0 := ⟨rfl, rfl, ⟨rfl, fun k s h => by simp at h⟩, trivial, (fun s h => by cases h), (fun s h => by cases h)⟩
theorem Cut.snoc {ws : List Sp} {L : List Fc} {j : Nat} (h : Cut ws L j) (hj : j <= 4) {f p : Int} (hf : f = 22000 + 200 * (j : Int)) (h0 : 0 <= p) (h1 : p < 199) : Cut (ws ++ [⟨f, f + 1 + p⟩]) (L ++ [wkF (j : Int) 1 f (f + 1 + p) 100]) (j + 1) := by
 have hl := h.len
 refine ⟨by simp [hl], by simp [h.fl], ?_, wok_snoc h.ok (fun s hs => by have := h.hi s hs; omega) (by omega) (by omega) (by omega), fun s hs => ?_, fun s hs => ?_⟩
 ·have := wks_snoc h.wk f (f + 1 + p)
  rw [hl] at this
  exact this
 ·rcases List.mem_append.1 hs with hs | hs
  ·have := h.hi s hs
   push_cast
   omega
  ·rw [List.mem_singleton.1 hs]
   show f + 1 + p <= _
   push_cast
   omega
 ·rcases List.mem_append.1 hs with hs | hs
  ·exact h.few s hs
  ·rw [List.mem_singleton.1 hs]
   show 0 < f + 1 + p - f /\ f + 1 + p - f < 200
   omega
end
section
theorem lT_at (ws : List Sp) (h1 : 1 <= ws.length) : ∀ i : Nat, ws.length <= i -> lT ws i = ((ws.length - 1 : Nat) : Int)
 | 0, h => by omega
 | i + 1, h => by
  show (if i < ws.length then (i : Int) else lT ws i) = _
  rcases Nat.lt_or_eq_of_le h with h2 | h2
  ·rw [if_neg (by omega), lT_at ws h1 i (by omega)]
  ·rw [if_pos (by omega)]
   omega
theorem all_f {ws : List Sp} {md : Int} (hf : ∀ p ∈ ws, 0 < p.t - p.f /\ p.t - p.f < md) (i : Nat) : fW ws md i = decide (i < ws.length) := by
 unfold fW dW
 cases h : ws[i]? with
 | none =>
  have := List.getElem?_eq_none_iff.1 h
  rw [decide_eq_false (show ¬ i < ws.length by omega)]
  rfl
 | some p =>
  have h1 := hf p (List.mem_of_getElem? h)
  have h2 := (List.getElem?_eq_some_iff.1 h).1
  show (decide (0 < p.t - p.f) && decide (p.t - p.f < md)) = _
  rw [decide_eq_true h1.1, decide_eq_true h1.2, decide_eq_true h2]
  rfl
theorem all_d {ws : List Sp} {i : Nat} (h : ws.length <= i) : dW ws i = 0 := by
 unfold dW
 rw [List.getElem?_eq_none_iff.2 h]
theorem all_b {ws : List Sp} {md : Int} (hf : ∀ p ∈ ws, 0 < p.t - p.f /\ p.t - p.f < md) : ∀ i : Nat, bT ws md i = 0
 | 0 => rfl
 | i + 1 => by
  show (if fW ws md i then bT ws md i else bT ws md i + dW ws i) = 0
  rw [all_b hf i, all_f hf]
  by_cases h : i < ws.length
  ·rw [decide_eq_true h]; rfl
  ·rw [decide_eq_false h, all_d (by omega)]; rfl
theorem all_law {ws : List Sp} {md lo : Int} {M : Nat} (h0 : 0 <= lo) (hw : WOk lo ws) (h1 : 1 <= ws.length) (h6 : ws.length <= 6) (hf : ∀ p ∈ ws, 0 < p.t - p.f /\ p.t - p.f < md) (s : Nat) :
  aA ws md 1 M s = if s = ws.length - 1 then (M : Int) else 0 := by
 have hs1 : 1 <= sumW ws := by
  cases ws with
  | nil => simp at h1
  | cons p r =>
   have hp := (hf p (by simp)).1
   have hr := sumW_bd hw.2.2.2 hw.2.2.1
   show 1 <= (p.t - p.f) + sumW r
   omega
 have hI : aI ws md 1 M s = 0 := by
  unfold aI
  rw [all_f hf]
  by_cases h : s < ws.length
  ·rw [decide_eq_true h]; rfl
  ·rw [decide_eq_false h, all_d (by omega)]
   simp
 have hfr : frW ws md s = if s = ws.length - 1 then (1, 1) else (0, 1) := by
  unfold frW frV
  rw [all_b hf 6, sT_six h6, lT_at ws h1 6 h6, decide_eq_true (show 0 < sumW ws by omega)]
  simp only [Int.lt_irrefl, decide_false, Bool.and_false, Bool.false_eq_true, if_false, beq_self_eq_true, Bool.true_and]
  by_cases h : s = ws.length - 1
  ·rw [if_pos h, if_pos (by rw [h]; exact beq_self_eq_true _)]
  ·rw [if_neg h, if_neg (by simp; omega)]
 have hP : aP ws md 1 M s = if s = ws.length - 1 then (M : Int) else 0 := by
  unfold aP aT
  rw [hfr]
  by_cases h : s = ws.length - 1
  ·rw [if_pos h, if_pos h, if_neg (show ¬ (1 : Int) = 0 by decide), if_neg (show ¬ (1 : Int) = 0 by decide), if_pos (by exact hs1)]
   show (M : Int) * 1 / 1 = M
   rw [Int.mul_one, Int.ediv_one]
  ·rw [if_neg h, if_neg h, if_pos rfl]
 unfold aA
 rw [hI, hP]
 by_cases h : s = ws.length - 1
 ·rw [if_pos h]
  split <;> omega
 ·rw [if_neg h, if_neg (Int.lt_irrefl 0)]
end
section
open Go.RowKit

theorem walkTopAllFew (A0 : Option Addr) (n0 c0 : Nat) (l0 : List Int) (a1 a2 : Int) (W : World) (hM : Mt W) (hrd : Rd W W.heap.size 1 A0 n0 (ints l0)) (hmx : n0 <= maxLen) (h1 : I64 a1) (h2 : I64 a2) : Calls Tryz.prog 4 #[.slice A0 n0 c0, .int .i64 a1, .int .i64 a2] W fun e w' => e = .returned (.bool true) /\ Below W.heap.size W w' := by
 have HMT := hID (fun (u : World) (hu : Below W.heap.size W u) => hM.kp hu)
 have hl0 : l0.length = n0 := by have := hrd.1; rw [ints_length] at this; omega
 have HRD := hID (fun (u : World) (hu : Below W.heap.size W u) => hrd.below hu)
 obtain ⟨i1, hi1, hy0, hy1, hy2⟩ := info_parts info_fact
 clear hM hrd h1 h2
 by_cases hbig : 5 < n0
 ·have hbg : decide ((5 : Int) < (n0 : Int)) = true := decide_eq_true (by omega)
  go_enter Tryz.func4, Tryz.ntmps4
  go_wp2_with fail
  go_ret
  exact ⟨rfl, bRf⟩
 by_cases hz : n0 = 0
 ·subst hz
  go_enter Tryz.func4, Tryz.ntmps4
  go_wp2_with fail
  go_ret
  exact ⟨rfl, bRf⟩
 have hb0 : decide ((5 : Int) < (n0 : Int)) = false := decide_eq_false (by omega)
 have hb1 : decide ((n0 : Int) = 0) = false := decide_eq_false (by omega)
 have hn5 : n0 <= 5 := by omega
 have hn1 : 1 <= n0 := by omega
 clear hbig hz
 go_enter Tryz.func4, Tryz.ntmps4
 go_wp2_with fail
 refine (pickI _ _ (by omega) (by omega) _).mono ?_
 rintro e w1 ⟨p1, rfl, hp1, rfl⟩
 go_wp2_with fail
 refine (pickI _ _ (by omega) (by omega) _).mono ?_
 rintro e w1 ⟨am, rfl, ham, rfl⟩
 obtain ⟨M, rfl⟩ : ∃ M : Nat, am = (M : Int) := ⟨am.toNat, by omega⟩
 go_upto_region 4 with (fail)
 obtain ⟨md, hmd⟩ : ∃ md : Int, 200 + p1 = md := ⟨_, rfl⟩
 rw [hmd]
 have hmdb : 200 <= md /\ md <= 899 := by omega
 have hM5 : M < 100000 := by omega
 clear hmd hp1 ham
 have HSA := hID (fun (u : World) (hu : Below W.heap.size W u) => same_ok (k := 6) (md := md) (N := 1) (M := M) nm_few false (by omega) (by omega) (by omega) ⟨by omega, by omega⟩ (HMT.out u hu))
 have hT : (bs (preFew ++ [49, 100, 32, 112, 97, 121, 32]) ++ bs (dgl M)) ++ bs endB = bs (txt (statT fewB false 1 M)) := by rw [bs_append, bs_append, txt_one]
 rw [<- hT] at HSA
 clear hT
 have hsM := bsz M (by omega)
 have hdM := fun u => tdigitsI M rfl (by omega) u
 generalize bs (dgl M) = DM at *
 go_wp2_with fail
 refine (hdM _).mono ?_
 rintro e w2 ⟨rfl, b2⟩
 clear hdM
 have hsa := HSA.out w2 b2
 have h4 : 4 <= w2.heap.size := (HMT.out w2 b2).four
 clear HSA
 go_wp2_with fail
 refine hsa.mono ?_
 rintro e w3 ⟨SA, sc, T, x, MA, mc, rfl, hL, b3⟩
 clear hsa
 have hb3 := b2.trans (b3.mono b2.size)
 go_upto_region 6 with (fail)
 obtain ⟨V, hV, bV, rV, hLV⟩ := lw_box hL (by omega)
 rw [hV]
 clear hV hL
 have hbV := hb3.trans (bV.mono hb3.size)
 have lV := (gis rV).1
 have HLV := hID (fun (u : World) (hu : Below V.heap.size V u) => hLV.under (by omega) hu)
 have HRV := hID (fun (u : World) (hu : Below V.heap.size V u) => lwbox ((hu.block _ lV).trans rV))
 have hzV := hbV.size
 clear hLV rV bV b2 b3 hb3
 go_wp2_with fail
 go_loopw [10, 11, 12] (fun v f i wr => ∃ (j c : Nat) (A : Option Addr) (ws : List Sp) (L : List Fc), j <= n0 /\ v = .slice A j c /\ f = .int .i64 (22000 + 200 * (j : Int)) /\ i = .int .i64 (j : Int) /\ Hid (Cut ws L j) /\ wr.ownsRow V.heap.size 34 14 (.slice A j c) j (flat Fc.cells L) /\ Below V.heap.size V wr) (fun _ _ i _ => n0 - (intOf i).toNat)
 case atStart => exact ⟨0, 0, none, [], [], by omega, rfl, rfl, rfl, hID Cut.zero, World.ownsRow_nil _ _ _ _, bRf⟩
 case round =>
  obtain ⟨j, c, A, ws, L, hj, rfl, rfl, rfl, hC, hown, hb⟩ := hrel
  have hwsz := hb.size
  by_cases hlt : j < n0
  ·obtain ⟨y, hy⟩ : ∃ y, l0[j]? = some y := ⟨_, List.getElem?_eq_getElem (by omega)⟩
   have hbW := hbV.trans (hb.mono hzV)
   obtain ⟨_, g, o, hA0, hg, hcy⟩ := (HRD.out wr hbW).int hy
   have hlo : (0 : Int) <= (j : Int) := by omega
   have hhi : (j : Int) < (n0 : Int) := by omega
   rw [hA0]
   obtain ⟨f, hf⟩ : ∃ f : Int, 22000 + 200 * (j : Int) = f := ⟨_, rfl⟩
   rw [hf]
   have hfb : 22000 <= f /\ f <= 22800 := by omega
   have HF := hID hf
   clear hf
   go_wp2_with fail
   refine (pickI _ _ (by omega) (by omega) _).mono ?_
   rintro e w4 ⟨p, rfl, hp, rfl⟩
   have hCC := hID (hC.out.snoc (by omega) HF.out.symm hp.1 hp.2)
   obtain ⟨t, ht⟩ : ∃ t : Int, f + 1 + p = t := ⟨_, rfl⟩
   rw [ht] at hCC
   have htb : 22000 <= t /\ t <= 23000 := by omega
   clear hp hcy
   go_wp2_with fail
   refine (work_ok _ _ _ _ _ _).mono ?_
   rintro e w5 ⟨rfl, b5⟩
   have hown5 := own_underF hown b5
   have hb5 := hb.trans (b5.mono hwsz)
   have hz5 := hb5.size
   dsimp only [wkCells]
   go_wp2_with (at_builtin; go_loud (refine wpList_append_rd (by rfl) (.tmp 45) (.tmp 57) 36 (by rfl) V.heap.size 34 i1 _ 14 112 Tryz.underlying36 hi1 hy0 hy1 hy2 rfl (by omega) (.slice A j c) j (flat Fc.cells L) (by rfl) (hown5.alloc _) (w5.heap.size + 1) (some ⟨w5.heap.size, 0, none⟩) 1 1 (wkF (j : Int) 1 f t 100).cells (by rfl) (Rd.built (hAn w5 _) (by omega) rfl) (by intro u hu; rw [wk_cells] at hu; simp at hu; rcases hu with rfl | rfl | rfl | rfl | rfl | rfl | rfl | rfl | rfl | rfl | rfl | rfl | rfl | rfl <;> rfl) (by unfold maxLen; omega) (by omega) (by simp; omega) ?_); intro q4 w7 hown7 hg7 hat7)
   have hb7 := ((hb5.alloc hz5 _).grown hg7 (by simp; omega) (fun g e => (hown5.lt g e).1))
   obtain ⟨A7, c7, rfl, _, _, _⟩ := own_form hown7
   go_roundw
   case rel => exact ⟨j + 1, c7, A7, ws ++ [⟨f, t⟩], L ++ [wkF (j : Int) 1 f t 100], by omega, rfl, by rw [<- HF.out]; go_num, by go_num, hCC, by rw [flat_append, flat_one]; exact hown7, hb7⟩
   case measure => simp [intOf]; omega
  ·obtain rfl : j = n0 := by omega
   have hlt0 : decide ((j : Int) < (j : Int)) = false := by simp
   have hbW := hbV.trans (hb.mono hzV)
   obtain ⟨d0, d1, d2⟩ := HRV.out wr hb
   have hC' := hC.out
   have hall := all_of (c := c) (d := 36000) (ws := ws) (HLV.out wr hb) ⟨by omega, by omega⟩ (Rd.ofOwn hown) hC'.fl hC'.wk (hC'.ok.weak (by decide)) (by rw [hC'.len]; omega) (by decide) (by decide) nm_few (by decide) (by omega) (by decide) (fun s hs => by have := hC'.hi s hs; show s.t <= 36000; omega) (HMT.out wr hbW)
   have HFEW := hID (fun s : Nat => all_law (M := M) (ws := ws) (md := md) (lo := 22000) (by decide) hC'.ok (by rw [hC'.len]; omega) (by rw [hC'.len]; omega) (fun p hp => by have := hC'.few p hp; omega) s)
   rw [hC'.len] at HFEW
   clear hC'
   go_wp2_with fail
   refine hall.mono ?_
   rintro e w7 ⟨A1, c1, Y, rfl, hYl, hY, hown7, b7⟩
   clear hall d0 d1 d2
   have hb7 := hbW.trans (b7.mono hbW.size)
   go_wp2_with fail
   refine (tawake_ok (HMT.out w7 hb7)).mono ?_
   rintro e w8 ⟨rfl, b8⟩
   have hb8 := hb7.trans (b8.mono hb7.size)
   obtain ⟨gb, go, rfl, hgb, hc⟩ := aw_cells (own_underF hown7 b8) hYl hY (by decide)
   have HC := hID hc
   clear hc hYl hY
   go_wp2_with fail
   go_loopw [14] (fun i wr => ∃ k : Nat, k <= 6 /\ i = .int .i64 (k : Int) /\ wr = w8) (fun i _ => 6 - (intOf i).toNat)
   case atStart => exact ⟨0, by omega, rfl, rfl⟩
   case round =>
    obtain ⟨k, hk, rfl, rfl⟩ := hrel
    by_cases hlt : k < 6
    ·obtain ⟨XA, xc, q⟩ := HC.out k hlt
     have q3 := q 3 _ rfl
     have qa := q 10 _ rfl
     dsimp only at q3 qa
     rw [HFEW.out k] at qa
     have hlo : (0 : Int) <= (k : Int) := by omega
     have hhi : (k : Int) < 6 := by omega
     by_cases hkj : k = j - 1
     ·rw [if_pos hkj] at qa
      have hne : ((k : Int) == (j : Int) - 1) = true := by rw [beq_iff_eq]; omega
      clear hkj
      go_wp2_with fail
      go_roundw
      case rel => exact ⟨k + 1, by omega, by go_num, trivial⟩
      case measure => simp [intOf]; omega
     ·rw [if_neg hkj] at qa
      have hne : ((k : Int) == (j : Int) - 1) = false := beq_eq_false_iff_ne.2 (by omega)
      clear hkj
      go_wp2_with fail
      go_roundw
      case rel => exact ⟨k + 1, by omega, by go_num, trivial⟩
      case measure => simp [intOf]; omega
    ·obtain rfl : k = 6 := by omega
     go_wp2_with fail
     go_ret
     exact ⟨rfl, hb8⟩
end
section
open Go.ChangeShapes Go.WideShapes Go.ChangeAt Go.RowKit

theorem ownTopAllFew : ownKnob Tryz.prog.godebug = none := by kernel_rfl
theorem outBTopAllFew : laidOutB Tryz.prog = true := by kernel_rfl
theorem metTopAllFew (os : Os) : laidMet Tryz.prog Rows.topAllFewRow.laid ((World.doorLaid Tryz.prog 24 os).forCall (fun _ _ => 0) ⟨#[], #[.slice none 0 0, .int .i64 0, .int .i64 0], []⟩).memory :=
 laidMet_of_run' 8 (by kernel_rfl) (by kernel_rfl)
theorem readsTopAllFew (os : Os) {H : Type} (enc : TypeId × Value -> H) : ∃ places, DataW.whole enc Tryz.prog ((World.doorLaid Tryz.prog 24 os).forCall (fun _ _ => 0) ⟨#[], #[.slice none 0 0, .int .i64 0, .int .i64 0], []⟩).memory Tryz.f4.params.toList Rows.topAllFewSpec.vars false #[.slice none 0 0, .int .i64 0, .int .i64 0].toList 8 = some ([.nil, .lit (.int .i64 0), .lit (.int .i64 0)], [], places) :=
 ⟨[], by kernel_rfl⟩

theorem contractTopAllFew (H : Type) (enc : TypeId × Value -> H) (W : World) (args : Array Value) (ds gs : List (DataW H)) (before : List MemPlace) (base : Nat)
  (hval : ∀ (j : Nat) t v, Tryz.f4.params[j]? = some t -> args[j]? = some v -> Value.okWide Tryz.prog W .any base t v)
  (hW : DataW.Whole enc Tryz.prog Tryz.f4.params.toList Rows.topAllFewSpec.vars false W args.toList ds gs before) (hM : Mt W) :
  Calls Tryz.prog 4 args W fun e W' => ∃ v, e = .returned v /\ Rows.topAllFewSpec.post enc Tryz.prog Tryz.f4 false true false false W args v W' := by
 have hW' := hW
 obtain ⟨p, q, hA0, hV, rfl, hfz, hnd⟩ := hW
 have hA : DataW.TrodAll enc Tryz.prog W 0 (fun _ => true) true Tryz.f4.params.toList args.toList ds p := hA0
 rw [Tryz.params4] at hA hval
 obtain ⟨v0, vs0, d0, ds0, p0, q0, hargs, rfl, rfl, h0, r0⟩ := trodAll_cons hA
 obtain ⟨v1, vs1, d1, ds1, p1, q1, rfl, rfl, rfl, h1, r1⟩ := trodAll_cons r0
 obtain ⟨v2, vs2, d2, ds2, p2, q2, rfl, rfl, rfl, h2, r2⟩ := trodAll_cons r1
 obtain ⟨rfl, rfl, rfl⟩ := trodAll_nil r2
 obtain rfl : args = #[v0, v1, v2] := by cases args; simp_all
 obtain ⟨rfl, rfl⟩ := trodVars_none hV
 obtain ⟨A0, n0, c0, rfl⟩ := okWide_slice Tryz.underlying45 (hval 0 45 v0 rfl rfl)
 have k0 := h0
 have lt0 : ∀ x ∈ p0, x.block < W.heap.size := by obtain ⟨m, hm⟩ := k0; exact DataW.trod_lt m _ _ _ hm
 obtain ⟨l0, rd0, mx0⟩ : ∃ l : List Int, Rd W W.heap.size 1 A0 n0 (ints l) /\ n0 <= maxLen := by
  obtain ⟨fuel, hf⟩ := h0
  obtain ⟨A, n, c, xs, hcs, hrd, _, _, hm⟩ := intl_of_trodG hf
  simp [Value.cells] at hcs
  obtain ⟨rfl, rfl, rfl⟩ := hcs
  exact ⟨xs, hrd, hm⟩
 obtain ⟨a1, rfl, rfl, rfl, w1⟩ := open_int Tryz.underlying3 (hval 1 3 v1 rfl rfl) h1
 obtain ⟨a2, rfl, rfl, rfl, w2⟩ := open_int Tryz.underlying3 (hval 2 3 v2 rfl rfl) h2
 clear hA0
 refine (walkTopAllFew A0 n0 c0 l0 a1 a2 W hM rd0 mx0 (wf_i64 w1) (wf_i64 w2)).mono fun e W' ⟨he, bel⟩ => ?_
 subst he
 exact ⟨_, rfl, _, _, _, [], _, [], hW', trodAll_mk1 (shut_bool Tryz.underlying4 _), (trodAll_cons_mk (Below.trod outBTopAllFew (by kernel_rfl) (of_decide_eq_true (by kernel_rfl)) k0 bel lt0) (trodAll_cons_mk (shut_int Tryz.underlying3 w1) (trodAll_cons_mk (shut_int Tryz.underlying3 w2) trodAll_mk0))), rfl, bel.frame _, fun h => by cases h⟩

theorem liftedTopAllFew (os : Os) (started : os.Started) (H : Type) (enc : TypeId × Value -> H) (F : Stop.Interp) :
  ReturnsInHanded {} Tryz.checked os 4 .any ((OpenSpec.ofChange Rows.topAllFewSpec).preRow enc Tryz.prog Tryz.f4 Rows.topAllFewRow.domain false Rows.topAllFewRow.laid) (((OpenSpec.ofChange Rows.topAllFewSpec).at F).post enc Tryz.prog Tryz.f4 false true false false) := by
 obtain ⟨places, hx⟩ := readsTopAllFew os enc
 refine returnsInHanded_of_row (C := Tryz.checked) (s := OpenSpec.ofChange Rows.topAllFewSpec) ownTopAllFew started (by kernel_rfl) Tryz.func4
  (witness_row_at (enc := enc) (C := Tryz.checked) false (World.doorLaid Tryz.prog 24 os) #[.slice none 0 0, .int .i64 0, .int .i64 0] rfl (by kernel_rfl) (by kernel_rfl) (by kernel_rfl)
    (OpenSpec.preRow_of_cond 8 hx (by kernel_rfl) (fun k hk => by cases hk) (by kernel_rfl) (metTopAllFew os))) ?_
 intro W base args ds gs before hval hW _ _ _ hL hS _
 exact contractTopAllFew H enc W args ds gs before base hval hW (mt_of_laid hL hS)

theorem closedTopAllFew : joinedFacts Tryz.pinned.checked.prog 4 Tryz.f4 (OpenSpec.ofChange Rows.topAllFewSpec).bare Rows.topAllFewRow = true := by
 unfold joinedFacts
 simp only [Bool.and_eq_true]
 repeat' apply And.intro
 all_goals (as_aux_lemma => kernel_rfl)
theorem saidTopAllFew : Rows.TopAllFewSaid :=
 OpenClaim.holds_of_cond 4 Tryz.f4 rfl rfl rfl rfl rfl rfl rfl ⟨rfl, rfl, rfl, rfl, rfl⟩ rfl rfl rfl rfl rfl (by kernel_rfl) Tryz.func4 closedTopAllFew
  (of_decide_eq_true (by kernel_rfl)) (by unfold Func.isWrapper; first | (rw [if_pos (by decide +kernel)]; kernel_rfl) | (rw [if_neg (by decide +kernel)]; exact ⟨rfl, rfl⟩))
  (fun os started H enc _ F => by rw [OpenClaim.pre_eq_preRow]; exact liftedTopAllFew os started H enc F)

theorem plainTopAllFew (f : FuncId) (fn : Func) (hf : Tryz.pinned.checked.prog.funcNamed "pension/pensiontop.TopAllFew" = some f) (hfn : Tryz.pinned.checked.prog.funcs[f]? = some fn) :
  false = Tryz.pinned.checked.prog.looks [] /\ ∀ (j : Nat) t, fn.params[j]? = some t -> Tryz.pinned.checked.prog.wantsStandIn t = false := by
 obtain rfl : f = 4 := Option.some.inj ((show Tryz.prog.funcNamed "pension/pensiontop.TopAllFew" = some 4 by kernel_rfl).symm.trans hf) |>.symm
 obtain rfl : fn = Tryz.f4 := (Option.some.inj (Tryz.func4.symm.trans hfn)).symm
 refine ⟨by kernel_rfl, fun j t ht => ?_⟩
 rw [Tryz.params4] at ht
 have hm : t ∈ [45, 3, 3] := by simpa using Array.mem_of_getElem? ht
 have hall : ([45, 3, 3].all fun u => !Tryz.prog.wantsStandIn u) = true := by kernel_rfl
 exact (show Tryz.prog.wantsStandIn t = false by simpa using List.all_eq_true.1 hall t hm)

theorem wfTopAllFew : Rows.topAllFewRow.wfByText (OpenSpec.ofChange Rows.topAllFewSpec) = true := by kernel_rfl
theorem mainTopAllFew : Tryz.pinned.checked.prog.mainIs = some (Rows.topAllFewCard.stood.harness.1, Rows.topAllFewCard.stood.harness.2.toList) := by kernel_rfl
theorem goesTopAllFew : false = Rows.topAllFewRow.goesBy Tryz.pinned.checked.prog := by kernel_rfl
theorem provedTopAllFew : Rows.TopAllFewCardSaid :=
 Claim7.holds_tied_plain_at .later [] _ _ _ _ saidTopAllFew (fun _ h => by cases h) wfTopAllFew (fun _ h => by cases h) topAllFew_row_tie rfl ⟨rfl, rfl⟩ mainTopAllFew rfl plainTopAllFew goesTopAllFew
#print axioms provedTopAllFew
end
end Go.Proofs.YtnlopdmhdiegnaaGreatDoor
