/- TopFew: for every input the law returns true, and its arguments read as they did; the condition: the library's tables hold what the program's text lays (the tie is given): the tied card. -/
import Derived.Test.YtnlopdmhdiegnaaGreatDoorPk
import Derived.Test.YtnlopdmhdiegnaaGreatDoorTp
import Derived.Test.YtnlopdmhdiegnaaGreatDoorCards
import Derived.Test.YtnlopdmhdiegnaaGreatDoorTie
import Derived.WalkKit
import Derived.ProofKit
import Derived.OpenShut
import Derived.ChangeOld
import Derived.Below
import Derived.LaidMore
import Derived.Deep.DeepHandedRow
set_option linter.unusedSimpArgs false
set_option linter.unusedVariables false
set_option maxRecDepth 100000
set_option maxHeartbeats 64000000
namespace Go.Proofs.YtnlopdmhdiegnaaGreatDoor
section
theorem shares {a l m : Int} (ha : 0 <= a) (hl : 1 <= l) (hm : 1 <= m) : a * l / (l + m) + a * m / (l + m) <= a /\ a - (a * l / (l + m) + a * m / (l + m)) < 2 := by
 have hp : 0 < l + m := by omega
 have e1 := Int.mul_ediv_add_emod (a * l) (l + m)
 have e2 := Int.mul_ediv_add_emod (a * m) (l + m)
 have b1 := Int.emod_nonneg (a * l) (show l + m ≠ 0 by omega)
 have b2 := Int.emod_nonneg (a * m) (show l + m ≠ 0 by omega)
 have c1 := Int.emod_lt_of_pos (a * l) hp
 have c2 := Int.emod_lt_of_pos (a * m) hp
 generalize a * l / (l + m) = p at *
 generalize a * m / (l + m) = q at *
 generalize a * l % (l + m) = u at *
 generalize a * m % (l + m) = v at *
 have e3 : (l + m) * p + (l + m) * q + u + v = (l + m) * a := by
  have : (l + m) * a = a * l + a * m := by rw [Int.mul_comm, Int.mul_add]
  omega
 have e4 : (l + m) * (a - (p + q)) = u + v := by
  rw [Int.mul_sub, Int.mul_add]
  omega
 obtain ⟨z, hz⟩ : ∃ z, a - (p + q) = z := ⟨_, rfl⟩
 rw [hz] at e4
 constructor
 ·have : 0 <= z := by
   rcases Int.lt_or_le z 0 with h | h
   ·have := Int.mul_neg_of_pos_of_neg hp h
    omega
   ·exact h
  omega
 ·rw [hz]
  rcases Int.lt_or_le z 2 with h | h
  ·exact h
  ·have := Int.mul_le_mul_of_nonneg_left h (show 0 <= l + m by omega)
   omega
def wsF (a b c : Int) : List Sp := [⟨22000, 22000 + a⟩, ⟨25000, 25000 + b⟩, ⟨30000, 30000 + c⟩]
theorem wsF_ok {a b c : Int} (ha : 1 <= a) (ha2 : a <= 3000) (hb : 1 <= b) (hb2 : b <= 5000) (hc : 1 <= c) (hc2 : c <= 6000) : WOk 22000 (wsF a b c) :=
 ⟨by show (22000 : Int) <= 22000; omega, by show (22000 : Int) < 22000 + a; omega, by show (22000 : Int) + a <= 36500; omega, by show (22000 : Int) + a <= 25000; omega, by show (25000 : Int) < 25000 + b; omega, by show (25000 : Int) + b <= 36500; omega, by show (25000 : Int) + b <= 30000; omega, by show (30000 : Int) < 30000 + c; omega, by show (30000 : Int) + c <= 36500; omega, trivial⟩
theorem wsF_d (a b c : Int) : dW (wsF a b c) 0 = a /\ dW (wsF a b c) 1 = b /\ dW (wsF a b c) 2 = c /\ dW (wsF a b c) 3 = 0 /\ dW (wsF a b c) 4 = 0 /\ dW (wsF a b c) 5 = 0 := by
 refine ⟨?_, ?_, ?_, rfl, rfl, rfl⟩
 ·show 22000 + a - 22000 = a; omega
 ·show 25000 + b - 25000 = b; omega
 ·show 30000 + c - 30000 = c; omega
theorem wsF_sum (a b c : Int) : sumW (wsF a b c) = a + b + c := by
 show (22000 + a - 22000) + ((25000 + b - 25000) + ((30000 + c - 30000) + 0)) = a + b + c
 omega
theorem wsF_f {a b c md : Int} (ha : 1 <= a) (ha2 : a < md) (hb : md <= b) (hc : md <= c) : fW (wsF a b c) md 0 = true /\ fW (wsF a b c) md 1 = false /\ fW (wsF a b c) md 2 = false /\ fW (wsF a b c) md 3 = false /\ fW (wsF a b c) md 4 = false /\ fW (wsF a b c) md 5 = false := by
 obtain ⟨d0, d1, d2, d3, d4, d5⟩ := wsF_d a b c
 unfold fW
 rw [d0, d1, d2, d3, d4, d5, decide_eq_true (show 0 < a by omega), decide_eq_true ha2, decide_eq_false (show ¬ b < md by omega), decide_eq_false (show ¬ c < md by omega)]
 simp
theorem wsF_b {a b c md : Int} (ha : 1 <= a) (ha2 : a < md) (hb : md <= b) (hc : md <= c) : bT (wsF a b c) md 6 = b + c := by
 obtain ⟨d0, d1, d2, d3, d4, d5⟩ := wsF_d a b c
 obtain ⟨f0, f1, f2, f3, f4, f5⟩ := wsF_f ha ha2 hb hc
 simp only [bT, f0, f1, f2, f3, f4, f5, d1, d2, d3, d4, d5]
 simp
theorem wsF_fr {a b c md : Int} (ha : 1 <= a) (ha2 : a < md) (hb : md <= b) (hc : md <= c) : (frW (wsF a b c) md 0).1 = 0 /\ frW (wsF a b c) md 1 = (b, b + c) /\ frW (wsF a b c) md 2 = (c, b + c) := by
 obtain ⟨d0, d1, d2, d3, d4, d5⟩ := wsF_d a b c
 obtain ⟨f0, f1, f2, f3, f4, f5⟩ := wsF_f ha ha2 hb hc
 have hbT := wsF_b ha ha2 hb hc
 have e : (b + c == 0) = false := beq_eq_false_iff_ne.2 (by omega)
 unfold frW frV
 rw [hbT, f0, f1, f2, d1, d2, e, decide_eq_true (show 0 < b by omega), decide_eq_true (show 0 < c by omega), decide_eq_true (show 0 < b + c by omega)]
 simp
theorem few_law {a b c md : Int} {N M : Nat} (ha : 1 <= a) (ha2 : a < md) (hb : md <= b) (hc : md <= c) (hN : (N : Int) = a + b + c) :
  (fW (wsF a b c) md 0 = true /\ aA (wsF a b c) md N M 0 = 0) /\ (fW (wsF a b c) md 1 = false /\ fW (wsF a b c) md 2 = false) /\ (aT (wsF a b c) md N M 1 = M /\ aT (wsF a b c) md N M 2 = M) /\ (frW (wsF a b c) md 1 = (b, b + c) /\ frW (wsF a b c) md 2 = (c, b + c)) ∧
   aP (wsF a b c) md N M 1 + aP (wsF a b c) md N M 2 <= M /\ (M : Int) - (aP (wsF a b c) md N M 1 + aP (wsF a b c) md N M 2) < 2 := by
 obtain ⟨f0, f1, f2, f3, f4, f5⟩ := wsF_f ha ha2 hb hc
 obtain ⟨g0, g1, g2⟩ := wsF_fr ha ha2 hb hc
 have hs : (N : Int) <= sumW (wsF a b c) := by rw [wsF_sum]; omega
 have t1 : aT (wsF a b c) md N M 1 = M := by
  unfold aT
  rw [g1, if_neg (show ¬ b = 0 by omega), if_pos hs]
 have t2 : aT (wsF a b c) md N M 2 = M := by
  unfold aT
  rw [g2, if_neg (show ¬ c = 0 by omega), if_pos hs]
 have p1 : aP (wsF a b c) md N M 1 = M * b / (b + c) := by
  unfold aP
  rw [t1, g1, if_neg (show ¬ b = 0 by omega)]
 have p2 : aP (wsF a b c) md N M 2 = M * c / (b + c) := by
  unfold aP
  rw [t2, g2, if_neg (show ¬ c = 0 by omega)]
 refine ⟨⟨f0, ?_⟩, ⟨f1, f2⟩, ⟨t1, t2⟩, ⟨g1, g2⟩, ?_⟩
 ·have i0 : aI (wsF a b c) md N M 0 = 0 := by unfold aI; rw [f0]; rfl
  have q0 : aP (wsF a b c) md N M 0 = 0 := by unfold aP; rw [if_pos g0]
  unfold aA
  rw [i0, q0]
  rfl
 ·rw [p1, p2]
  exact shares (by omega) (by omega) (by omega)
end
section
open Go.RowKit

theorem wks3 (f0 t0 f1 t1 f2 t2 : Int) : Wks [⟨f0, t0⟩, ⟨f1, t1⟩, ⟨f2, t2⟩] [wkF 0 1 f0 t0 100, wkF 1 2 f1 t1 100, wkF 2 3 f2 t2 100] := by
 refine ⟨rfl, fun k s hs => ?_⟩
 match k, hs with
 | 0, hs => obtain rfl := Option.some.inj hs; exact ⟨1, 100, rfl, by decide, by decide, by decide, by decide⟩
 | 1, hs => obtain rfl := Option.some.inj hs; exact ⟨2, 100, rfl, by decide, by decide, by decide, by decide⟩
 | 2, hs => obtain rfl := Option.some.inj hs; exact ⟨3, 100, rfl, by decide, by decide, by decide, by decide⟩
 | k + 3, hs => simp at hs
abbrev wk3 (t0 t1 t2 : Int) : Obj := .cells #[.int .i64 0, .int .i64 1, .int .i64 1, .bool false, .int .i64 1, .int .i64 1, .int .i64 0, .int .i64 22000, .int .i64 t0, .int .i64 0, .int .i64 100, .int .i64 1, .int .i64 100, .int .i64 0,
 .int .i64 1, .int .i64 2, .int .i64 1, .bool false, .int .i64 1, .int .i64 1, .int .i64 1, .int .i64 25000, .int .i64 t1, .int .i64 1, .int .i64 100, .int .i64 1, .int .i64 100, .int .i64 0,
 .int .i64 2, .int .i64 3, .int .i64 1, .bool false, .int .i64 1, .int .i64 1, .int .i64 2, .int .i64 30000, .int .i64 t2, .int .i64 2, .int .i64 100, .int .i64 1, .int .i64 100, .int .i64 0] 34
theorem wk3_new (w : World) (t0 t1 t2 : Int) : ∃ U, w.alloc (wk3 t0 t1 t2) = U /\ Below w.heap.size w U /\ Rd U U.heap.size 14 (some ⟨w.heap.size, 0, none⟩) 3 (flat Fc.cells [wkF 0 1 22000 t0 100, wkF 1 2 25000 t1 100, wkF 2 3 30000 t2 100]) := by
 have rU := hAn w (wk3 t0 t1 t2)
 exact ⟨_, rfl, (bRf).alloc (lRf) _, Rd.built rU (gis rU).1 rfl⟩
theorem walkTopFew (a0 a1 a2 a3 a4 : Int) (W : World) (hM : Mt W) (h0 : I64 a0) (h1 : I64 a1) (h2 : I64 a2) (h3 : I64 a3) (h4 : I64 a4) : Calls Tryz.prog 3 #[.int .i64 a0, .int .i64 a1, .int .i64 a2, .int .i64 a3, .int .i64 a4] W fun e w' => e = .returned (.bool true) /\ Below W.heap.size W w' := by
 have hp := fun (n k : Int) (h1 : 1 <= k) (h2 : k <= 200000) (u : World) => pickI n k h1 h2 u
 have HMT := hID (fun (u : World) (hu : Below W.heap.size W u) => hM.kp hu)
 clear hM h0 h1 h2 h3 h4
 go_enter Tryz.func3, Tryz.ntmps3
 go_wp2_with fail
 refine (pickI _ _ (by omega) (by omega) _).mono ?_
 rintro e w1 ⟨p1, rfl, hp1, rfl⟩
 go_upto_region 2 with (fail)
 obtain ⟨md, hmd⟩ : ∃ md : Int, 2 + p1 = md := ⟨_, rfl⟩
 rw [hmd]
 have hmdb : 2 <= md /\ md <= 701 := by omega
 clear hmd hp1
 go_wp2_with fail
 refine (pickI _ _ (by omega) (by omega) _).mono ?_
 rintro e w1 ⟨p2, rfl, hp2, rfl⟩
 go_wp2_with fail
 refine (pickI _ _ (by omega) (by omega) _).mono ?_
 rintro e w1 ⟨p3, rfl, hp3, rfl⟩
 go_wp2_with fail
 refine (pickI _ _ (by omega) (by omega) _).mono ?_
 rintro e w1 ⟨p4, rfl, hp4, rfl⟩
 go_upto_region 3 with (fail)
 obtain ⟨sh, hsh⟩ : ∃ z : Int, 1 + p2 = z := ⟨_, rfl⟩
 obtain ⟨lo, hlo⟩ : ∃ z : Int, md + p3 = z := ⟨_, rfl⟩
 obtain ⟨mo, hmo⟩ : ∃ z : Int, md + p4 = z := ⟨_, rfl⟩
 rw [hsh, hlo, hmo]
 have hb : 1 <= sh /\ sh < md /\ md <= lo /\ lo < md + 900 /\ md <= mo /\ mo < md + 900 := by omega
 clear hsh hlo hmo hp2 hp3 hp4
 go_wp2_with fail
 refine (pickI _ _ (by omega) (by omega) _).mono ?_
 rintro e w1 ⟨am, rfl, ham, rfl⟩
 obtain ⟨M, rfl⟩ : ∃ M : Nat, am = (M : Int) := ⟨am.toNat, by omega⟩
 go_upto_region 5 with (fail)
 obtain ⟨nd, hnd⟩ : ∃ z : Int, sh + lo + mo = z := ⟨_, rfl⟩
 rw [hnd]
 obtain ⟨N, hN⟩ : ∃ N : Nat, nd = (N : Int) := ⟨nd.toNat, by omega⟩
 have hNs : (N : Int) = sh + lo + mo := by omega
 have hN9 : N < 1000000000 := by omega
 have hM9 : M < 100000 := by omega
 clear hnd
 have HSA := hID (fun (u : World) (hu : Below W.heap.size W u) => same_ok (k := 3) (md := md) (N := N) (M := M) nm_few false (by omega) (by omega) (by omega) ⟨by omega, by omega⟩ (HMT.out u hu))
 have hT : (((bs preFew ++ bs (dgl N)) ++ bs midB) ++ bs (dgl M)) ++ bs endB = bs (txt (statT fewB false N M)) := by rw [bs_append, bs_append, bs_append, bs_append, txt_few]
 rw [<- hT] at HSA
 clear hT
 have hsN := bsz N hN9
 have hsM := bsz M (by omega)
 have hdN := fun u => tdigitsI N hN hN9 u
 have hdM := fun u => tdigitsI M rfl (by omega) u
 have HNS := hID hNs
 clear hNs hN
 generalize bs (dgl N) = DN at *
 generalize bs (dgl M) = DM at *
 go_wp2_with fail
 refine (hdN _).mono ?_
 rintro e w1 ⟨rfl, b1⟩
 clear hdN
 go_wp2_with fail
 refine (hdM _).mono ?_
 rintro e w2 ⟨rfl, b2⟩
 clear hdM
 have hb2 := b1.trans (b2.mono b1.size)
 have hsa := HSA.out w2 hb2
 clear HSA
 go_wp2_with fail
 refine hsa.mono ?_
 rintro e w3 ⟨SA, sc, T, x, MA, mc, rfl, hL, b3⟩
 clear hsa
 have hb3 := hb2.trans (b3.mono hb2.size)
 have h4 : 4 <= w2.heap.size := (HMT.out w2 hb2).four
 go_upto_region 7 with (fail)
 obtain ⟨V, hV, bV, rV, hLV⟩ := lw_box hL (by omega)
 rw [hV]
 clear hV hL
 have hbV := hb3.trans (bV.mono hb3.size)
 go_wp2_with fail
 refine (work_ok _ _ _ _ _ _).mono ?_
 rintro e w4 ⟨rfl, b4⟩
 go_wp2_with fail
 refine (work_ok _ _ _ _ _ _).mono ?_
 rintro e w5 ⟨rfl, b5⟩
 go_wp2_with fail
 refine (work_ok _ _ _ _ _ _).mono ?_
 rintro e w6 ⟨rfl, b6⟩
 dsimp only [wkCells]
 have b6' := b4.trans ((b5.trans (b6.mono b5.size)).mono b4.size)
 have hL6 := hLV.under (by omega) b6'
 have hb6 := hbV.trans (b6'.mono hbV.size)
 go_upto_region 8 with (fail)
 obtain ⟨U, hU, bU, hrd⟩ := wk3_new w6 (22000 + sh) (25000 + lo) (30000 + mo)
 dsimp only [wk3] at hU
 rw [hU]
 clear hU
 have b6U := b6'.trans (bU.mono b6'.size)
 have hLU := hL6.under (by omega) bU
 have hbU := hb6.trans (bU.mono hb6.size)
 obtain ⟨c0, c1, c2⟩ := lwbox ((b6U.block _ (gis rV).1).trans rV)
 have hall := all_of (c := 3) (d := 36000) (ws := wsF sh lo mo) hLU ⟨by omega, by omega⟩ hrd rfl (wks3 _ _ _ _ _ _) ((wsF_ok (by omega) (by omega) (by omega) (by omega) (by omega) (by omega)).weak (by decide)) (Nat.le_refl 3) (by decide) (by decide) nm_few hN9 (by omega) (by decide) (fun s hs => by
  have := wok_fit (wsF_ok (a := sh) (b := lo) (c := mo) (by omega) (by omega) (by omega) (by omega) (by omega) (by omega)) s hs
  rcases List.mem_cons.1 hs with rfl | hs
  ·show 22000 + sh <= 36000; omega
  rcases List.mem_cons.1 hs with rfl | hs
  ·show 25000 + lo <= 36000; omega
  rw [List.mem_singleton.1 hs]
  show 30000 + mo <= 36000
  omega) (HMT.out U hbU)
 clear hLV hL6 hLU hrd rV bV b4 b5 b6 b6' b6U bU hbV hb3 hb2 b1 b2 b3
 go_wp2_with fail
 refine hall.mono ?_
 rintro e w7 ⟨A, c, Y, rfl, hYl, hY, hown, b7⟩
 clear hall c0 c1 c2
 have hb7 := hbU.trans (b7.mono hbU.size)
 go_wp2_with fail
 refine (tawake_ok (HMT.out w7 hb7)).mono ?_
 rintro e w8 ⟨rfl, b8⟩
 have hb8 := hb7.trans (b8.mono hb7.size)
 obtain ⟨gb, go, rfl, hgb, hc⟩ := aw_cells (own_underF hown b8) hYl hY (by decide)
 obtain ⟨XA0, xc0, q0⟩ := hc 0 (by decide)
 obtain ⟨XA1, xc1, q1⟩ := hc 1 (by decide)
 obtain ⟨XA2, xc2, q2⟩ := hc 2 (by decide)
 have hlaw := few_law (M := M) (N := N) hb.1 hb.2.1 hb.2.2.1 hb.2.2.2.2.1 HNS.out
 obtain ⟨⟨l1, l2⟩, ⟨l3, l4⟩, ⟨l5, l6⟩, ⟨l7, l8⟩, l9, l10⟩ := hlaw
 have p04 := q0 4 _ rfl
 have p0a := q0 10 _ rfl
 have p14 := q1 4 _ rfl
 have p16 := q1 6 _ rfl
 have p17 := q1 7 _ rfl
 have p18 := q1 8 _ rfl
 have p19 := q1 9 _ rfl
 have p24 := q2 4 _ rfl
 have p26 := q2 6 _ rfl
 have p27 := q2 7 _ rfl
 have p28 := q2 8 _ rfl
 dsimp only at p04 p0a p14 p16 p17 p18 p19 p24 p26 p27 p28
 rw [l1] at p04
 rw [l2] at p0a
 rw [l3] at p14
 rw [l4] at p24
 rw [l5] at p16
 rw [l6] at p26
 rw [l7] at p18 p19
 rw [l8] at p28
 obtain ⟨P1, hP1⟩ : ∃ z, aP (wsF sh lo mo) md N M 1 = z := ⟨_, rfl⟩
 obtain ⟨P2, hP2⟩ : ∃ z, aP (wsF sh lo mo) md N M 2 = z := ⟨_, rfl⟩
 rw [hP1] at p17
 rw [hP2] at p27
 rw [hP1, hP2] at l9 l10
 clear hP1 hP2 l1 l2 l3 l4 l5 l6 l7 l8 q0 q1 q2 hc hown hY hYl b7 HNS HMT
 have hPB : -2 <= P1 + P2 /\ P1 + P2 <= 100000 := by omega
 have e1 : decide (P1 + P2 <= (M : Int)) = true := decide_eq_true l9
 have e2 : decide ((M : Int) - (P1 + P2) < 2) = true := decide_eq_true l10
 clear l9 l10
 go_upto_region 11 with (fail)
 go_region
 go_wp2_with fail
 go_ret
 exact ⟨rfl, hb8.drew⟩
end
section
open Go.ChangeShapes Go.WideShapes Go.ChangeAt Go.RowKit

theorem ownTopFew : ownKnob Tryz.prog.godebug = none := by kernel_rfl
theorem outBTopFew : laidOutB Tryz.prog = true := by kernel_rfl
theorem metTopFew (os : Os) : laidMet Tryz.prog Rows.topFewRow.laid ((World.doorLaid Tryz.prog 24 os).forCall (fun _ _ => 0) ⟨#[], #[.int .i64 0, .int .i64 0, .int .i64 0, .int .i64 0, .int .i64 0], []⟩).memory :=
 laidMet_of_run' 8 (by kernel_rfl) (by kernel_rfl)
theorem readsTopFew (os : Os) {H : Type} (enc : TypeId × Value -> H) : ∃ places, DataW.whole enc Tryz.prog ((World.doorLaid Tryz.prog 24 os).forCall (fun _ _ => 0) ⟨#[], #[.int .i64 0, .int .i64 0, .int .i64 0, .int .i64 0, .int .i64 0], []⟩).memory Tryz.f3.params.toList Rows.topFewSpec.vars false #[.int .i64 0, .int .i64 0, .int .i64 0, .int .i64 0, .int .i64 0].toList 8 = some ([.lit (.int .i64 0), .lit (.int .i64 0), .lit (.int .i64 0), .lit (.int .i64 0), .lit (.int .i64 0)], [], places) :=
 ⟨[], by kernel_rfl⟩

theorem contractTopFew (H : Type) (enc : TypeId × Value -> H) (W : World) (args : Array Value) (ds gs : List (DataW H)) (before : List MemPlace) (base : Nat)
  (hval : ∀ (j : Nat) t v, Tryz.f3.params[j]? = some t -> args[j]? = some v -> Value.okWide Tryz.prog W .any base t v)
  (hW : DataW.Whole enc Tryz.prog Tryz.f3.params.toList Rows.topFewSpec.vars false W args.toList ds gs before) (hM : Mt W) :
  Calls Tryz.prog 3 args W fun e W' => ∃ v, e = .returned v /\ Rows.topFewSpec.post enc Tryz.prog Tryz.f3 false true false false W args v W' := by
 have hW' := hW
 obtain ⟨p, q, hA0, hV, rfl, hfz, hnd⟩ := hW
 have hA : DataW.TrodAll enc Tryz.prog W 0 (fun _ => true) true Tryz.f3.params.toList args.toList ds p := hA0
 rw [Tryz.params3] at hA hval
 obtain ⟨v0, vs0, d0, ds0, p0, q0, hargs, rfl, rfl, h0, r0⟩ := trodAll_cons hA
 obtain ⟨v1, vs1, d1, ds1, p1, q1, rfl, rfl, rfl, h1, r1⟩ := trodAll_cons r0
 obtain ⟨v2, vs2, d2, ds2, p2, q2, rfl, rfl, rfl, h2, r2⟩ := trodAll_cons r1
 obtain ⟨v3, vs3, d3, ds3, p3, q3, rfl, rfl, rfl, h3, r3⟩ := trodAll_cons r2
 obtain ⟨v4, vs4, d4, ds4, p4, q4, rfl, rfl, rfl, h4, r4⟩ := trodAll_cons r3
 obtain ⟨rfl, rfl, rfl⟩ := trodAll_nil r4
 obtain rfl : args = #[v0, v1, v2, v3, v4] := by cases args; simp_all
 obtain ⟨rfl, rfl⟩ := trodVars_none hV
 obtain ⟨a0, rfl, rfl, rfl, w0⟩ := open_int Tryz.underlying3 (hval 0 3 v0 rfl rfl) h0
 obtain ⟨a1, rfl, rfl, rfl, w1⟩ := open_int Tryz.underlying3 (hval 1 3 v1 rfl rfl) h1
 obtain ⟨a2, rfl, rfl, rfl, w2⟩ := open_int Tryz.underlying3 (hval 2 3 v2 rfl rfl) h2
 obtain ⟨a3, rfl, rfl, rfl, w3⟩ := open_int Tryz.underlying3 (hval 3 3 v3 rfl rfl) h3
 obtain ⟨a4, rfl, rfl, rfl, w4⟩ := open_int Tryz.underlying3 (hval 4 3 v4 rfl rfl) h4
 clear hA0
 refine (walkTopFew a0 a1 a2 a3 a4 W hM (wf_i64 w0) (wf_i64 w1) (wf_i64 w2) (wf_i64 w3) (wf_i64 w4)).mono fun e W' ⟨he, bel⟩ => ?_
 subst he
 exact ⟨_, rfl, _, _, _, [], _, [], hW', trodAll_mk1 (shut_bool Tryz.underlying4 _), (trodAll_cons_mk (shut_int Tryz.underlying3 w0) (trodAll_cons_mk (shut_int Tryz.underlying3 w1) (trodAll_cons_mk (shut_int Tryz.underlying3 w2) (trodAll_cons_mk (shut_int Tryz.underlying3 w3) (trodAll_cons_mk (shut_int Tryz.underlying3 w4) trodAll_mk0))))), rfl, bel.frame _, fun h => by cases h⟩

theorem liftedTopFew (os : Os) (started : os.Started) (H : Type) (enc : TypeId × Value -> H) (F : Stop.Interp) :
  ReturnsInHanded {} Tryz.checked os 3 .any ((OpenSpec.ofChange Rows.topFewSpec).preRow enc Tryz.prog Tryz.f3 Rows.topFewRow.domain false Rows.topFewRow.laid) (((OpenSpec.ofChange Rows.topFewSpec).at F).post enc Tryz.prog Tryz.f3 false true false false) := by
 obtain ⟨places, hx⟩ := readsTopFew os enc
 refine returnsInHanded_of_row (C := Tryz.checked) (s := OpenSpec.ofChange Rows.topFewSpec) ownTopFew started (by kernel_rfl) Tryz.func3
  (witness_row_at (enc := enc) (C := Tryz.checked) false (World.doorLaid Tryz.prog 24 os) #[.int .i64 0, .int .i64 0, .int .i64 0, .int .i64 0, .int .i64 0] rfl (by kernel_rfl) (by kernel_rfl) (by kernel_rfl)
    (OpenSpec.preRow_of_cond 8 hx (by kernel_rfl) (fun k hk => by cases hk) (by kernel_rfl) (metTopFew os))) ?_
 intro W base args ds gs before hval hW _ _ _ hL hS _
 exact contractTopFew H enc W args ds gs before base hval hW (mt_of_laid hL hS)

theorem closedTopFew : joinedFacts Tryz.pinned.checked.prog 3 Tryz.f3 (OpenSpec.ofChange Rows.topFewSpec).bare Rows.topFewRow = true := by
 unfold joinedFacts
 simp only [Bool.and_eq_true]
 repeat' apply And.intro
 all_goals (as_aux_lemma => kernel_rfl)
theorem saidTopFew : Rows.TopFewSaid :=
 OpenClaim.holds_of_cond 3 Tryz.f3 rfl rfl rfl rfl rfl rfl rfl ⟨rfl, rfl, rfl, rfl, rfl⟩ rfl rfl rfl rfl rfl (by kernel_rfl) Tryz.func3 closedTopFew
  (of_decide_eq_true (by kernel_rfl)) (by unfold Func.isWrapper; first | (rw [if_pos (by decide +kernel)]; kernel_rfl) | (rw [if_neg (by decide +kernel)]; exact ⟨rfl, rfl⟩))
  (fun os started H enc _ F => by rw [OpenClaim.pre_eq_preRow]; exact liftedTopFew os started H enc F)

theorem plainTopFew (f : FuncId) (fn : Func) (hf : Tryz.pinned.checked.prog.funcNamed "pension/pensiontop.TopFew" = some f) (hfn : Tryz.pinned.checked.prog.funcs[f]? = some fn) :
  false = Tryz.pinned.checked.prog.looks [] /\ ∀ (j : Nat) t, fn.params[j]? = some t -> Tryz.pinned.checked.prog.wantsStandIn t = false := by
 obtain rfl : f = 3 := Option.some.inj ((show Tryz.prog.funcNamed "pension/pensiontop.TopFew" = some 3 by kernel_rfl).symm.trans hf) |>.symm
 obtain rfl : fn = Tryz.f3 := (Option.some.inj (Tryz.func3.symm.trans hfn)).symm
 refine ⟨by kernel_rfl, fun j t ht => ?_⟩
 rw [Tryz.params3] at ht
 have hm : t ∈ [3, 3, 3, 3, 3] := by simpa using Array.mem_of_getElem? ht
 have hall : ([3, 3, 3, 3, 3].all fun u => !Tryz.prog.wantsStandIn u) = true := by kernel_rfl
 exact (show Tryz.prog.wantsStandIn t = false by simpa using List.all_eq_true.1 hall t hm)

theorem wfTopFew : Rows.topFewRow.wfByText (OpenSpec.ofChange Rows.topFewSpec) = true := by kernel_rfl
theorem mainTopFew : Tryz.pinned.checked.prog.mainIs = some (Rows.topFewCard.stood.harness.1, Rows.topFewCard.stood.harness.2.toList) := by kernel_rfl
theorem goesTopFew : false = Rows.topFewRow.goesBy Tryz.pinned.checked.prog := by kernel_rfl
theorem provedTopFew : Rows.TopFewCardSaid :=
 Claim7.holds_tied_plain_at .later [] _ _ _ _ saidTopFew (fun _ h => by cases h) wfTopFew (fun _ h => by cases h) topFew_row_tie rfl ⟨rfl, rfl⟩ mainTopFew rfl plainTopFew goesTopFew
#print axioms provedTopFew
end
end Go.Proofs.YtnlopdmhdiegnaaGreatDoor
