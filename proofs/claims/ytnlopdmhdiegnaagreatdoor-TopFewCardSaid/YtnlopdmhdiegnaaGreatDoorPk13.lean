/- Lemmas (no conditions): SpLast, SpClip, SpItx, SpClipP, SpCont, TreatyQ, SpSi -/
import Derived.StillTailTactics
import Derived.Test.YtnlopdmhdiegnaaGreatDoorPk10
set_option linter.unusedSimpArgs false
set_option linter.unusedVariables false
set_option maxRecDepth 100000
set_option maxHeartbeats 64000000
namespace Go.Proofs.YtnlopdmhdiegnaaGreatDoor
open Go.RowKit
section
theorem lastV_snoc (l : List Sp) (s : Sp) : lastV (l ++ [s]) = (s.t - 1, true) := by simp [lastV]
theorem last_any {A : Option Addr} {n c : Nat} {l : List Sp} {w : World} (h : Ds w A n l) (hn : n <= 1000) :
  Calls Tryz.prog 81 #[.slice A n c] w fun e w' => e = .returned (pairV (lastV (nf (dset l)))) /\ Below w.heap.size w w' := by
 have hnl := nf_length_le h.2
 have hfit := nf_fit (dset l)
 go_enter Tryz.func81, Tryz.ntmps81
 go_wp2_with fail
 refine (make_nf h (by omega)).mono ?_
 rintro e w1 ⟨A1, c1, rfl, hown, hb1⟩
 generalize hN : nf (dset l) = N at *
 have HN := Lib.hid hN
 clear hN
 rcases List.eq_nil_or_concat N with rfl | ⟨N', q, rfl⟩
 ·go_wp2_with fail
  go_ret2
  exact ⟨by rw [HN.out]; rfl, hb1⟩
 ·rw [List.concat_eq_append] at *
  obtain ⟨f1, f2, f3⟩ := hfit q (by simp)
  have hd1 := Ds.ofOwn hown rfl
  obtain ⟨_, g, o, rfl, _, _, e1⟩ := sp_cells hd1.1 (show (N' ++ [q])[N'.length]? = some q by simp)
  have hv := lastV_snoc N' q
  have HV := Lib.hid hv
  have hlen : (N' ++ [q]).length = N'.length + 1 := by simp
  generalize hm : (N' ++ [q]).length = m at *
  have hm1 : N'.length = m - 1 := by omega
  have hm0 : 0 < m := by omega
  have hm2 : ((m : Int) == 0) = false := beq_eq_false_iff_ne.2 (by omega)
  have hw1 : IntKind.i64.wrap ((m : Int) - 1) = (m : Int) - 1 := IntWalk.i64_in _ (by omega)
  rw [hm1] at e1
  clear hm hlen hm1 hv hfit hown hd1
  go_wp2_with fail
  go_ret2
  exact ⟨by rw [HN.out, HV.out]; rfl, hb1⟩
end
section
theorem two_span (w : World) (f t : Int) : ∃ W, W = (w.alloc (.cells #[.int .i64 f, .int .i64 t] 32)).alloc (.cells #[.int .i64 f, .int .i64 t] 32) /\ Ds W (some ⟨w.heap.size + 1, 0, none⟩) 1 [⟨f, t⟩] /\ Below w.heap.size w W := by
 refine ⟨_, rfl, ⟨Rd.built (cs := #[.int .i64 f, .int .i64 t]) (t := 32) (fr := (0, 0)) ?_ (by simp) rfl, rfl⟩, ((Below.refl _ _).alloc (Nat.le_refl _) _).alloc (by simp) _⟩
 have := heap_alloc_new (w.alloc (.cells #[.int .i64 f, .int .i64 t] 32)) (.cells #[.int .i64 f, .int .i64 t] 32)
 simpa using this
end
section
theorem intersect_any {A B : Option Addr} {n m c d : Nat} {la lb : List Sp} {w : World} (ha : Ds w A n la) (hb : Ds w B m lb) (hn : n <= 5000) (hm : m <= 5000) :
  Calls Tryz.prog 202 #[.slice A n c, .slice B m d] w (RetNf w fun x => dset la x && dset lb x) := by
 obtain ⟨i0, hi0, hz0, hz1, hz2⟩ := info_parts info_span
 have hna := nf_length_le ha.2
 have hnb := nf_length_le hb.2
 have hres : itxN ((nf (dset la)).length + (nf (dset lb)).length) (nf (dset la)) (nf (dset lb)) = nf fun x => dset la x && dset lb x := by
  rw [itx_eq (nf_norm _) (nf_norm _) (Nat.le_refl _)]
  refine nf_congr fun x hx => ?_
  rw [nf_cov, nf_cov, hx, Bool.true_and, Bool.true_and]
 have hfa := nf_fit (dset la)
 have hfb := nf_fit (dset lb)
 have HR := Lib.hid hres
 have HFA := Lib.hid hfa
 have HFB := Lib.hid hfb
 clear hres hfa hfb
 go_enter Tryz.func202, Tryz.ntmps202
 go_wp2_with fail
 refine (make_nf ha (by omega)).mono ?_
 rintro e w1 ⟨A1, c1, rfl, hown1, hb1⟩
 have hd1 := Ds.ofOwn hown1 rfl
 have hbB := hb.below hb1
 have hz1w := hb1.size
 clear ha hb hown1
 go_wp2_with fail
 refine (make_nf hbB (by omega)).mono ?_
 rintro e w2 ⟨B1, d1, rfl, hown2, hb2⟩
 have hd2 := Ds.ofOwn hown2 rfl
 have hd1' := hd1.below hb2
 have hbb2 := hb1.trans (hb2.mono hz1w)
 clear hd1 hbB hown2 hb1 hb2
 generalize nf (dset la) = P at *
 generalize nf (dset lb) = Q at *
 generalize hp : P.length = p at *
 generalize hq : Q.length = q at *
 have HP := Lib.hid hp
 have HQ := Lib.hid hq
 have hz2w := hbb2.size
 clear hp hq
 go_wp2_with fail
 go_loopw [5, 6, 7] (fun v i j wr => ∃ (a b : Nat) (O : List Sp), a <= p /\ b <= q /\ i = .int .i64 (a : Int) /\ j = .int .i64 (b : Int) /\ O ++ itxN ((p - a) + (q - b)) (P.drop a) (Q.drop b) = itxN (p + q) P Q /\ O.length <= a + b /\ wr.ownsRow w2.heap.size 32 2 v O.length (flat Sp.cells O) /\ Below w2.heap.size w2 wr) (fun _ i j _ => (p - (intOf i).toNat) + (q - (intOf j).toNat))
 case atStart => exact ⟨0, 0, [], by omega, by omega, rfl, rfl, rfl, by simp, World.ownsRow_nil _ _ _ _, Below.refl _ _⟩
 case round =>
  obtain ⟨a, b, O, hap, hbq, rfl, rfl, hO, hOl, hown, hbr⟩ := hrel
  have hwsz := hbr.size
  obtain ⟨A2, c2, rfl, _, _, _⟩ := own_form hown
  by_cases hal : a < p
  ·by_cases hbl : b < q
   ·obtain ⟨x, hx⟩ : ∃ x, P[a]? = some x := ⟨_, List.getElem?_eq_getElem (by rw [HP.out]; exact hal)⟩
    obtain ⟨y, hy⟩ : ∃ y, Q[b]? = some y := ⟨_, List.getElem?_eq_getElem (by rw [HQ.out]; exact hbl)⟩
    obtain ⟨_, g, o, rfl, hgb, e0w, e1w⟩ := sp_cells hd1'.1 hx
    obtain ⟨_, g2, o2, rfl, hgb2, e2w, e3w⟩ := sp_cells hd2.1 hy
    have e0 := (hbr.cell (p := ⟨g, o + a * 2, none⟩) hgb).trans e0w
    have e1 := (hbr.cell (p := ⟨g, o + a * 2 + 1, none⟩) hgb).trans e1w
    have e2 := (hbr.cell (p := ⟨g2, o2 + b * 2, none⟩) hgb2).trans e2w
    have e3 := (hbr.cell (p := ⟨g2, o2 + b * 2 + 1, none⟩) hgb2).trans e3w
    clear e0w e1w e2w e3w
    obtain ⟨f1, f2, f3⟩ := HFA.out x (List.mem_of_getElem? hx)
    obtain ⟨f4, f5, f6⟩ := HFB.out y (List.mem_of_getElem? hy)
    have hfu : (p - a) + (q - b) = ((p - (a + 1)) + (q - b)) + 1 := by omega
    have hfu2 : (p - a) + (q - (b + 1)) = (p - (a + 1)) + (q - b) := by omega
    rw [hfu, drop_getS hx, drop_getS hy, itxN] at hO
    have hs1 : P.drop a = x :: P.drop (a + 1) := drop_getS hx
    have hs2 : Q.drop b = y :: Q.drop (b + 1) := drop_getS hy
    rw [<- hs1, <- hs2] at hO
    have HO := Lib.hid hO
    have HFU := Lib.hid hfu2
    have hlo1 : (0 : Int) <= (a : Int) := by omega
    have hhi1 : (a : Int) < (p : Int) := by omega
    have hlo2 : (0 : Int) <= (b : Int) := by omega
    have hhi2 : (b : Int) < (q : Int) := by omega
    have hmx : (if x.f < y.f then y.f else x.f) = max x.f y.f := by split <;> omega
    have hmn : (if y.t < x.t then y.t else x.t) = min x.t y.t := by split <;> omega
    clear hx hy hO hs1 hs2 hfu hfu2
    have hgl : g < wr.heap.size := by omega
    have hgl2 : g2 < wr.heap.size := by omega
    have a0 := (World.cell?_alloc_lt wr (.cells #[.int .i64 0, .int .i64 0] 32) ⟨g, o + a * 2, none⟩ hgl).trans e0
    have a1 := (World.cell?_alloc_lt wr (.cells #[.int .i64 0, .int .i64 0] 32) ⟨g, o + a * 2 + 1, none⟩ hgl).trans e1
    have a2 := (World.cell?_alloc_lt wr (.cells #[.int .i64 0, .int .i64 0] 32) ⟨g2, o2 + b * 2, none⟩ hgl2).trans e2
    have a3 := (World.cell?_alloc_lt wr (.cells #[.int .i64 0, .int .i64 0] 32) ⟨g2, o2 + b * 2 + 1, none⟩ hgl2).trans e3
    go_wp2_with fail
    go_region
    have hrow : (wr.alloc (.cells #[.int .i64 (max x.f y.f), .int .i64 (min x.t y.t)] 32)).drew.heap[wr.heap.size]? = some (.cells #[.int .i64 (max x.f y.f), .int .i64 (min x.t y.t)] 32 (0, 0)) := heap_alloc_new wr _
    have hownA := (hown.alloc (.cells #[.int .i64 (max x.f y.f), .int .i64 (min x.t y.t)] 32)).drew
    have hbA := (hbr.alloc hwsz (.cells #[.int .i64 (max x.f y.f), .int .i64 (min x.t y.t)] 32)).drew
    have hzA : wr.heap.size < (wr.alloc (.cells #[.int .i64 (max x.f y.f), .int .i64 (min x.t y.t)] 32)).drew.heap.size := by simp
    have b1 := (World.cell?_alloc_lt wr (.cells #[.int .i64 (max x.f y.f), .int .i64 (min x.t y.t)] 32) ⟨g, o + a * 2 + 1, none⟩ hgl).trans e1
    have b3 := (World.cell?_alloc_lt wr (.cells #[.int .i64 (max x.f y.f), .int .i64 (min x.t y.t)] 32) ⟨g2, o2 + b * 2 + 1, none⟩ hgl2).trans e3
    have hm1 : 0 <= max x.f y.f /\ max x.f y.f <= 73049 := by omega
    clear hmx hmn a0 a1 a2 a3 e0 e1 e2 e3 hown hbr
    obtain ⟨W, hW⟩ : ∃ W, W = (wr.alloc (.cells #[.int .i64 (max x.f y.f), .int .i64 (min x.t y.t)] 32)).drew := ⟨_, rfl⟩
    have b1' : W.cell? ⟨g, o + a * 2 + 1, none⟩ = some (.int .i64 x.t) := by rw [hW]; exact b1
    have b3' : W.cell? ⟨g2, o2 + b * 2 + 1, none⟩ = some (.int .i64 y.t) := by rw [hW]; exact b3
    rw [<- hW] at hrow hownA hbA hzA ⊢
    clear hW b1 b3
    have s0 : W.cell? ⟨wr.heap.size, 0, none⟩ = some (.int .i64 (max x.f y.f)) := by rw [cell_of_row W _ 0 _ _ _ hrow]; rfl
    have s1 : W.cell? ⟨wr.heap.size, 1, none⟩ = some (.int .i64 (min x.t y.t)) := by rw [cell_of_row W _ 1 _ _ _ hrow]; rfl
    have hWz := hbA.size
    generalize max x.f y.f = mf at *
    generalize min x.t y.t = mt at *
    by_cases hmm : mf < mt
    ·as_aux_lemma =>
      have hl2 : (O ++ [Sp.mk mf mt]).length = O.length + 1 := by simp
      have hf2 : flat Sp.cells (O ++ [Sp.mk mf mt]) = flat Sp.cells O ++ [.int .i64 mf, .int .i64 mt] := by rw [flat_append, flat_one]; rfl
      have HL2 := Lib.hid hl2
      have HF2 := Lib.hid hf2
      clear hl2 hf2
      go_wp2_with (at_builtin; go_loud (refine wpList_append_rd (by rfl) (.tmp 51) (.tmp 53) 180 (by rfl) w2.heap.size 32 i0 _ 2 16 Tryz.underlying180 hi0 hz0 hz1 hz2 rfl (by omega) (.slice A2 O.length c2) O.length (flat Sp.cells O) (by rfl) (hownA.alloc _) (W.heap.size + 1) (some ⟨W.heap.size, 0, none⟩) 1 1 [.int .i64 mf, .int .i64 mt] (by rfl) (Rd.built (heap_alloc_new W _) (by omega) rfl) (by intro u hu; simp at hu; rcases hu with rfl | rfl <;> rfl) (by unfold maxLen; omega) (by omega) (by simp; omega) ?_); intro v4 w4 hown4 hg4 hat4
                   obtain ⟨A4, c4, rfl, _, _, _⟩ := own_form hown4
                   have hb4 := (hbA.alloc hbA.size (.cells #[.int .i64 mf, .int .i64 mt] 32)).grown hg4 (by simp; omega) (fun g e => by have := (hownA.lt g e).1; omega)
                   have k1 : w4.cell? ⟨g, o + a * 2 + 1, none⟩ = some (.int .i64 x.t) := (hg4.cell (a := ⟨g, o + a * 2 + 1, none⟩) (v := .int .i64 x.t) ((World.cell?_alloc_lt W _ _ (show g < W.heap.size by omega)).trans b1') (by intro e; first | (have := (hownA.lt g e).1; omega) | (have := (hownA.lt g e.symm).1; omega)))
                   have k3 : w4.cell? ⟨g2, o2 + b * 2 + 1, none⟩ = some (.int .i64 y.t) := (hg4.cell (a := ⟨g2, o2 + b * 2 + 1, none⟩) (v := .int .i64 y.t) ((World.cell?_alloc_lt W _ _ (show g2 < W.heap.size by omega)).trans b3') (by intro e; first | (have := (hownA.lt g2 e).1; omega) | (have := (hownA.lt g2 e.symm).1; omega))))
      go_quiet (fail)
      by_cases ht : x.t < y.t
      ·as_aux_lemma =>
        have HO2 : Hid ((O ++ [Sp.mk mf mt]) ++ itxN ((p - (a + 1)) + (q - b)) (P.drop (a + 1)) (Q.drop b) = itxN (p + q) P Q) := by have := HO.out; rw [if_pos (show mf < mt by omega), if_pos (show x.t < y.t by omega)] at this; rw [List.append_assoc]; exact this
        go_wp2_with fail
        go_roundw
        case rel =>
         refine ⟨a + 1, b, O ++ [Sp.mk mf mt], by omega, by omega, by go_num, rfl, HO2.out, by rw [HL2.out]; omega, ?_, below_drewN hb4 nq⟩
         rw [HL2.out, HF2.out]
         exact hown4
        case measure => simp [intOf]; omega
      ·as_aux_lemma =>
        have HO2 : Hid ((O ++ [Sp.mk mf mt]) ++ itxN ((p - a) + (q - (b + 1))) (P.drop a) (Q.drop (b + 1)) = itxN (p + q) P Q) := by have := HO.out; rw [if_pos (show mf < mt by omega), if_neg (show ¬ x.t < y.t by omega)] at this; rw [List.append_assoc, HFU.out]; exact this
        go_wp2_with fail
        go_roundw
        case rel =>
         refine ⟨a, b + 1, O ++ [Sp.mk mf mt], by omega, by omega, rfl, by go_num, HO2.out, by rw [HL2.out]; omega, ?_, below_drewN hb4 nq⟩
         rw [HL2.out, HF2.out]
         exact hown4
        case measure => simp [intOf]; omega
    ·as_aux_lemma =>
      go_wp2_with fail
      go_quiet (fail)
      by_cases ht : x.t < y.t
      ·as_aux_lemma =>
        have HO2 : Hid (O ++ itxN ((p - (a + 1)) + (q - b)) (P.drop (a + 1)) (Q.drop b) = itxN (p + q) P Q) := by have := HO.out; rw [if_neg (show ¬ mf < mt by omega), if_pos (show x.t < y.t by omega)] at this; exact this
        go_wp2_with fail
        go_roundw
        case rel => exact ⟨a + 1, b, O, by omega, by omega, by go_num, rfl, HO2.out, by omega, hownA, below_drewN hbA nq⟩
        case measure => simp [intOf]; omega
      ·as_aux_lemma =>
        have HO2 : Hid (O ++ itxN ((p - a) + (q - (b + 1))) (P.drop a) (Q.drop (b + 1)) = itxN (p + q) P Q) := by have := HO.out; rw [if_neg (show ¬ mf < mt by omega), if_neg (show ¬ x.t < y.t by omega)] at this; rw [HFU.out]; exact this
        go_wp2_with fail
        go_roundw
        case rel => exact ⟨a, b + 1, O, by omega, by omega, rfl, by go_num, HO2.out, by omega, hownA, below_drewN hbA nq⟩
        case measure => simp [intOf]; omega
   ·as_aux_lemma =>
     have HO2 : Hid (O = nf fun x => dset la x && dset lb x) := by
      rw [List.drop_eq_nil_of_le (show Q.length <= b by have := HQ.out; omega), itxN_nil _ _ _ (.inr rfl), List.append_nil] at hO
      exact hO.trans HR.out
     clear hO
     go_wp2_with fail
     go_ret
     show RetNf _ _ _ _
     unfold RetNf
     rw [<- HO2.out]
     exact ⟨A2, c2, rfl, ownsRow_base hown hz2w, hbb2.trans (hbr.mono hz2w)⟩
  ·as_aux_lemma =>
    have HO2 : Hid (O = nf fun x => dset la x && dset lb x) := by
     rw [List.drop_eq_nil_of_le (show P.length <= a by have := HP.out; omega), itxN_nil _ _ _ (.inl rfl), List.append_nil] at hO
     exact hO.trans HR.out
    clear hO
    go_wp2_with fail
    go_ret
    show RetNf _ _ _ _
    unfold RetNf
    rw [<- HO2.out]
    exact ⟨A2, c2, rfl, ownsRow_base hown hz2w, hbb2.trans (hbr.mono hz2w)⟩
end
section
theorem clip_any {A : Option Addr} {n c : Nat} {l : List Sp} {w : World} (f t : Int) (h : Ds w A n l) (hn : n <= 5000) :
  Calls Tryz.prog 136 #[.slice A n c, .agg #[.int .i64 f, .int .i64 t]] w (RetNf w fun x => dset l x && dset [⟨f, t⟩] x) := by
 go_enter Tryz.func136, Tryz.ntmps136
 go_wp2_with fail
 obtain ⟨W, hW, hd, hb⟩ := two_span w f t
 rw [<- hW]
 clear hW
 refine (intersect_any (h.below hb) hd hn (by omega)).mono ?_
 rintro e w1 ⟨A1, c1, rfl, hown, hb1⟩
 have hz := hb.size
 go_wp2_with fail
 go_ret
 exact ⟨A1, c1, rfl, ownsRow_base hown hz, hb.trans (hb1.mono hz)⟩
end
section
theorem incl_any (f t d : Int) (p : Addr) (w : World) (hp : w.cell? p = some (.int .i64 d)) (hpl : p.block < w.heap.size) :
  Calls Tryz.prog 293 #[.agg #[.int .i64 f, .int .i64 t], .pointer (some p)] w fun e w' => e = .returned (.bool (inS ⟨f, t⟩ d)) /\ Below w.heap.size w w' := by
 have hp2 : (w.alloc (.cells #[.int .i64 f, .int .i64 t] 32)).cell? p = some (.int .i64 d) := (World.cell?_alloc_lt w _ p hpl).trans hp
 have hb := (Below.refl w.heap.size w).alloc (Nat.le_refl _) (.cells #[.int .i64 f, .int .i64 t] 32)
 have hrow : (w.alloc (.cells #[.int .i64 f, .int .i64 t] 32)).heap[w.heap.size]? = some (.cells #[.int .i64 f, .int .i64 t] 32 (0, 0)) := heap_alloc_new w _
 by_cases h1 : f <= d
 ·by_cases h2 : d < t
  ·have e1 : decide (f <= d) = true := by simpa using h1
   have e2 : decide (d < t) = true := by simpa using h2
   have hv : inS ⟨f, t⟩ d = true := (inS_iff _ _).2 ⟨h1, h2⟩
   rw [hv]
   clear hv
   go_enter Tryz.func293, Tryz.ntmps293
   go_wp2_with fail
   go_ret
   exact ⟨rfl, hb⟩
  ·have e1 : decide (f <= d) = true := by simpa using h1
   have e2 : decide (d < t) = false := by simpa using h2
   have hv : inS ⟨f, t⟩ d = false := (inS_false _ _).2 (by show ¬(f <= d /\ d < t); omega)
   rw [hv]
   clear hv
   go_enter Tryz.func293, Tryz.ntmps293
   go_wp2_with fail
   go_ret
   exact ⟨rfl, hb⟩
 ·have e1 : decide (f <= d) = false := by simpa using h1
  have hv : inS ⟨f, t⟩ d = false := (inS_false _ _).2 (by show ¬(f <= d /\ d < t); omega)
  rw [hv]
  clear hv
  go_enter Tryz.func293, Tryz.ntmps293
  go_wp2_with fail
  go_ret
  exact ⟨rfl, hb⟩
def RetIx (w : World) (b : Bool) (e : Ending) (w' : World) : Prop := ∃ i : Int, e = .returned (.int .i64 i) /\ -1 <= i /\ decide (0 <= i) = b /\ Below w.heap.size w w'
theorem ixfn_any {A : Option Addr} {n c : Nat} {l : List Sp} {w : World} (d : Int) (p : Addr) (h : Ds w A n l) (hn : n <= 1000000) (hp : w.cell? p = some (.int .i64 d)) (hpl : p.block < w.heap.size) :
  Calls Tryz.prog 339 #[.slice A n c, .func (.func 293) #[] #[.pointer (some p)]] w (RetIx w (cov l d)) := by
 have HN := Lib.hid h.2
 have hrd := h.1
 clear h
 go_enter Tryz.func339, Tryz.ntmps339
 go_wp2_with fail
 go_loopw [8] (fun i wr => ∃ k : Nat, k <= n /\ i = .int .i64 (k : Int) /\ cov (l.take k) d = false /\ Below w.heap.size w wr) (fun i _ => n - (intOf i).toNat)
 case atStart => exact ⟨0, by omega, rfl, by simp [cov], Below.refl _ _⟩
 case round =>
  obtain ⟨k, hk, rfl, hno, hb⟩ := hrel
  have hwsz := hb.size
  by_cases hlt : k < n
  ·have hkl : k < l.length := by rw [HN.out]; exact hlt
   obtain ⟨x, hx⟩ : ∃ x, l[k]? = some x := ⟨_, List.getElem?_eq_getElem hkl⟩
   obtain ⟨_, g, o, rfl, hgb, e0, e1⟩ := sp_cells (hrd.below hb) hx
   have hlo : (0 : Int) <= (k : Int) := by omega
   have hhi : (k : Int) < (n : Int) := by omega
   have hcv : cov (l.take (k + 1)) d = inS x d := by
    rw [take_snocS hx, cov_append, hno, Bool.false_or, cov_cons, cov_nil, Bool.or_false]
   have hcy : inS x d = true -> cov l d = true := fun hi => (cov_iff l d).2 ⟨x, List.mem_of_getElem? hx, (inS_iff x d).1 hi⟩
   have HCV := Lib.hid hcv
   have HCY := Lib.hid hcy
   have hpr := (hb.cell (p := p) hpl).trans hp
   clear hx hno hcv hcy hp
   go_wp2_with fail
   refine (incl_any x.f x.t d p _ hpr (by omega)).mono ?_
   rintro e w2 ⟨rfl, hb2⟩
   have hb3 := hb.trans (hb2.mono hwsz)
   cases hi : inS x d
   ·rw [hi] at HCV
    clear hi
    go_wp2_with fail
    go_roundw
    case rel => exact ⟨k + 1, by omega, by go_num, HCV.out, hb3⟩
    case measure => simp [intOf]; omega
   ·have hc := HCY.out hi
    have HC := Lib.hid hc
    clear hi hc HCY
    go_wp2_with fail
    go_ret
    exact ⟨k, rfl, by omega, by rw [HC.out]; simp, hb3⟩
  ·rw [List.take_of_length_le (by have := HN.out; omega)] at hno
   have HC := Lib.hid hno
   clear hno
   go_wp2_with fail
   go_ret
   exact ⟨-1, rfl, by omega, by rw [HC.out]; rfl, hb⟩
theorem ctfn_any {A : Option Addr} {n c : Nat} {l : List Sp} {w : World} (d : Int) (p : Addr) (h : Ds w A n l) (hn : n <= 1000000) (hp : w.cell? p = some (.int .i64 d)) (hpl : p.block < w.heap.size) :
  Calls Tryz.prog 292 #[.slice A n c, .func (.func 293) #[] #[.pointer (some p)]] w fun e w' => e = .returned (.bool (cov l d)) /\ Below w.heap.size w w' := by
 go_enter Tryz.func292, Tryz.ntmps292
 go_wp2_with fail
 refine (ixfn_any d p h hn hp hpl).mono ?_
 rintro e w1 ⟨i, rfl, hi, hv, hb⟩
 have HV := Lib.hid hv
 clear hv
 go_wp2_with fail
 go_ret
 exact ⟨ret_bool HV.out, hb⟩
theorem contains_any {A : Option Addr} {n c : Nat} {l : List Sp} {w : World} (d : Int) (h : Ds w A n l) (hn : n <= 1000000) :
  Calls Tryz.prog 237 #[.slice A n c, .int .i64 d] w fun e w' => e = .returned (.bool (dset l d)) /\ Below w.heap.size w w' := by
 have hb := (Below.refl w.heap.size w).alloc (Nat.le_refl _) (.cells #[.int .i64 d] 3)
 by_cases h0 : d < 0
 ·have e0 : decide (d < 0) = true := by simpa using h0
  have hv : dset l d = false := by
   unfold dset
   rw [show isD d = false by rw [Bool.eq_false_iff]; intro e; have := (isD_iff d).1 e; omega]
   rfl
  rw [hv]
  clear hv
  go_enter Tryz.func237, Tryz.ntmps237
  go_wp2_with fail
  go_ret
  exact ⟨rfl, hb⟩
 ·have e0 : decide (d < 0) = false := by simpa using h0
  by_cases h1 : 73049 <= d
  ·have e1 : decide (73049 <= d) = true := by simpa using h1
   have hv : dset l d = false := by
    unfold dset
    rw [show isD d = false by rw [Bool.eq_false_iff]; intro e; have := (isD_iff d).1 e; omega]
    rfl
   rw [hv]
   clear hv
   go_enter Tryz.func237, Tryz.ntmps237
   go_wp2_with fail
   go_ret
   exact ⟨rfl, hb⟩
  ·have e1 : decide (73049 <= d) = false := by simpa using h1
   have hv : dset l d = cov l d := by
    unfold dset
    rw [(isD_iff d).2 (by omega), Bool.true_and]
   rw [hv]
   clear hv
   go_enter Tryz.func237, Tryz.ntmps237
   go_wp2_with fail
   have hc : (w.alloc (.cells #[.int .i64 d] 3)).cell? ⟨w.heap.size, 0, none⟩ = some (.int .i64 d) := by rw [World.cell?_alloc_new]; rfl
   refine (ctfn_any d ⟨w.heap.size, 0, none⟩ (h.below hb) hn hc (by simp)).mono ?_
   rintro e w1 ⟨rfl, hb1⟩
   go_wp2_with fail
   go_ret
   exact ⟨rfl, hb.trans (hb1.mono hb.size)⟩
end
section
def lastM (b : Int) : List Int -> Int
 | [] => b
 | x :: r => lastM x r
theorem okM_append : ∀ (l r : List Int) (b : Int), okM b (l ++ r) = (okM b l && okM (lastM b l) r)
 | [], r, b => by simp [okM, lastM]
 | x :: l, r, b => by
  show (decide (b < x /\ x <= 5) && okM x (l ++ r)) = (decide (b < x /\ x <= 5) && okM x l && okM (lastM x l) r)
  rw [okM_append l r x, Bool.and_assoc]
theorem lastM_snoc : ∀ (l : List Int) (x b : Int), lastM b (l ++ [x]) = x
 | [], _, _ => rfl
 | y :: l, x, _ => lastM_snoc l x y
theorem okM_snoc (l : List Int) (x b : Int) : okM b (l ++ [x]) = (okM b l && decide (lastM b l < x /\ x <= 5)) := by
 rw [okM_append]
 simp [okM]
theorem okM_ge : ∀ (l : List Int) (b : Int), okM b l = true -> b <= lastM b l
 | [], b, _ => Int.le_refl b
 | x :: l, b, h => by
  have h2 : decide (b < x /\ x <= 5) = true /\ okM x l = true := by simpa [okM] using h
  have := okM_ge l x h2.2
  have h3 := of_decide_eq_true h2.1
  show b <= lastM x l
  omega
theorem okM_cut {l : List Int} {k : Nat} {b : Int} (h : okM b (l.take k) = false) : okM b l = false := by
 have e := okM_append (l.take k) (l.drop k) b
 rw [List.take_append_drop, h, Bool.false_and] at e
 exact e
theorem lastM_take {l : List Int} {k : Nat} {y b : Int} (hy : l[k]? = some y) : lastM b (l.take (k + 1)) = y := by
 rw [List.take_add_one, hy]
 exact lastM_snoc _ _ _
theorem okM_take {l : List Int} {k : Nat} {x b : Int} (hx : l[k]? = some x) : okM b (l.take (k + 1)) = (okM b (l.take k) && decide (lastM b (l.take k) < x /\ x <= 5)) := by
 rw [List.take_add_one, hx]
 exact okM_snoc _ _ _
def lastT (b : Int) : List Ru -> Int
 | [] => b
 | x :: r => lastT x.f r
theorem okT_append : ∀ (l r : List Ru) (b : Int), okT b (l ++ r) = (okT b l && okT (lastT b l) r)
 | [], r, b => by simp [okT, lastT]
 | x :: l, r, b => by
  show (okR x && decide (b < x.f) && okT x.f (l ++ r)) = (okR x && decide (b < x.f) && okT x.f l && okT (lastT x.f l) r)
  rw [okT_append l r x.f, Bool.and_assoc (okR x && decide (b < x.f))]
theorem lastT_snoc : ∀ (l : List Ru) (x : Ru) (b : Int), lastT b (l ++ [x]) = x.f
 | [], _, _ => rfl
 | y :: l, x, _ => lastT_snoc l x y.f
theorem okT_take {l : List Ru} {k : Nat} {x : Ru} {b : Int} (hx : l[k]? = some x) : okT b (l.take (k + 1)) = (okT b (l.take k) && (okR x && decide (lastT b (l.take k) < x.f))) := by
 rw [List.take_add_one, hx]
 show okT b (l.take k ++ [x]) = _
 rw [okT_append]
 simp [okT]
theorem lastT_take {l : List Ru} {k : Nat} {y : Ru} {b : Int} (hy : l[k]? = some y) : lastT b (l.take (k + 1)) = y.f := by
 rw [List.take_add_one, hy]
 exact lastT_snoc _ _ _
theorem okT_cut {l : List Ru} {k : Nat} {b : Int} (h : okT b (l.take k) = false) : okT b l = false := by
 have e := okT_append (l.take k) (l.drop k) b
 rw [List.take_append_drop, h, Bool.false_and] at e
 exact e
end
section
theorem take_snocI {l : List Int} {k : Nat} {x : Int} (hx : l[k]? = some x) : l.take (k + 1) = l.take k ++ [x] := by
 rw [List.take_add_one, hx]
 rfl
end
end Go.Proofs.YtnlopdmhdiegnaaGreatDoor
