/- Lemmas (no conditions): Kept, SpRefA, InsB, SpEdges, SpComb, SpMake, SpLawA, TrA, Few -/
import Derived.Test.YtnlopdmhdiegnaaGreatDoorPk06
set_option linter.unusedSimpArgs false
set_option linter.unusedVariables false
set_option maxRecDepth 100000
set_option maxHeartbeats 64000000
namespace Go.Proofs.YtnlopdmhdiegnaaGreatDoor
open Go.RowKit
section
def Kw (W : World) : Type := { u : World // Below W.heap.size W u }
instance (W : World) : Nonempty (Kw W) := ⟨⟨W, Below.refl _ W⟩⟩
theorem Kw.cell {W : World} (u : Kw W) {p : Addr} {v : Value} (hp : p.block < W.heap.size) (h : W.cell? p = some v) : u.1.cell? p = some v := (u.2.cell hp).trans h
theorem Kw.call {W : World} (u : Kw W) {w' : World} (h : Below u.1.heap.size u.1 w') : ∃ u' : Kw W, w' = u'.1 := ⟨⟨w', u.2.trans (h.mono u.2.size)⟩, rfl⟩
theorem wp_region_kept {P : Program} {id : Nat} {Q : Exit -> Act -> World -> Prop} {a : Act} {W : World} {l : List Oper} (hm : P.follows .mixedOrders = true) (hB : Region.lexB .any l.toArray = true)
  (h : wpQuiet P l.toArray (fun w' => ∃ u : Kw W, w' = u.1) (fun a' => ∀ w', (∃ u : Kw W, w' = u.1) -> Q .normal a' w') l a) : (Code.region id l.toArray true).wp P Q a W :=
 wp_region_quiet (C := fun w' => ∃ u : Kw W, w' = u.1) hm hB ⟨⟨W.drew, (Below.refl _ W).drew⟩, rfl⟩ (by simpa using h)
end
section
theorem take_snocS {l : List Sp} {k : Nat} {x : Sp} (hx : l[k]? = some x) : l.take (k + 1) = l.take k ++ [x] := by
 rw [List.take_add_one, hx]
 rfl
theorem drop_getS {l : List Sp} {k : Nat} {x : Sp} (hx : l[k]? = some x) : l.drop k = x :: l.drop (k + 1) := by
 obtain ⟨hk, e⟩ := List.getElem?_eq_some_iff.1 hx
 rw [List.drop_eq_getElem_cons hk, e]
end
section
theorem info_int : (Tryz.prog.info? 3).map (fun i => (i.zero, i.size, i.bytes)) = some (some (.int .i64 0), 1, 8) := by kernel_rfl
end
section
structure SRow where
 a : Option Addr
 n : Nat
 c : Nat
 l : List Sp
def SRow.val (r : SRow) : Value := .slice r.a r.n r.c
end
section
def gk (kind : Int) (x y : Bool) : Bool := (decide (kind = 1) && x && y) || (decide (kind = 2) && (x || y)) || (decide (kind = 3) && x && !y)
end
section
theorem cutL_take {l : List Sp} {k : Nat} {x : Sp} (hx : l[k]? = some x) : cutL (l.take (k + 1)) = if (cutS x).f < (cutS x).t then cutL (l.take k) ++ [cutS x] else cutL (l.take k) := by
 have h : l.take (k + 1) = l.take k ++ [x] := by
  rw [List.take_add_one, hx]
  rfl
 rw [h, cutL_snoc]
theorem flat_set_t (O : List Sp) (q : Sp) (v : Int) : (flat Sp.cells (O ++ [q])).set (O.length * 2 + 1) (.int .i64 v) = flat Sp.cells (O ++ [⟨q.f, v⟩]) := by
 rw [flat_append, flat_append, flat_one, flat_one, List.set_append_right _ _ (by rw [sp_flen]; omega), sp_flen, show O.length * 2 + 1 - O.length * 2 = 1 by omega]
 rfl
theorem three (wr : World) (o1 o2 o3 : Obj) : ∃ W, W = ((wr.alloc o1).alloc o2).alloc o3 /\ Below wr.heap.size wr W /\ W.heap[wr.heap.size]? = some o1 /\ W.heap.size = wr.heap.size + 3 := by
 refine ⟨_, rfl, (((Below.refl _ _).alloc (Nat.le_refl _) _).alloc (by simp) _).alloc (by simp; omega) _, ?_, by simp⟩
 rw [Below.heap_alloc _ _ _ (by simp; omega), Below.heap_alloc _ _ _ (by simp)]
 exact heap_alloc_new wr o1
theorem make_any (A : Option Addr) (n c : Nat) (l : List Sp) (w : World) (h : Rd w w.heap.size 2 A n (flat Sp.cells l)) (hn : l.length = n) (hn2 : n <= 1000000) :
  Calls Tryz.prog 143 #[.slice A n c] w fun e w' => ∃ v, e = .returned v /\ w'.ownsRow w.heap.size 32 2 v (nf (dset l)).length (flat Sp.cells (nf (dset l))) /\ Below w.heap.size w w' := by
 obtain ⟨i0, hi0, hz0, hz1, hz2⟩ := info_parts info_span
 have HN := Lib.hid hn
 clear hn
 go_enter Tryz.func143, Tryz.ntmps143
 go_wp2_with fail
 go_loopw [12] (fun i wr => ∃ (k : Nat) (v : Value), k <= n /\ i = .int .i64 (k : Int) /\ wr.heap[w.heap.size]? = some (.cells #[v] 180 (0, 0)) /\ wr.ownsRow w.heap.size 32 2 v (cutL (l.take k)).length (flat Sp.cells (cutL (l.take k))) /\ Below w.heap.size w wr) (fun i _ => n - (intOf i).toNat)
 case atStart => exact ⟨0, _, by omega, rfl, heap_alloc_new w _, World.ownsRow_nil _ _ _ _, (Below.refl _ _).alloc (Nat.le_refl _) _⟩
 case round =>
  obtain ⟨k, v, hk, rfl, hbox, hown, hb⟩ := hrel
  have hwsz := hb.size
  have hbl : w.heap.size < wr.heap.size := (gis hbox).1
  by_cases hlt : k < n
  ·have hkl : k < l.length := by rw [HN.out]; exact hlt
   obtain ⟨x, hx⟩ : ∃ x, l[k]? = some x := ⟨_, List.getElem?_eq_getElem hkl⟩
   obtain ⟨_, g, o, rfl, hgb, e0, e1⟩ := sp_cells (h.below hb) hx
   have hcut := cutL_take hx
   have hcl := cutL_length (l.take k)
   have hcl2 : (l.take k).length <= n := by rw [List.length_take]; omega
   have HC := Lib.hid hcut
   obtain ⟨A1, c1, rfl, hnc1, hcm1, hA1⟩ := own_form hown
   have hlo : (0 : Int) <= (k : Int) := by omega
   have hhi : (k : Int) < (n : Int) := by omega
   clear hx hcut
   generalize cutL (l.take k) = P at *
   generalize hp : P.length = p at *
   have HP := Lib.hid hp
   clear hp
   have hc0 : wr.cell? ⟨w.heap.size, 0, none⟩ = some (.slice A1 p c1) := by rw [cell_of_row wr _ 0 _ _ _ hbox]; rfl
   have hf0 := frozen_of_row wr w.heap.size 0 _ _ hbox
   go_wp2_with fail
   refine (clamp_any x.f x.t _).mono ?_
   rintro e w2 ⟨rfl, rfl⟩
   go_upto_region 6 with (fail)
   obtain ⟨W3, hW3, hB3, hs3, hz3⟩ := three wr (.cells #[.int .i64 (max x.f 0), .int .i64 (min x.t 73049)] 32) (.cells #[.int .i64 x.f, .int .i64 x.t] 32) (.cells #[.int .i64 (max x.f 0), .int .i64 (min x.t 73049)] 32)
   rw [<- hW3]
   clear hW3
   have hbox3 := (hB3.block w.heap.size hbl).trans hbox
   have hown3 := hown.kept (grownBy_of_below hB3 none) (Classical.em _)
   have hb3 := hb.trans (hB3.mono hwsz)
   have s0 : W3.cell? ⟨wr.heap.size, 0, none⟩ = some (.int .i64 (max x.f 0)) := by rw [cell_of_row W3 _ 0 _ _ _ hs3]; rfl
   have s1 : W3.cell? ⟨wr.heap.size, 1, none⟩ = some (.int .i64 (min x.t 73049)) := by rw [cell_of_row W3 _ 1 _ _ _ hs3]; rfl
   have b0 : W3.cell? ⟨w.heap.size, 0, none⟩ = some (.slice A1 p c1) := by rw [cell_of_row W3 _ 0 _ _ _ hbox3]; rfl
   have bf := frozen_of_row W3 w.heap.size 0 _ _ hbox3
   clear hbox hown hB3 hb hc0 hf0 e0 e1
   have hno := own_ne hown3 hbox3 (by decide)
   have HZ := Lib.hid hz3
   have hz4 : wr.heap.size < W3.heap.size := by omega
   have hz5 : w.heap.size < W3.heap.size := by omega
   clear hz3
   by_cases hct : (cutS x).f < (cutS x).t
   ·have hct2 : max x.f 0 < min x.t 73049 := hct
    have HC2 : Hid (cutL (l.take (k + 1)) = P ++ [cutS x]) := by have := HC.out; rw [if_pos hct] at this; exact this
    clear hct
    go_wp2_with (at_builtin; go_loud (refine wpList_append_rd (by rfl) (.tmp 23) (.tmp 25) 180 (by rfl) w.heap.size 32 i0 _ 2 16 Tryz.underlying180 hi0 hz0 hz1 hz2 rfl (by omega) (.slice A1 p c1) p (flat Sp.cells P) (by rfl) (hown3.alloc _) (W3.heap.size + 1) (some ⟨W3.heap.size, 0, none⟩) 1 1 [.int .i64 (max x.f 0), .int .i64 (min x.t 73049)] (by rfl) (Rd.built (heap_alloc_new W3 _) (by omega) rfl) (by intro u hu; simp at hu; rcases hu with rfl | rfl <;> rfl) (by unfold maxLen; omega) (by omega) (by simp; omega) ?_); intro v4 w4 hown4 hg4 hat4
                 obtain ⟨A4, c4, rfl, hnc4, hcm4, hA4⟩ := own_form hown4
                 have hbox4 : w4.heap[w.heap.size]? = some (.cells #[.slice A1 p c1] 180 (0, 0)) := (hg4.block w.heap.size (by simp; omega) (fun e => hno e.symm)).trans ((Below.heap_alloc _ _ _ hz5).trans hbox3)
                 have b4 : w4.cell? ⟨w.heap.size, 0, none⟩ = some (.slice A1 p c1) := by rw [cell_of_row w4 _ 0 _ _ _ hbox4]; rfl
                 have f4 := frozen_of_row w4 w.heap.size 0 _ _ hbox4)
    have hno4 := own_ne hown4 hbox4 (by decide)
    have hb4 := (hb3.alloc hb3.size (.cells #[.int .i64 (max x.f 0), .int .i64 (min x.t 73049)] 32)).grown hg4 (by simp; omega) (fun g e => by have := (hown3.lt g e).1; omega)
    have e1 : (P ++ [cutS x]).length = p + 1 := by rw [List.length_append, HP.out]; rfl
    have e2 : flat Sp.cells (P ++ [cutS x]) = flat Sp.cells P ++ [.int .i64 (max x.f 0), .int .i64 (min x.t 73049)] := by rw [flat_append, flat_one]; rfl
    refine ⟨⟨k + 1, .slice A4 (p + 1) c4, by omega, by go_num, heap_setCell_same w4 w.heap.size 0 _ _ _ hbox4, ?_, hb4.setCell (Nat.le_refl _) _⟩, by simp [intOf]; omega⟩
    rw [HC2.out, e1, e2]
    exact ownsRow_setCell_ne (p := ⟨w.heap.size, 0, none⟩) hown4 hno4 _
   ·have hct2 : ¬ max x.f 0 < min x.t 73049 := hct
    have HC2 : Hid (cutL (l.take (k + 1)) = P) := by have := HC.out; rw [if_neg hct] at this; exact this
    clear hct
    go_wp2_with fail
    refine ⟨⟨k + 1, .slice A1 p c1, by omega, by go_num, hbox3, ?_, hb3⟩, by simp [intOf]; omega⟩
    rw [HC2.out, HP.out]
    exact hown3
  ·have hkN : l.take k = l := List.take_of_length_le (by have := HN.out; omega)
   rw [hkN] at hown
   have hcl := cutL_length l
   have hpl := fun k' (hp : List.Perm k' (cutL l)) (ha : Asc k') => make_eq hp ha
   obtain ⟨A1, c1, rfl, hnc1, hcm1, hA1⟩ := own_form hown
   have hc0 : wr.cell? ⟨w.heap.size, 0, none⟩ = some (.slice A1 (cutL l).length c1) := by rw [cell_of_row wr _ 0 _ _ _ hbox]; rfl
   have hf0 := frozen_of_row wr w.heap.size 0 _ _ hbox
   have HPL := Lib.hid hpl
   generalize cutL l = P at *
   generalize hp : P.length = p at *
   have HP := Lib.hid hp
   clear hp hkN hpl
   go_wp2_with fail
   refine (sort_spans w.heap.size p c1 w.heap.size A1 P wr hown (by have := HN.out; omega) hwsz hbox).mono ?_
   rintro e w5 ⟨rfl, k', hperm, hasc, hrd5, hcell5, hb5⟩
   have hfold := HPL.out k' hperm hasc
   have hkl : k'.length = p := by rw [hperm.length_eq]; exact HP.out
   have hb6 := hb.trans hb5
   have hz6 := hb6.size
   have HF := Lib.hid hfold
   have HK := Lib.hid hkl
   have hpn : p <= 1000000 := by have := HN.out; omega
   clear hfold hkl hperm hasc HPL hbox hown hc0 hf0 hb hb5 hA1 hcl
   go_wp2_with fail
   go_loopw [6, 34] (fun v i wn => ∃ (k : Nat) (O : List Sp), k <= p /\ i = .int .i64 (k : Int) /\ O = (k'.take k).foldl mrgS [] /\ wn.ownsRow w5.heap.size 32 2 v O.length (flat Sp.cells O) /\ Below w5.heap.size w5 wn) (fun _ i _ => p - (intOf i).toNat)
   case atStart => exact ⟨0, [], by omega, rfl, rfl, World.ownsRow_nil _ _ _ _, Below.refl _ _⟩
   case round =>
    obtain ⟨k, O, hk, rfl, hO, hown, hb⟩ := hrel
    have hwsz2 := hb.size
    by_cases hlt : k < p
    ·have hkl : k < k'.length := by rw [HK.out]; exact hlt
     obtain ⟨x, hx⟩ : ∃ x, k'[k]? = some x := ⟨_, List.getElem?_eq_getElem hkl⟩
     obtain ⟨_, g, o, rfl, hgb, e0, e1⟩ := sp_cells (hrd5.below hb) hx
     have hOl : O.length <= k := by
      have := foldl_mrg_length (k'.take k) []
      rw [<- hO, List.length_take] at this
      simp at this
      omega
     have hstep : (k'.take (k + 1)).foldl mrgS [] = mrgS O x := by
      rw [List.take_add_one, hx, hO]
      simp [List.foldl_append]
     have HS := Lib.hid hstep
     obtain ⟨A2, c2, rfl, hnc2, hcm2, hA2⟩ := own_form hown
     have hlo : (0 : Int) <= (k : Int) := by omega
     have hhi : (k : Int) < (p : Int) := by omega
     clear hx hO hstep
     go_upto_region 15 with (fail)
     have hrow : (wr.alloc (.cells #[.int .i64 x.f, .int .i64 x.t] 32)).heap[wr.heap.size]? = some (.cells #[.int .i64 x.f, .int .i64 x.t] 32 (0, 0)) := heap_alloc_new wr _
     have hownW := hown.alloc (.cells #[.int .i64 x.f, .int .i64 x.t] 32)
     have hbW := hb.alloc hwsz2 (.cells #[.int .i64 x.f, .int .i64 x.t] 32)
     have hzW : wr.heap.size < (wr.alloc (.cells #[.int .i64 x.f, .int .i64 x.t] 32)).heap.size := by simp
     clear hown hb e0 e1
     obtain ⟨W, hW⟩ : ∃ W, W = wr.alloc (.cells #[.int .i64 x.f, .int .i64 x.t] 32) := ⟨_, rfl⟩
     rw [<- hW] at hrow hownW hbW hzW ⊢
     clear hW
     have s0 : W.cell? ⟨wr.heap.size, 0, none⟩ = some (.int .i64 x.f) := by rw [cell_of_row W _ 0 _ _ _ hrow]; rfl
     have s1 : W.cell? ⟨wr.heap.size, 1, none⟩ = some (.int .i64 x.t) := by rw [cell_of_row W _ 1 _ _ _ hrow]; rfl
     have hbWs := hbW.size
     rcases List.eq_nil_or_concat O with rfl | ⟨O', q, rfl⟩
     ·have HS2 : Hid ((k'.take (k + 1)).foldl mrgS [] = [] ++ [x]) := HS.out
      go_quiet (fail)
      go_wp2_with (at_builtin; go_loud (refine wpList_append_rd (by rfl) (.tmp 67) (.tmp 69) 180 (by rfl) w5.heap.size 32 i0 _ 2 16 Tryz.underlying180 hi0 hz0 hz1 hz2 rfl (by omega) (.slice A2 0 c2) 0 (flat Sp.cells []) (by rfl) ((hownW.kept (grownBy_of_below (below_drewN (Below.refl _ _) nq) none) (Classical.em _)).alloc _) (W.heap.size + 1) (some ⟨W.heap.size, 0, none⟩) 1 1 [.int .i64 x.f, .int .i64 x.t] (by rfl) (Rd.built (heap_alloc_new (W.drewN nq) _) (by omega) rfl) (by intro u hu; simp at hu; rcases hu with rfl | rfl <;> rfl) (by unfold maxLen; omega) (by omega) (by simp; omega) ?_); intro v4 w4 hown4 hg4 hat4)
      have hb4 := ((below_drewN hbW nq).alloc hbWs (.cells #[.int .i64 x.f, .int .i64 x.t] 32)).grown hg4 (by simp; omega) (fun g e => by have := (hownW.lt g e).1; omega)
      refine ⟨⟨k + 1, [x], by omega, by go_num, HS2.out.symm, ?_, hb4⟩, by simp [intOf]; omega⟩
      simpa [flat, Sp.cells] using hown4
     ·rw [List.concat_eq_append] at HS hownW hOl ⊢
      have hm1 : mrgS (O' ++ [q]) x = if x.f <= q.t then O' ++ [⟨q.f, max q.t x.t⟩] else O' ++ [q, x] := mrgS_snoc O' q x
      have HM := Lib.hid hm1
      have hq2 : (O' ++ [q]).length = O'.length + 1 := by simp
      have hcells := flat_get sp_len (O' ++ [q]) O'.length 1 q (by simp) (by omega)
      have hst := fun (g' : Nat) (h' : W.ownsRow w5.heap.size 32 2 (.slice (some ⟨g', 0, none⟩) (O' ++ [q]).length c2) (O' ++ [q]).length (flat Sp.cells (O' ++ [q]))) (v : Int) => (h'.stored (O'.length * 2 + 1) (.int .i64 v)).1
      obtain ⟨_, _, hv, _, _, hA2'⟩ := own_form hownW
      injection hv with hv1 _ hv2
      subst hv1 hv2
      obtain ⟨g2, rfl, hg2⟩ := hA2' (by rw [hq2]; omega)
      have hc := hownW.cells (g := g2) rfl _ _ hcells
      rw [addAt, Nat.zero_add] at hc
      have hfz := hownW.frozenAt (O'.length * 2 + 1)
      have hg2b := (hownW.lt g2 rfl).1
      have HST := Lib.hid (hst g2 hownW)
      clear hm1 hcells hst
      have hne : g2 ≠ wr.heap.size := by
       obtain ⟨g', e, hg'⟩ := hA2 (by simp)
       injection e with e
       injection e with e
       omega
      have hfl := flat_set_t O' q (max q.t x.t)
      have hlN : (O' ++ [Sp.mk q.f (max q.t x.t)]).length = (O' ++ [q]).length := by simp
      have hlN2 : (O' ++ [q, x]).length = (O' ++ [q]).length + 1 := by simp
      have hfl2 : flat Sp.cells (O' ++ [q, x]) = flat Sp.cells (O' ++ [q]) ++ [.int .i64 x.f, .int .i64 x.t] := by rw [show O' ++ [q, x] = (O' ++ [q]) ++ [x] by simp, flat_append _ [x], flat_one]; rfl
      have HFL := Lib.hid hfl
      have HFL2 := Lib.hid hfl2
      clear hfl hfl2 hA2 hA2' hnc2
      generalize hN : (O' ++ [q]).length = N at *
      have hO'N : O'.length = N - 1 := by omega
      have hN0 : 0 < N := by omega
      rw [hO'N] at hc hfz HST HFL
      have HLN := Lib.hid hlN
      have HLN2 := Lib.hid hlN2
      have h3 : (if q.t < x.t then x.t else q.t) = max q.t x.t := by split <;> omega
      clear hO'N hN hq2 hlN hlN2
      generalize flat Sp.cells (O' ++ [q]) = F at *
      have hN0' : (0 : Int) < (N : Int) := by omega
      by_cases hle : x.f <= q.t
      ·have HM2 : Hid (mrgS (O' ++ [q]) x = O' ++ [⟨q.f, max q.t x.t⟩]) := by have := HM.out; rw [if_pos hle] at this; exact this
       go_quiet (fail)
       go_wp2_with fail
       go_region
       go_wp2_with fail
       refine ⟨⟨k + 1, O' ++ [Sp.mk q.f (max q.t x.t)], by omega, by go_num, by rw [HS.out, HM2.out], ?_, (below_drewN hbW (nq + 1)).setCell hg2b _⟩, by simp [intOf]; omega⟩
       rw [HLN.out, <- HFL.out]
       exact HST.out _
      ·have HM2 : Hid (mrgS (O' ++ [q]) x = O' ++ [q, x]) := by have := HM.out; rw [if_neg hle] at this; exact this
       go_quiet (fail)
       go_wp2_with (at_builtin; go_loud (refine wpList_append_rd (by rfl) (.tmp 67) (.tmp 69) 180 (by rfl) w5.heap.size 32 i0 _ 2 16 Tryz.underlying180 hi0 hz0 hz1 hz2 rfl (by omega) (.slice (some ⟨g2, 0, none⟩) N c2) N F (by rfl) ((hownW.kept (grownBy_of_below (below_drewN (Below.refl _ _) nq) none) (Classical.em _)).alloc _) (W.heap.size + 1) (some ⟨W.heap.size, 0, none⟩) 1 1 [.int .i64 x.f, .int .i64 x.t] (by rfl) (Rd.built (heap_alloc_new (W.drewN nq) _) (by omega) rfl) (by intro u hu; simp at hu; rcases hu with rfl | rfl <;> rfl) (by unfold maxLen; omega) (by omega) (by simp; omega) ?_); intro v4 w4 hown4 hg4 hat4)
       have hb4 := ((below_drewN hbW nq).alloc hbWs (.cells #[.int .i64 x.f, .int .i64 x.t] 32)).grown hg4 (by simp; omega) (fun g e => by have := (hownW.lt g e).1; omega)
       refine ⟨⟨k + 1, O' ++ [q, x], by omega, by go_num, by rw [HS.out, HM2.out], ?_, hb4⟩, by simp [intOf]; omega⟩
       rw [HLN2.out, HFL2.out]
       exact hown4
    ·have hkp : k'.take k = k' := List.take_of_length_le (by have := HK.out; omega)
     rw [hkp, HF.out] at hO
     subst hO
     obtain ⟨A2, c2, rfl, hnc2, hcm2, hA2⟩ := own_form hown
     go_wp2_with fail
     go_ret
     exact ⟨_, rfl, ownsRow_base hown hz6, hb6.trans (hb.mono hz6)⟩
end
section
def RetNf (w : World) (S : Int -> Bool) (e : Ending) (w' : World) : Prop :=
 ∃ A c, e = .returned (.slice A (nf S).length c) /\ w'.ownsRow w.heap.size 32 2 (.slice A (nf S).length c) (nf S).length (flat Sp.cells (nf S)) /\ Below w.heap.size w w'
theorem retNf_of {w w' : World} {S : Int -> Bool} {e : Ending} (h : ∃ v, e = .returned v /\ w'.ownsRow w.heap.size 32 2 v (nf S).length (flat Sp.cells (nf S)) /\ Below w.heap.size w w') : RetNf w S e w' := by
 obtain ⟨v, rfl, hown, hb⟩ := h
 obtain ⟨A, c, rfl, _, _, _⟩ := own_form hown
 exact ⟨A, c, rfl, hown, hb⟩
def Ds (w : World) (A : Option Addr) (n : Nat) (l : List Sp) : Prop := Rd w w.heap.size 2 A n (flat Sp.cells l) /\ l.length = n
theorem Ds.below {w w' : World} {A : Option Addr} {n : Nat} {l : List Sp} (h : Ds w A n l) (hb : Below w.heap.size w w') : Ds w' A n l := ⟨(h.1.below hb).mono hb.size, h.2⟩
theorem Ds.ofOwn {w : World} {A : Option Addr} {base n c : Nat} {l : List Sp} (h : w.ownsRow base 32 2 (.slice A n c) n (flat Sp.cells l)) (hn : l.length = n) : Ds w A n l := ⟨Rd.ofOwn h, hn⟩
theorem Ds.nil (w : World) : Ds w none 0 [] := ⟨Rd.zero _ _ _ _, rfl⟩
theorem make_nf {A : Option Addr} {n c : Nat} {l : List Sp} {w : World} (h : Ds w A n l) (hn : n <= 1000000) : Calls Tryz.prog 143 #[.slice A n c] w (RetNf w (dset l)) :=
 (make_any A n c l w h.1 h.2 hn).mono fun _ _ h => retNf_of h
end
section
structure Rv where
 r : Ru
 a : Option Addr
 c : Nat
def Rv.cells (x : Rv) : List Value := [.int .i64 x.r.f, .int .i64 x.r.d, .int .i64 x.r.p, .int .i64 x.r.b, .slice x.a x.r.m.length x.c]
def Rv.agg (x : Rv) : Value := .agg #[.int .i64 x.r.f, .int .i64 x.r.d, .int .i64 x.r.p, .int .i64 x.r.b, .slice x.a x.r.m.length x.c]
theorem rv_len (x : Rv) : x.cells.length = 5 := rfl
def Rus (w : World) (B : Nat) (A : Option Addr) (n : Nat) (X : List Rv) : Prop := Rd w B 5 A n (flat Rv.cells X) /\ X.length = n /\ ∀ x ∈ X, Rd w B 1 x.a x.r.m.length (ints x.r.m)
theorem Rus.below {w w' : World} {B n : Nat} {A : Option Addr} {X : List Rv} (h : Rus w B A n X) (hb : Below B w w') : Rus w' B A n X := ⟨h.1.below hb, h.2.1, fun x hx => (h.2.2 x hx).below hb⟩
theorem Rus.mono {w : World} {B B' n : Nat} {A : Option Addr} {X : List Rv} (h : Rus w B A n X) (hB : B <= B') : Rus w B' A n X := ⟨h.1.mono hB, h.2.1, fun x hx => (h.2.2 x hx).mono hB⟩
theorem Rus.to {w w' : World} {n : Nat} {A : Option Addr} {X : List Rv} (h : Rus w w.heap.size A n X) (hb : Below w.heap.size w w') : Rus w' w'.heap.size A n X := (h.below hb).mono hb.size
theorem rv_cells {w : World} {B n : Nat} {A : Option Addr} {X : List Rv} (h : Rus w B A n X) {k : Nat} {x : Rv} (hx : X[k]? = some x) :
  k < n /\ ∃ b o, A = some ⟨b, o, none⟩ /\ b < B /\ w.cell? ⟨b, o + k * 5, none⟩ = some (.int .i64 x.r.f) /\ w.cell? ⟨b, o + k * 5 + 1, none⟩ = some (.int .i64 x.r.d) /\ w.cell? ⟨b, o + k * 5 + 2, none⟩ = some (.int .i64 x.r.p) /\ w.cell? ⟨b, o + k * 5 + 3, none⟩ = some (.int .i64 x.r.b) ∧
   w.cell? ⟨b, o + k * 5 + 4, none⟩ = some (.slice x.a x.r.m.length x.c) /\ Rd w B 1 x.a x.r.m.length (ints x.r.m) := by
 obtain ⟨hk, b, o, e, hb, hc⟩ := h.1.elem rv_len hx (by omega)
 exact ⟨hk, b, o, e, hb, by simpa using hc 0 _ rfl, hc 1 _ rfl, hc 2 _ rfl, hc 3 _ rfl, hc 4 _ rfl, h.2.2 x (List.mem_of_getElem? hx)⟩
theorem tvalid_any (n : Int) (w : World) : Calls Tryz.prog 64 #[.int .i64 n] w fun e w' => e = .returned (.bool (isD n)) /\ w = w' := by
 by_cases h1 : 0 <= n
 ·have d1 : decide (0 <= n) = true := by simpa using h1
  by_cases h2 : n <= 73048
  ·have d2 : decide (n <= 73048) = true := by simpa using h2
   go_enter Tryz.func64, Tryz.ntmps64
   go_wp2
   go_ret
   exact ⟨ret_bool (by simp [isD]; omega), rfl⟩
  ·have d2 : decide (n <= 73048) = false := by simpa using h2
   go_enter Tryz.func64, Tryz.ntmps64
   go_wp2
   go_ret
   exact ⟨ret_bool (by simp [isD]; omega), rfl⟩
 ·have d1 : decide (0 <= n) = false := by simpa using h1
  go_enter Tryz.func64, Tryz.ntmps64
  go_wp2
  go_ret
  exact ⟨ret_bool (by simp [isD]; omega), rfl⟩
theorem own_full {w : World} {base g e sz n : Nat} {cs : Array Value} (h : w.heap[g]? = some (.cells cs e (0, 0))) (hb : base <= g) (hs : cs.size = n * sz) (hn : n <= maxLen) : w.ownsRow base e sz (.slice (some ⟨g, 0, none⟩) n n) n cs.toList :=
 ⟨by simpa using hs, .inr ⟨g, n, cs, rfl, hb, h, Nat.le_refl _, hn, hs, by rw [List.take_of_length_le (by simp [hs])]⟩⟩
end
section
def WOk : Int -> List Sp -> Prop
 | _, [] => True
 | lo, s :: r => lo <= s.f /\ s.f < s.t /\ s.t <= 36500 /\ WOk s.t r
theorem WOk.weak : ∀ {ws : List Sp} {lo lo' : Int}, WOk lo ws -> lo' <= lo -> WOk lo' ws
 | [], _, _, _, _ => trivial
 | _ :: _, _, _, h, hl => ⟨by have := h.1; omega, h.2⟩
def clm : Nat -> List Sp -> List Pr
 | _, [] => []
 | i, s :: r => ⟨(i : Int), 1, s.f, s.t⟩ :: clm (i + 1) r
theorem clm_length : ∀ (i : Nat) (ws : List Sp), (clm i ws).length = ws.length
 | _, [] => rfl
 | i, _ :: r => by simp [clm, clm_length (i + 1) r]
theorem wok_fit : ∀ {ws : List Sp} {lo : Int}, WOk lo ws -> ∀ s ∈ ws, lo <= s.f /\ s.f < s.t /\ s.t <= 36500
 | [], _, _, s, hs => by cases hs
 | p :: r, lo, h, s, hs => by
  obtain ⟨h1, h2, h3, h4⟩ := h
  rcases List.mem_cons.1 hs with rfl | hs
  ·exact ⟨h1, h2, h3⟩
  ·have := wok_fit h4 s hs
   exact ⟨by omega, this.2⟩
theorem mem_clm : ∀ (ws : List Sp) (i : Nat) (p : Pr), p ∈ clm i ws ↔ ∃ k s, ws[k]? = some s /\ p = ⟨((i + k : Nat) : Int), 1, s.f, s.t⟩
 | [], i, p => by simp [clm]
 | q :: r, i, p => by
  rw [clm, List.mem_cons, mem_clm r (i + 1) p]
  constructor
  ·rintro (rfl | ⟨k, s, hk, rfl⟩)
   ·exact ⟨0, q, rfl, rfl⟩
   ·exact ⟨k + 1, s, hk, by congr 2; omega⟩
  ·rintro ⟨k, s, hk, rfl⟩
   cases k with
   | zero => obtain rfl := Option.some.inj hk; exact .inl rfl
   | succ k => exact .inr ⟨k, s, hk, by congr 2; omega⟩
theorem dd_clm (ws : List Sp) (i : Nat) (s r x : Int) : Dd (clm i ws) s r x = true ↔ (0 <= x /\ x < 73049) /\ ∃ k p, ws[k]? = some p /\ s = ((i + k : Nat) : Int) /\ (r = 0 ∨ r = 1) /\ p.f <= x /\ x < p.t := by
 rw [dd_iff]
 constructor
 ·rintro ⟨hx, p, hp, h1, h2, h3, h4⟩
  obtain ⟨k, q, hk, rfl⟩ := (mem_clm ws i p).1 hp
  exact ⟨hx, k, q, hk, h1.symm, h2.imp id Eq.symm, h3, h4⟩
 ·rintro ⟨hx, k, q, hk, h1, h2, h3, h4⟩
  exact ⟨hx, _, (mem_clm ws i _).2 ⟨k, q, hk, rfl⟩, h1.symm, h2.imp id Eq.symm, h3, h4⟩
theorem wok_one : ∀ {ws : List Sp} {lo : Int}, WOk lo ws -> ∀ {j k : Nat} {p q : Sp} {x : Int}, ws[j]? = some p -> ws[k]? = some q -> p.f <= x -> x < p.t -> q.f <= x -> x < q.t -> j = k
 | [], _, _, j, k, p, q, x, hj, _, _, _, _, _ => by simp at hj
 | s :: r, lo, h, j, k, p, q, x, hj, hk, h1, h2, h3, h4 => by
  obtain ⟨a1, a2, a3, a4⟩ := h
  have low : ∀ {i : Nat} {u : Sp}, r[i]? = some u -> s.t <= u.f := fun hu => (wok_fit a4 _ (List.mem_of_getElem? hu)).1
  cases j with
  | zero =>
   cases k with
   | zero => rfl
   | succ k =>
    obtain rfl := Option.some.inj hj
    have := low (i := k) hk
    omega
  | succ j =>
   cases k with
   | zero =>
    obtain rfl := Option.some.inj hk
    have := low (i := j) hj
    omega
   | succ k =>
    rw [wok_one a4 (j := j) (k := k) hj hk h1 h2 h3 h4]
theorem at_clm {ws : List Sp} {lo : Int} (h : WOk lo ws) (h6 : ws.length <= 6) {k : Nat} {p : Sp} {x : Int} (hk : ws[k]? = some p) (h0 : 0 <= x) (h1 : p.f <= x) (h2 : x < p.t) (h3 : x < 73049) : atC (clm 0 ws) x = some ((k : Int), 1) := by
 have hd : Dd (clm 0 ws) k 1 x = true := (dd_clm ws 0 k 1 x).2 ⟨⟨h0, h3⟩, k, p, hk, by simp, .inr rfl, h1, h2⟩
 have hkl := (List.getElem?_eq_some_iff.1 hk).1
 cases ha : atC (clm 0 ws) x with
 | none =>
  have := atC_none ha k ((mem_states _).2 (by omega)) 1 (by decide)
  rw [hd] at this
  cases this
 | some sr =>
  obtain ⟨s, r⟩ := sr
  obtain ⟨_, _, hdd, _⟩ := atC_some ha
  obtain ⟨_, j, q, hj, rfl, hr, q1, q2⟩ := (dd_clm ws 0 s r x).1 hdd
  have hr1 : r = 1 := by
   have := (atC_some ha).2.1
   rw [mem_ranks] at this
   omega
  have := wok_one h hj hk q1 q2 h1 h2
  subst this hr1
  simp
theorem res_clm {ws : List Sp} {lo : Int} (h : WOk lo ws) (h6 : ws.length <= 6) {R : List Pc} (hR : Res (clm 0 ws) R) (s r x : Int) : Dd (R.map Pc.pr) s r x = Dd (clm 0 ws) s r x := by
 rw [Bool.eq_iff_iff, res_dd hR, dd_clm]
 constructor
 ·rintro ⟨q, ha, hr⟩
  obtain ⟨_, hq, hdd, _⟩ := atC_some ha
  obtain ⟨hx, k, p, hk, h1, h2, h3, h4⟩ := (dd_clm ws 0 s q x).1 hdd
  have := (mem_ranks q).1 hq
  exact ⟨hx, k, p, hk, h1, by omega, h3, h4⟩
 ·rintro ⟨hx, k, p, hk, rfl, hr, h3, h4⟩
  refine ⟨1, ?_, by omega⟩
  rw [at_clm h h6 hk hx.1 h3 h4 hx.2]
  simp
def sumW : List Sp -> Int
 | [] => 0
 | s :: r => (s.t - s.f) + sumW r
theorem nf_len (S : Int -> Bool) : lenL (nf S) = cnt S 73049 := by
 rw [<- befL_len2 (nf_norm S), show (73049 : Int) = ((73049 : Nat) : Int) from rfl, befL_cnt (nf_norm S) (by omega)]
 refine cnt_congr _ fun i hi => ?_
 rw [nf_cov, (isD_iff _).2 ⟨by omega, by omega⟩, Bool.true_and]
theorem cov_wok : ∀ {ws : List Sp} {lo : Int}, WOk lo ws -> ∀ x, x < lo -> cov ws x = false
 | [], _, _, _, _ => rfl
 | s :: r, lo, h, x, hx => by
  obtain ⟨h1, h2, h3, h4⟩ := h
  rw [cov_cons, cov_wok h4 x (by omega), Bool.or_false, inS_false]
  omega
theorem cnt_wok : ∀ {ws : List Sp} {lo : Int}, 0 <= lo -> WOk lo ws -> cnt (cov ws) 73049 = sumW ws
 | [], _, _, _ => by
  rw [show cov [] = (fun _ => false) from rfl, cnt_none]
  rfl
 | s :: r, lo, h0, h => by
  obtain ⟨h1, h2, h3, h4⟩ := h
  have e : cov (s :: r) = fun x => inS s x || cov r x := rfl
  rw [e, cnt_or (fun x => ?_), cnt_wok (by omega) h4, cnt_inS (by omega) h2]
  ·show (if s.f < ((73049 : Nat) : Int) then _ else _) + _ = _
   rw [if_pos (by omega)]
   show min s.t ((73049 : Nat) : Int) - s.f + sumW r = _
   rw [Int.min_eq_left (by omega)]
   rfl
  ·cases hx : inS s x
   ·rfl
   ·have := (inS_iff s x).1 hx
    rw [cov_wok h4 x (by omega)]
    rfl
theorem days_all {ws : List Sp} {lo : Int} (h0 : 0 <= lo) (h : WOk lo ws) {S : Int -> Bool} (hS : ∀ x, isD x = true -> S x = cov ws x) : lenL (nf S) = sumW ws := by
 rw [nf_len, <- cnt_wok h0 h]
 exact cnt_congr _ fun i hi => hS i ((isD_iff _).2 ⟨by omega, by omega⟩)
theorem days_one {s : Sp} (h0 : 0 <= s.f) (h1 : s.f < s.t) (h2 : s.t <= 36500) {S : Int -> Bool} (hS : ∀ x, isD x = true -> S x = inS s x) : lenL (nf S) = s.t - s.f := by
 have := days_all (ws := [s]) (lo := s.f) h0 ⟨by omega, h1, h2, trivial⟩ (S := S) (fun x hx => by rw [hS x hx, cov_cons, cov_nil, Bool.or_false])
 rw [this]
 simp [sumW]
theorem days_none {S : Int -> Bool} (hS : ∀ x, isD x = true -> S x = false) : lenL (nf S) = 0 := by
 rw [nf_congr (T := fun _ => false) hS, nf_empty]
 rfl
theorem dd_cov {ws : List Sp} {x : Int} (hx : isD x = true) : cov ws x = true ↔ ∃ (k : Nat) (p : Sp), ws[k]? = some p /\ p.f <= x /\ x < p.t := by
 rw [cov_iff]
 constructor
 ·rintro ⟨s, hs, h1, h2⟩
  obtain ⟨k, hk⟩ := List.getElem?_of_mem hs
  exact ⟨k, s, hk, h1, h2⟩
 ·rintro ⟨k, p, hk, h1, h2⟩
  exact ⟨p, List.mem_of_getElem? hk, h1, h2⟩
end
end Go.Proofs.YtnlopdmhdiegnaaGreatDoor
