/- Lemmas (no conditions): Fkf, TrD, Cpa, Cpb, Cpc -/
import Derived.Test.YtnlopdmhdiegnaaGreatDoorPk22
import Derived.Test.YtnlopdmhdiegnaaGreatDoorPk23
set_option linter.unusedSimpArgs false
set_option linter.unusedVariables false
set_option maxRecDepth 100000
set_option maxHeartbeats 64000000
namespace Go.Proofs.YtnlopdmhdiegnaaGreatDoor
open Go.RowKit
section
theorem one_spanF (w : World) (f t : Int) : Ds (w.alloc (.cells #[.int .i64 f, .int .i64 t] 32)) (some ⟨w.heap.size, 0, none⟩) 1 [⟨f, t⟩] :=
 ⟨Rd.built (cs := #[.int .i64 f, .int .i64 t]) (t := 32) (fr := (0, 0)) (heap_alloc_new w _) (by simp) rfl, rfl⟩
theorem resid_no {A : Option Addr} {n c : Nat} {L : List Fc} {w : World} (d : Nat) (hd : d <= 73048) (hL : Rd w w.heap.size 14 A n (flat Fc.cells L)) (hl : L.length = n) (hv : WkL L) (hn : n <= 900) :
  Calls Tryz.prog 233 #[.slice A n c, .int .i64 (d : Int)] w fun e w' => e = .returned (.tuple #[.int .i64 0, .bool false]) /\ Below w.heap.size w w' := by
 have hlf := life_any (c := c) hL hl hv hn
 have HL := Lib.hid hl
 have HV := Lib.hid hv
 have hds : dset [⟨0, 73049⟩] (d : Int) = true := dset_all ((isD_iff _).2 ⟨by omega, by omega⟩)
 have hct := fun (u : World) => contains_any (n := 1) (c := 1) (d : Int) (one_spanF u 0 73049) (by omega)
 rw [hds] at hct
 clear hl hv hds
 go_enter Tryz.func233, Tryz.ntmps233
 go_wp2_with fail
 refine (tvd_any d hd _).mono ?_
 rintro e w0 ⟨rfl, rfl⟩
 go_wp2_with fail
 refine hlf.mono ?_
 rintro e w1 ⟨rfl, b1⟩
 clear hlf
 go_wp2_with fail
 refine (hct _).mono ?_
 rintro e w2 ⟨rfl, b2⟩
 have hb2 := b1.trans ((((Below.refl w1.heap.size w1).alloc (Nat.le_refl _) _).trans (b2.mono (by simp))).mono b1.size)
 clear hct
 go_upto_region 4 with (fail)
 obtain ⟨w3, hw3, b3, r3⟩ := box_new w2 (.cells #[.int .i64 0, .int .i64 0, .int .i64 0, .bool false, .int .i64 0, .int .i64 0, .int .i64 0, .int .i64 0, .int .i64 0, .int .i64 0, .int .i64 0, .int .i64 0, .int .i64 0, .int .i64 0] 34)
 rw [hw3]
 clear hw3
 have hb3 := hb2.trans (b3.mono hb2.size)
 have hz3 := hb3.size
 have l3 := (gis r3).1
 have hbx : ∀ u, Below w3.heap.size w3 u -> u.cell? ⟨w2.heap.size, 6, none⟩ = some (.int .i64 0) := fun u hu => by
  rw [cell_of_row _ _ _ _ _ _ ((hu.block _ l3).trans r3)]; rfl
 have HB := Lib.hid hbx
 clear hbx
 generalize w2.heap.size = Q at *
 go_wp2_with fail
 go_loopw [7, 24] (fun v i wr => ∃ (j : Nat), j <= n /\ i = .int .i64 (j : Int) /\ v = .bool false /\ Below w3.heap.size w3 wr) (fun _ i _ => n - (intOf i).toNat)
 case atStart => exact ⟨0, by omega, rfl, rfl, Below.refl _ _⟩
 case round =>
  obtain ⟨j, hk, rfl, rfl, hb⟩ := hrel
  have hwsz := hb.size
  by_cases hlt : j < n
  ·have hkl : j < L.length := by rw [HL.out]; exact hlt
   obtain ⟨x, hx⟩ : ∃ x, L[j]? = some x := ⟨_, List.getElem?_eq_getElem hkl⟩
   have HVX := Lib.hid (fc_kind HV.out hx)
   obtain ⟨_, g, o2, rfl, hgb, f0⟩ := fc_cells (hL.below (hb3.trans (hb.mono hz3))) hx
   obtain ⟨p0, p1, p2, p3, p4, p5, p6, p7, p8, p9, p10, p11, p12, p13⟩ := f0
   have hlo : (0 : Int) <= (j : Int) := by omega
   have hhi : (j : Int) < (n : Int) := by omega
   clear hx hkl
   go_upto_region 7 with (fail)
   obtain ⟨W, hW, fx, hzW, hbA, _⟩ := fact_box wr x
   rw [<- hW] at ⊢
   clear hW
   have hbw := hb.trans (hbA.mono hwsz)
   have hzw := hbw.size
   obtain ⟨t0, t1, t2, t3, t4, t5, t6, t7, t8, t9, t10, t11, t12, t13⟩ := fx.of0
   clear p0 p1 p2 p3 p4 p5 p6 p7 p8 p9 p10 p11 p12 p13 hb
   go_wp2_with fail
   refine (cur_any HVX.out.1 _).mono ?_
   rintro e w5 ⟨rfl, hb1⟩
   have fx1 := fx.to hb1 (by omega)
   have hbw1 := hbw.trans (hb1.mono hzw)
   clear t0 t1 t2 t3 t4 t5 t6 t7 t8 t9 t10 t11 t12 t13 fx hb1 hbw
   obtain ⟨t0, t1, t2, t3, t4, t5, t6, t7, t8, t9, t10, t11, t12, t13⟩ := fx1.of0
   rw [HVX.out.2.1]
   rw [HVX.out.2.2] at t5
   go_wp2_with fail
   go_roundw
   case rel => exact ⟨j + 1, by omega, by go_num, rfl, hbw1⟩
   case measure => simp [intOf]; omega
  ·have hq6 := HB.out _ hb
   go_wp2_with fail
   go_ret2
   exact ⟨rfl, hb3.trans (hb.mono hz3)⟩
end
section
theorem tat_good {A : Option Addr} {n c : Nat} {X : List Rv} {d : Int} {w : World} (hd : isD d = true) (hX : Rus w w.heap.size A n X) (hn : n <= 1000000) (hml : ∀ x ∈ X, x.r.m.length <= 17592186044416) :
  Calls Tryz.prog 33 #[.slice A n c, .int .i64 d] w (RetAt w (atT (X.map Rv.r) d)) := by
 refine (callsIn_wide (n := 7)).1 (tat_in Fence.wide 7 (fun _ => trivial) rfl (by omega) A n c X d hn hml w hX hd (fun m W => callsIn_wide.2 ?_) fun m W a k c2 B l h hk => callsIn_wide.2 (clone_rd h hk))
 refine (tvalid_any d W).mono ?_
 rintro e w' ⟨rfl, rfl⟩
 exact ⟨by rw [hd], rfl⟩
theorem tat_bad {A : Option Addr} {n c : Nat} {d : Int} {w : World} (hd : isD d = false) :
  Calls Tryz.prog 33 #[.slice A n c, .int .i64 d] w (RetAt w none) := by
 go_enter Tryz.func33, Tryz.ntmps33
 go_wp2_with fail
 refine (tvalid_any d _).mono ?_
 rintro e w' ⟨rfl, rfl⟩
 rw [hd]
 go_wp2_with fail
 have hb : Below w.heap.size w (((w.alloc (.cells #[.int .i64 d] 3)).alloc (.cells #[.int .i64 0, .int .i64 0, .int .i64 0, .int .i64 0, .slice none 0 0] 56)).alloc (.cells #[.bool false] 4)) := (((Below.refl _ w).alloc (Nat.le_refl _) _).alloc (by simp) _).alloc (by simp <;> omega) _
 have hr0 : (((w.alloc (.cells #[.int .i64 d] 3)).alloc (.cells #[.int .i64 0, .int .i64 0, .int .i64 0, .int .i64 0, .slice none 0 0] 56)).alloc (.cells #[.bool false] 4)).heap[w.heap.size + 1]? = some (.cells #[.int .i64 0, .int .i64 0, .int .i64 0, .int .i64 0, .slice none 0 0] 56 (0, 0)) := by
  refine (Below.heap_alloc _ _ _ (by simp)).trans ?_
  have := World.alloc_heap_new (w.alloc (.cells #[.int .i64 d] 3)) (.cells #[.int .i64 0, .int .i64 0, .int .i64 0, .int .i64 0, .slice none 0 0] 56)
  rwa [World.size_alloc] at this
 have hq0 : (((w.alloc (.cells #[.int .i64 d] 3)).alloc (.cells #[.int .i64 0, .int .i64 0, .int .i64 0, .int .i64 0, .slice none 0 0] 56)).alloc (.cells #[.bool false] 4)).heap[w.heap.size + 1 + 1]? = some (.cells #[.bool false] 4 (0, 0)) := by
  have := World.alloc_heap_new ((w.alloc (.cells #[.int .i64 d] 3)).alloc (.cells #[.int .i64 0, .int .i64 0, .int .i64 0, .int .i64 0, .slice none 0 0] 56)) (.cells #[.bool false] 4)
  rwa [World.size_alloc, World.size_alloc] at this
 obtain ⟨V, hV⟩ : ∃ V, V = (((w.alloc (.cells #[.int .i64 d] 3)).alloc (.cells #[.int .i64 0, .int .i64 0, .int .i64 0, .int .i64 0, .slice none 0 0] 56)).alloc (.cells #[.bool false] 4)) := ⟨_, rfl⟩
 rw [<- hV] at hb hr0 hq0 ⊢
 have f0 : V.cell? ⟨w.heap.size + 1, 0, none⟩ = some (.int .i64 0) := by rw [cell_of_row V _ 0 _ _ _ hr0]; rfl
 have f1 : V.cell? ⟨w.heap.size + 1, 1, none⟩ = some (.int .i64 0) := by rw [cell_of_row V _ 1 _ _ _ hr0]; rfl
 have f2 : V.cell? ⟨w.heap.size + 1, 2, none⟩ = some (.int .i64 0) := by rw [cell_of_row V _ 2 _ _ _ hr0]; rfl
 have f3 : V.cell? ⟨w.heap.size + 1, 3, none⟩ = some (.int .i64 0) := by rw [cell_of_row V _ 3 _ _ _ hr0]; rfl
 have f4 : V.cell? ⟨w.heap.size + 1, 4, none⟩ = some (.slice none 0 0) := by rw [cell_of_row V _ 4 _ _ _ hr0]; rfl
 have g0 : V.cell? ⟨w.heap.size + 1 + 1, 0, none⟩ = some (.bool false) := by rw [cell_of_row V _ 0 _ _ _ hq0]; rfl
 exact bodyPost_ret (v := .tuple #[(⟨⟨0, 0, 0, 0, []⟩, none, 0⟩ : Rv).agg, .bool false]) (by simp [results, Tryz.f33, go_sem, f0, f1, f2, f3, f4, g0, Rv.agg]) rfl ⟨hb, rfl⟩
theorem tat_any {A : Option Addr} {n c : Nat} {X : List Rv} (d : Int) {w : World} (hX : Rus w w.heap.size A n X) (hn : n <= 1000000) (hml : ∀ x ∈ X, x.r.m.length <= 17592186044416) :
  Calls Tryz.prog 33 #[.slice A n c, .int .i64 d] w (RetAt w (atT (X.map Rv.r) d)) := by
 cases hd : isD d with
 | true => exact tat_good hd hX hn hml
 | false => rw [atT_day hd]; exact tat_bad hd
end
section
theorem has_int {A : Option Addr} {n c : Nat} {K : List Int} {w : World} (s : Int) (h : Rd w w.heap.size 1 A n (ints K)) (h0 : 0 < n) (hn : n <= 1000) :
  Calls Tryz.prog 79 #[.slice A n c, .int .i64 s] w fun e w' => e = .returned (.bool (decide (s ∈ K))) /\ w' = w := by
 have hl := h.len1
 obtain ⟨b, o, rfl, hb, hc⟩ := h.2 h0
 refine (Tryz.slices_Contains_int b o n c K s w (by omega) (by omega) fun j hj => ?_).mono ?_
 ·obtain ⟨x, hx⟩ : ∃ x, K[j]? = some x := ⟨_, List.getElem?_eq_getElem hj⟩
  have := hc j (.int .i64 x) (by rw [ints_at, hx]; rfl)
  rw [this, List.getD_eq_getElem?_getD, hx]
  rfl
 ·rintro e w' ⟨rfl, rfl⟩
  rw [List.take_of_length_le (by omega)]
  exact ⟨by rw [List.contains_eq_mem], rfl⟩
theorem covers_any (f t d : Int) (w : World) : Calls Tryz.prog 228 #[.agg #[.int .i64 f, .int .i64 t], .int .i64 d] w fun e w' => e = .returned (.bool (decide (f <= d) && decide (d < t))) /\ Below w.heap.size w w' := by
 obtain ⟨W, hW, b, r⟩ := box_new w (.cells #[.int .i64 f, .int .i64 t] 32)
 have s0 : W.cell? ⟨w.heap.size, 0, none⟩ = some (.int .i64 f) := by rw [cell_of_row _ _ _ _ _ _ r]; rfl
 have s1 : W.cell? ⟨w.heap.size, 1, none⟩ = some (.int .i64 t) := by rw [cell_of_row _ _ _ _ _ _ r]; rfl
 obtain ⟨q1, h1⟩ : ∃ q, decide (f <= d) = q := ⟨_, rfl⟩
 obtain ⟨q2, h2⟩ : ∃ q, decide (d < t) = q := ⟨_, rfl⟩
 rw [h1, h2]
 go_enter Tryz.func228, Tryz.ntmps228
 go_upto_region 1 with (fail)
 clear hW
 cases q1 <;> cases q2 <;> (go_wp2_with fail; go_ret; exact ⟨rfl, b⟩)
def onF (K : List Int) (d : Int) (x : Fc) : Bool := decide (x.k ∈ K) && cvF d x
theorem onF_take {K : List Int} {d : Int} {L : List Fc} {k : Nat} {x : Fc} (hx : L[k]? = some x) : (L.take (k + 1)).filter (onF K d) = (L.take k).filter (onF K d) ++ if onF K d x then [x] else [] := by
 rw [List.take_add_one, hx, List.filter_append]
 show _ ++ List.filter (onF K d) [x] = _
 cases h : onF K d x <;> simp [h]
theorem on_len (p : Fc -> Bool) (L : List Fc) (k : Nat) : ((L.take k).filter p).length <= k := Nat.le_trans (List.length_filter_le _ _) (by rw [List.length_take]; omega)
abbrev lifBox (A : Option Addr) (n c : Nat) (R : Option Addr) (m d : Nat) : Obj := .cells #[.slice A n c, .int .i64 0, .int .i64 73049, .slice none 0 0, .slice R m d] 300
def lifV (A : Option Addr) (n c : Nat) (R : Option Addr) (m d : Nat) : Value := .agg #[.slice A n c, .int .i64 0, .int .i64 73049, .slice none 0 0, .slice R m d]
theorem lif_new (w : World) (A : Option Addr) (n c : Nat) (R : Option Addr) (m d : Nat) : ∃ W, w.alloc (lifBox A n c R m d) = W /\ Below w.heap.size w W /\ W.heap[w.heap.size]? = some (lifBox A n c R m d) :=
 ⟨_, rfl, (Below.refl _ _).alloc (Nat.le_refl _) _, heap_alloc_new w _⟩
theorem lifbox {W : World} {g : Nat} {A : Option Addr} {n c : Nat} {R : Option Addr} {m d : Nat} (hr : W.heap[g]? = some (lifBox A n c R m d)) :
  W.cell? ⟨g, 0, none⟩ = some (.slice A n c) /\ W.cell? ⟨g, 1, none⟩ = some (.int .i64 0) /\ W.cell? ⟨g, 2, none⟩ = some (.int .i64 73049) /\ W.cell? ⟨g, 3, none⟩ = some (.slice none 0 0) /\ W.cell? ⟨g, 4, none⟩ = some (.slice R m d) := by
 refine ⟨?_, ?_, ?_, ?_, ?_⟩ <;> rw [cell_of_row _ _ _ _ _ _ hr] <;> rfl
theorem on_any {A RA KA : Option Addr} {n c rn rc kn kc : Nat} {L : List Fc} {K : List Int} {w : World} (d : Int) (hL : Rd w w.heap.size 14 A n (flat Fc.cells L)) (hl : L.length = n) (hn : n <= 900) (hK : Rd w w.heap.size 1 KA kn (ints K)) (hk0 : 0 < kn) (hkn : kn <= 1000) :
  Calls Tryz.prog 286 #[lifV A n c RA rn rc, .int .i64 d, .slice KA kn kc] w (RetFs w (L.filter (onF K d))) := by
 obtain ⟨i0, hi0, hz0, hz1, hz2⟩ := info_parts info_fact
 obtain ⟨V, hV, bV, rV⟩ := lif_new w A n c RA rn rc
 have HL := Lib.hid hl
 have hzV := bV.size
 have hLV := hL.below bV
 have hKV := hK.below bV
 obtain ⟨z0, _, _, _, _⟩ := lifbox rV
 clear hl
 unfold lifV
 dsimp only [lifBox] at hV
 go_enter Tryz.func286, Tryz.ntmps286
 go_upto_region 1 with (fail)
 clear hV rV
 go_wp2_with fail
 go_loopw [7, 13] (fun v i wr => ∃ (k m c1 : Nat) (A1 : Option Addr), k <= n /\ i = .int .i64 (k : Int) /\ v = .slice A1 m c1 /\ ((L.take k).filter (onF K d)).length = m /\ wr.ownsRow w.heap.size 34 14 (.slice A1 m c1) m (flat Fc.cells ((L.take k).filter (onF K d))) /\ Below w.heap.size w wr) (fun _ i _ => n - (intOf i).toNat)
 case atStart => exact ⟨0, 0, 0, none, by omega, rfl, rfl, rfl, World.ownsRow_nil _ _ _ _, bV⟩
 case round =>
  obtain ⟨k, m, c1, A1, hk, rfl, rfl, hm, hown, hb⟩ := hrel
  have hwsz := hb.size
  have hml : m <= k := by rw [<- hm]; exact on_len _ _ _
  obtain ⟨_, _, e0, hnc1, hcm1, _⟩ := own_form hown
  injection e0 with ea _ e1
  subst ea e1
  have HM := Lib.hid hm
  have HCM := Lib.hid hcm1
  clear hm hcm1
  by_cases hlt : k < n
  ·have hkl : k < L.length := by rw [HL.out]; exact hlt
   obtain ⟨x, hx⟩ : ∃ x, L[k]? = some x := ⟨_, List.getElem?_eq_getElem hkl⟩
   have HST := Lib.hid (onF_take (K := K) (d := d) hx)
   obtain ⟨_, g, o2, rfl, hgb, f0⟩ := fc_cells (hL.below hb) hx
   obtain ⟨p0, p1, p2, p3, p4, p5, p6, p7, p8, p9, p10, p11, p12, p13⟩ := f0
   have hlo : (0 : Int) <= (k : Int) := by omega
   have hhi : (k : Int) < (n : Int) := by omega
   clear hx hkl
   obtain ⟨O, hO⟩ : ∃ O, O = (L.take k).filter (onF K d) := ⟨_, rfl⟩
   rw [<- hO] at hown HM HST
   clear hO
   obtain ⟨q, hq⟩ : ∃ q, decide (x.k ∈ K) = q := ⟨_, rfl⟩
   obtain ⟨p, hp⟩ : ∃ p, (decide (x.f <= d) && decide (d < x.t)) = p := ⟨_, rfl⟩
   have HQP : Hid (onF K d x = (q && p)) := Lib.hid (by show (decide (x.k ∈ K) && (decide (x.f <= d) && decide (d < x.t))) = _; rw [hq, hp])
   have hcv := covers_any x.f x.t d
   rw [hp] at hcv
   have HCV := Lib.hid hcv
   have hint := fun (u : World) (hu : Rd u u.heap.size 1 KA kn (ints K)) => has_int (c := kc) x.k hu hk0 hkn
   rw [hq] at hint
   have HINT := Lib.hid hint
   clear hq hp hcv hint
   go_upto_region 5 with (fail)
   obtain ⟨W, hW, fx, hzW, hbA, _⟩ := fact_box wr x
   have hownA := own_underF hown hbA
   rw [<- hW] at ⊢
   clear hW
   have hbw := hb.trans (hbA.mono hwsz)
   have hzw := hbw.size
   obtain ⟨t0, t1, t2, t3, t4, t5, t6, t7, t8, t9, t10, t11, t12, t13⟩ := fx.of0
   clear p0 p1 p2 p3 p4 p5 p6 p7 p8 p9 p10 p11 p12 p13 hown hb
   go_wp2_with fail
   refine (HINT.out _ ((hK.below hbw).mono hzw)).mono ?_
   rintro e w1 ⟨rfl, rfl⟩
   cases q with
   | false =>
    have HS2 : Hid ((L.take (k + 1)).filter (onF K d) = O) := Lib.hid (by rw [HST.out, HQP.out]; simp)
    clear HST HQP
    go_wp2_with fail
    go_roundw
    case rel => exact ⟨k + 1, m, c1, A1, by omega, by go_num, rfl, by rw [HS2.out, HM.out], by rw [HS2.out]; exact hownA, hbw⟩
    case measure => simp [intOf]; omega
   | true =>
    go_wp2_with fail
    refine (HCV.out _).mono ?_
    rintro e w2 ⟨rfl, hb1⟩
    have fx1 := fx.to hb1 (by omega)
    have hown1 := own_underF hownA hb1
    have hbw1 := hbw.trans (hb1.mono hzw)
    have hy1 := hbw1.size
    have hy2 := hb1.size
    clear t0 t1 t2 t3 t4 t5 t6 t7 t8 t9 t10 t11 t12 t13 fx hownA hb1 hbw
    obtain ⟨t0, t1, t2, t3, t4, t5, t6, t7, t8, t9, t10, t11, t12, t13⟩ := fx1.of0
    cases p with
    | false =>
     have HS2 : Hid ((L.take (k + 1)).filter (onF K d) = O) := Lib.hid (by rw [HST.out, HQP.out]; simp)
     clear HST HQP
     go_wp2_with fail
     go_roundw
     case rel => exact ⟨k + 1, m, c1, A1, by omega, by go_num, rfl, by rw [HS2.out, HM.out], by rw [HS2.out]; exact hown1, hbw1⟩
     case measure => simp [intOf]; omega
    | true =>
     have HS2 : Hid ((L.take (k + 1)).filter (onF K d) = O ++ [x]) := Lib.hid (by rw [HST.out, HQP.out]; rfl)
     clear HST HQP
     go_wp2_with (at_builtin; go_loud (refine wpList_append_rd (by rfl) (.tmp 27) (.tmp 29) 36 (by rfl) w.heap.size 34 i0 _ 14 112 Tryz.underlying36 hi0 hz0 hz1 hz2 rfl (by omega) (.slice A1 m c1) m (flat Fc.cells O) (by rfl) (hown1.alloc _) (w2.heap.size + 1) (some ⟨w2.heap.size, 0, none⟩) 1 1 x.cells (by rfl) (Rd.built (cs := x.cells.toArray) (heap_alloc_new w2 _) (by omega) rfl) (by intro u hu; simp only [Fc.cells, List.mem_cons, List.not_mem_nil, or_false] at hu; rcases hu with rfl | rfl | rfl | rfl | rfl | rfl | rfl | rfl | rfl | rfl | rfl | rfl | rfl | rfl <;> rfl) (by unfold maxLen; omega) (by omega) (by simp; omega) ?_); intro v4 w4 hown4 hg4 hat4)
     have hb4 := (hbw1.alloc hy1 (.cells x.cells.toArray 34)).grown hg4 (by simp; omega) (fun g e => (hown1.lt g e).1)
     obtain ⟨A4, c4, rfl, _, _, _⟩ := own_form hown4
     go_roundw
     case rel => exact ⟨k + 1, m + 1, c4, A4, by omega, by go_num, rfl, by rw [HS2.out, List.length_append, HM.out]; rfl, by rw [HS2.out, flat_append, flat_one]; exact hown4, hb4⟩
     case measure => simp [intOf]; omega
  ·have hkN : L.take k = L := List.take_of_length_le (by have := HL.out; omega)
   rw [hkN] at hown HM
   go_wp2_with fail
   go_ret
   exact ⟨A1, m, c1, rfl, HM.out, hown, hb⟩
end
section
theorem len64_0 (w : World) : Calls Tryz.prog 255 #[.int .u64 0] w fun e w' => e = .returned (.int .i64 0) /\ w' = w := by
 go_enter Tryz.func255, Tryz.ntmps255
 go_wp2_with fail
 go_ret
 exact ⟨by kernel_rfl, rfl⟩
theorem blen_0 (w : World) : Calls Tryz.prog 194 #[.int .u64 0] w fun e w' => e = .returned (.int .i64 0) /\ w' = w := by
 go_enter Tryz.func194, Tryz.ntmps194
 go_wp2_with fail
 refine (len64_0 _).mono ?_
 rintro e w' ⟨rfl, rfl⟩
 go_wp2_with fail
 go_ret
 exact ⟨rfl, rfl⟩
theorem insc_0 (w : World) : Calls Tryz.prog 364 #[.slice none 0 0, .int .i64 0, .int .i64 0, .func (.func 283) #[] #[]] w fun e w' => e = .returned (.tuple #[]) /\ w' = w := by
 go_enter Tryz.func364, Tryz.ntmps364
 go_wp2_with fail
 refine wp_loop_rounds 1 ?_
 rw [rounds_succ]
 go_wp2_with fail
 go_end0
 exact ⟨rfl, rfl⟩
theorem pdqc_0 (w : World) : Calls Tryz.prog 337 #[.slice none 0 0, .int .i64 0, .int .i64 0, .int .i64 0, .func (.func 283) #[] #[]] w fun e w' => e = .returned (.tuple #[]) /\ w' = w := by
 go_enter Tryz.func337, Tryz.ntmps337
 go_wp2_with fail
 refine wp_loop_rounds 1 ?_
 rw [rounds_succ]
 go_wp2_with fail
 refine (insc_0 _).mono ?_
 rintro e w' ⟨rfl, rfl⟩
 go_wp2_with fail
 refine bodyPost_ret (results_none rfl _ _ _) rfl ?_
 exact ⟨rfl, rfl⟩
theorem sortc_0 (w : World) : Calls Tryz.prog 282 #[.slice none 0 0, .func (.func 283) #[] #[]] w fun e w' => e = .returned (.tuple #[]) /\ w' = w := by
 go_enter Tryz.func282, Tryz.ntmps282
 go_wp2_with fail
 refine (blen_0 _).mono ?_
 rintro e w' ⟨rfl, rfl⟩
 go_wp2_with fail
 refine (pdqc_0 _).mono ?_
 rintro e w' ⟨rfl, rfl⟩
 go_wp2_with fail
 go_end0
 exact ⟨rfl, rfl⟩
theorem run_range_none {P : Program} {w : World} {b : Nat} {t kt et : TypeId} (ht : P.underlying t = some (.map kt et)) (hb : w.heap[b]? = some (.map #[] 0)) : (Instr.range t (.map (some b))).run P w = .ok (.pointer (some ⟨w.heap.size, 0, none⟩)) (w.alloc (.mapIter (some b) 0 #[] 0)) := by
 simp [Instr.range, run_underlying ht, getObj, Sem.run, hb]
theorem run_next_none {P : Program} {w : World} {r b : Nat} (hr : w.heap[r]? = some (.mapIter (some b) 0 #[] 0)) (hb : w.heap[b]? = some (.map #[] 0)) (ty : TypeId) : (Instr.next (.pointer (some ⟨r, 0, none⟩)) false ty).run P w = .ok (.tuple #[.bool false]) w := by
 rcases run_next_at (P := P) w ty r b 0 0 #[] #[] 0 hr hb (by simp) (Nat.le_refl 0) with ⟨_, h1⟩ | ⟨e, he, _⟩
 ·exact h1
 ·simp [leftOf] at he
theorem postings_no {A : Option Addr} {n c : Nat} {L : List Fc} {w : World} (hL : Rd w w.heap.size 14 A n (flat Fc.cells L)) (hl : L.length = n) (hv : WkL L) (hn : n <= 900) :
  Calls Tryz.prog 227 #[.slice A n c] w fun e w' => e = .returned (.slice none 0 0) /\ Below w.heap.size w w' := by
 have hmm := @run_makeMap Tryz.prog
 obtain ⟨V, hV, bV, rV⟩ := box_new w (.map #[] 0)
 have lV := (gis rV).1
 have hLV : Rd V V.heap.size 14 A n (flat Fc.cells L) := (hL.below bV).mono bV.size
 have hcur := current_any (c := c) hLV hl hv hn
 have HL := Lib.hid hl
 have HV := Lib.hid hv
 clear hl hv
 go_enter Tryz.func227, Tryz.ntmps227
 go_upto_region 2 with (fail)
 clear hV hmm
 go_wp2_with fail
 refine hcur.mono ?_
 rintro e w1 hret
 clear hcur
 obtain ⟨A4, n4, c4, hl4, rfl, h41, h42, hown4, hb4⟩ := hret.open
 have hn4 : n4 <= 900 := by rw [<- hl4.out, HL.out]; exact hn
 have hL1 : Rd w1 w1.heap.size 14 A4 n4 (flat Fc.cells L) := Rd.ofOwn hown4
 have hb1 := bV.trans (hb4.mono bV.size)
 have hz1 := hb1.size
 have r1 := (hb4.block _ lV).trans rV
 have l1 := (gis r1).1
 clear hown4 hb4 h42
 generalize hQ : w.heap.size = Q at *
 have HQ := Lib.hid hQ
 clear hQ
 go_wp2_with fail
 go_loopw [16] (fun i wr => ∃ (j : Nat), j <= n4 /\ i = .int .i64 (j : Int) /\ Below w1.heap.size w1 wr) (fun i _ => n4 - (intOf i).toNat)
 case atStart => exact ⟨0, by omega, rfl, Below.refl _ _⟩
 case round =>
  obtain ⟨j, hk, rfl, hb⟩ := hrel
  have hwsz := hb.size
  by_cases hlt : j < n4
  ·have hkl : j < L.length := by rw [hl4.out]; exact hlt
   obtain ⟨x, hx⟩ : ∃ x, L[j]? = some x := ⟨_, List.getElem?_eq_getElem hkl⟩
   have HVX := Lib.hid (fc_kind HV.out hx)
   obtain ⟨_, g, o2, rfl, hgb, f0⟩ := fc_cells (hL1.below hb) hx
   obtain ⟨p0, p1, p2, p3, p4, p5, p6, p7, p8, p9, p10, p11, p12, p13⟩ := f0
   have hlo : (0 : Int) <= (j : Int) := by omega
   have hhi : (j : Int) < (n4 : Int) := by omega
   clear hx hkl
   go_upto_region 5 with (fail)
   obtain ⟨W, hW, fx, hzW, hbA, _⟩ := fact_box wr x
   rw [<- hW] at ⊢
   clear hW
   have hbw := hb.trans (hbA.mono hwsz)
   obtain ⟨t0, t1, t2, t3, t4, t5, t6, t7, t8, t9, t10, t11, t12, t13⟩ := fx.of0
   clear p0 p1 p2 p3 p4 p5 p6 p7 p8 p9 p10 p11 p12 p13 hb
   rw [HVX.out.2.2] at t5
   go_wp2_with fail
   go_roundw
   case rel => exact ⟨j + 1, by omega, by go_num, hbw⟩
   case measure => simp [intOf]; omega
  ·have rb := (hb.block _ l1).trans r1
   have hrange := run_range_none (P := Tryz.prog) (t := 399) Tryz.underlying399 rb
   have lb := (gis rb).1
   obtain ⟨U, hU, bU, rU⟩ := box_new wr (.mapIter (some Q) 0 #[] 0)
   rw [hU] at hrange
   have hnext := run_next_none (P := Tryz.prog) rU ((bU.block _ lb).trans rb)
   have hfin := hb1.trans ((hb.trans (bU.mono hwsz)).mono hz1)
   clear hU rb lb
   go_wp2_with fail
   refine wp_loop_rounds 1 ?_
   rw [rounds_succ]
   go_wp2_with fail
   refine (sortc_0 _).mono ?_
   rintro e w3 ⟨rfl, rfl⟩
   go_wp2_with fail
   go_ret
   exact ⟨rfl, by rw [HQ.out]; exact hfin⟩
end
section
theorem on_none {L : List Fc} (h : WkL L) {K : List Int} (hK : (1 : Int) ∉ K) (d : Int) : L.filter (onF K d) = [] :=
 List.filter_eq_nil_iff.2 fun x hx hp => by
  have hk := (h x hx).2.2
  have : decide (x.k ∈ K) = true := by
   unfold onF at hp
   simp at hp
   simpa using hp.1
  rw [hk] at this
  exact hK (of_decide_eq_true this)
theorem on_works {L : List Fc} (h : WkL L) (d : Int) : L.filter (onF [1, 2] d) = L.filter (cvF d) := by
 refine List.filter_congr fun x hx => ?_
 unfold onF
 rw [(h x hx).2.2]
 simp
theorem rd_int1 (w : World) (a : Int) : Rd (w.alloc (.cells #[.int .i64 a] 3)) (w.heap.size + 1) 1 (some ⟨w.heap.size, 0, none⟩) 1 (ints [a]) :=
 Rd.built (cs := #[.int .i64 a]) (heap_alloc_new w _) (by omega) rfl
theorem rd_int2 (w : World) (a b : Int) : Rd (w.alloc (.cells #[.int .i64 a, .int .i64 b] 3)) (w.heap.size + 1) 1 (some ⟨w.heap.size, 0, none⟩) 2 (ints [a, b]) :=
 Rd.built (cs := #[.int .i64 a, .int .i64 b]) (heap_alloc_new w _) (by omega) rfl
theorem posting_no {A RA : Option Addr} {n c rn rc : Nat} (d p : Int) (w : World) :
  Calls Tryz.prog 229 #[lifV A n c RA rn rc, .int .i64 d, .int .i64 p] w fun e w' => e = .returned (.tuple #[.int .i64 0, .bool false]) /\ Below w.heap.size w w' := by
 obtain ⟨V, hV, bV, rV⟩ := lif_new w A n c RA rn rc
 obtain ⟨z0, z1, z2, z3, z4⟩ := lifbox rV
 unfold lifV
 dsimp only [lifBox] at hV
 go_enter Tryz.func229, Tryz.ntmps229
 go_upto_region 1 with (fail)
 clear hV rV
 go_wp2_with fail
 refine wp_loop_rounds 1 ?_
 rw [rounds_succ]
 go_wp2_with fail
 go_ret2
 exact ⟨rfl, bV⟩
theorem civil_no {A RA : Option Addr} {n c rn rc : Nat} {L : List Fc} (d : Int) {w : World} (hL : Rd w w.heap.size 14 A n (flat Fc.cells L)) (hl : L.length = n) (hv : WkL L) (hn : n <= 900) :
  Calls Tryz.prog 230 #[lifV A n c RA rn rc, .int .i64 d] w fun e w' => e = .returned (.tuple #[.int .i64 0, .bool false]) /\ Below w.heap.size w w' := by
 obtain ⟨V, hV, bV, rV⟩ := lif_new w A n c RA rn rc
 have lV := (gis rV).1
 have HL := Lib.hid hl
 have HV := Lib.hid hv
 clear hl hv
 unfold lifV
 dsimp only [lifBox] at hV
 go_enter Tryz.func230, Tryz.ntmps230
 go_upto_region 1 with (fail)
 clear hV
 go_upto_region 2 with (fail)
 obtain ⟨W, hW, bW, rW⟩ := box_new V (.cells #[.int .i64 0, .int .i64 0, .int .i64 0, .bool false, .int .i64 0, .int .i64 0, .int .i64 0, .int .i64 0, .int .i64 0, .int .i64 0, .int .i64 0, .int .i64 0, .int .i64 0, .int .i64 0] 34)
 rw [hW]
 clear hW
 have lW := (gis rW).1
 obtain ⟨y0, y1, y2, y3, y4⟩ := lifbox ((bW.block _ lV).trans rV)
 obtain ⟨X, hX, bX⟩ : ∃ X, W.alloc (.cells #[.int .i64 3] 3) = X /\ Below W.heap.size W X := ⟨_, rfl, (Below.refl _ _).alloc (Nat.le_refl _) _⟩
 have hrd := rd_int1 W 3
 have hzX : X.heap.size = W.heap.size + 1 := by rw [<- hX]; simp
 rw [hX, <- hzX] at hrd
 have hbX := bV.trans ((bW.trans (bX.mono bW.size)).mono bV.size)
 have hon := on_any (c := c) (RA := RA) (rn := rn) (rc := rc) (kc := 1) d ((hL.below hbX).mono hbX.size) HL.out hn hrd (by omega) (by omega)
 rw [on_none HV.out (by decide)] at hon
 have hq6 : ∀ u, Below X.heap.size X u -> u.cell? ⟨V.heap.size, 6, none⟩ = some (.int .i64 0) := fun u hu => by
  rw [cell_of_row _ _ _ _ _ _ ((hu.block _ (Nat.lt_of_lt_of_le lW bX.size)).trans ((bX.block _ lW).trans rW))]; rfl
 have HQ := Lib.hid hq6
 clear hq6 rW hrd hzX
 unfold lifV at hon
 generalize V.heap.size = Q at *
 go_wp2_with fail
 refine hon.mono ?_
 rintro e w1 hret
 clear hon
 obtain ⟨A4, n4, c4, hl4, rfl, h41, h42, hown4, hb4⟩ := hret.open
 obtain rfl : n4 = 0 := hl4.out.symm
 have c6 := HQ.out _ hb4
 go_wp2_with fail
 refine wp_loop_rounds 1 ?_
 rw [rounds_succ]
 go_wp2_with fail
 go_ret2
 exact ⟨rfl, hbX.trans (hb4.mono hbX.size)⟩
theorem benefit_no {A RA : Option Addr} {n c rn rc : Nat} {L : List Fc} (d : Int) {w : World} (hL : Rd w w.heap.size 14 A n (flat Fc.cells L)) (hl : L.length = n) (hv : WkL L) (hn : n <= 900) :
  Calls Tryz.prog 232 #[lifV A n c RA rn rc, .int .i64 d] w fun e w' => e = .returned (.tuple #[.int .i64 0, .bool false]) /\ Below w.heap.size w w' := by
 obtain ⟨V, hV, bV, rV⟩ := lif_new w A n c RA rn rc
 obtain ⟨z0, z1, z2, z3, z4⟩ := lifbox rV
 obtain ⟨X, hX, bX⟩ : ∃ X, V.alloc (.cells #[.int .i64 7, .int .i64 8] 3) = X /\ Below V.heap.size V X := ⟨_, rfl, (Below.refl _ _).alloc (Nat.le_refl _) _⟩
 have hrd := rd_int2 V 7 8
 have hzX : X.heap.size = V.heap.size + 1 := by rw [<- hX]; simp
 rw [hX, <- hzX] at hrd
 have hbX := bV.trans (bX.mono bV.size)
 have hon := on_any (c := c) (RA := RA) (rn := rn) (rc := rc) (kc := 2) d ((hL.below hbX).mono hbX.size) hl hn hrd (by omega) (by omega)
 rw [on_none hv (by decide)] at hon
 clear hrd hl hv
 unfold lifV at hon ⊢
 dsimp only [lifBox] at hV
 go_enter Tryz.func232, Tryz.ntmps232
 go_upto_region 1 with (fail)
 clear hV rV
 go_wp2_with fail
 refine hon.mono ?_
 rintro e w1 hret
 clear hon
 obtain ⟨A4, n4, c4, hl4, rfl, h41, h42, hown4, hb4⟩ := hret.open
 obtain rfl : n4 = 0 := hl4.out.symm
 go_wp2_with fail
 go_ret2
 exact ⟨rfl, hbX.trans (hb4.mono hbX.size)⟩
end
end Go.Proofs.YtnlopdmhdiegnaaGreatDoor
