/- Resolve of the program. -/
import Derived.Test.YtkncfhdfobcjeaaOvF
namespace Go.Proofs.Ytkncfhdfobcjeaa
open Go.RowKit

theorem two_addP : ∀ (O : List Pc) (a b : Int) (m : List Int), (∀ p ∈ O, Two p) → (m = [] ∨ ∃ s r, m = [s, r]) → ∀ p ∈ addP O a b m, Two p
  | [], a, b, m, _, hm, p, hp => by
    unfold addP at hp
    split at hp
    · simp at hp
    · rename_i h
      simp at hp
      subst hp
      exact hm.resolve_left h
  | [q], a, b, m, hO, hm, p, hp => by
    unfold addP at hp
    split at hp
    · exact hO p hp
    · rename_i h
      split at hp
      · simp at hp
        subst hp
        exact hm.resolve_left h
      · simp at hp
        rcases hp with rfl | rfl
        · exact hO p (by simp)
        · exact hm.resolve_left h
  | q :: q' :: r, a, b, m, hO, hm, p, hp => by
    rcases List.mem_cons.1 (show p ∈ q :: addP (q' :: r) a b m from hp) with rfl | hp
    · exact hO p (by simp)
    · exact two_addP (q' :: r) a b m (fun y hy => hO y (by simp [hy])) hm p hp
theorem two_resA {C : List Pr} {O : List Pc} {a b : Int} (h : ∀ p ∈ O, Two p) : ∀ p ∈ resA C O a b, Two p := by
  unfold resA
  split
  · exact two_addP O a b _ h ((memC_two C a).imp id fun ⟨s, r, _, e⟩ => ⟨s, r, e⟩)
  · exact h
theorem resA_length (C : List Pr) (O : List Pc) (a b : Int) : (resA C O a b).length ≤ O.length + 1 := by
  unfold resA
  split
  · exact addP_length O a b _
  · omega
theorem piece_bd {ls : List (List Sp)} {p : Pc} (hp : p ∈ pieces ls) : 0 ≤ p.f ∧ p.f < p.t ∧ p.t ≤ 73049 := by
  obtain ⟨h1, h2⟩ := pieces_main ls
  have hne : ∀ {P : List Pc} {lo : Int} {pm : List Int}, PN lo pm P → ∀ p ∈ P, p.m ≠ [] ∧ p.f < p.t := by
    intro P
    induction P with
    | nil => intro _ _ _ p hp; simp at hp
    | cons a r ih =>
      rintro lo pm ⟨_, _, k3, k4, k5⟩ p hp
      rcases List.mem_cons.1 hp with rfl | hp
      · exact ⟨k4, k3⟩
      · exact ih k5 p hp
  obtain ⟨hm, hft⟩ := hne h1 p hp
  have hday : ∀ x, p.f ≤ x → x < p.t → 0 ≤ x ∧ x < 73049 := fun x hx hy => by
    have h3 := valP_mem h1 p hp x hx hy
    rw [h2 x] at h3
    apply Classical.byContradiction
    intro hc
    refine hm ?_
    rw [← h3]
    refine memI_none _ _ _ fun l _ => ?_
    unfold dset
    rw [show isD x = false by rw [Bool.eq_false_iff]; exact fun e => hc ((isD_iff x).1 e)]
    rfl
  have d1 := hday p.f (Int.le_refl _) hft
  have d2 := hday (p.t - 1) (by omega) (by omega)
  omega
theorem nls_ns {w : World} {base : Nat} {vs : List Value} {ls : List (List Sp)} (h : Nls w base 42 vs ls) (hv : vs.length = 42) (hl : ls.length = 42) : Ns w w.heap.size vs (ls.map fun l => nf (dset l)) := by
  refine ⟨by simp [hv, hl], fun i v l h1 h2 => ?_⟩
  have hi : i < 42 := by rw [← hv]; exact (List.getElem?_eq_some_iff.1 h1).1
  rw [List.getElem?_map] at h2
  obtain ⟨q, hq, rfl⟩ := Option.map_eq_some_iff.1 h2
  obtain ⟨A, c, rfl, ho⟩ := h i v q hi h1 hq
  exact ⟨A, c, rfl, Rd.ofOwn ho⟩
theorem ao_own {w : World} {B po : Nat} {O : List Pc} (h : Ao w B po O) {A : Option Addr} {c : Nat} (hp : w.heap[po]? = some (.cells #[.slice A O.length c] 44 (0, 0))) : ∀ g, (Value.slice A O.length c).ownBlock = some g → B ≤ g ∧ g < w.heap.size ∧ ∀ cs t fr, w.heap[g]? = some (.cells cs t fr) → t = 52 := by
  obtain ⟨A', c', h1, h2⟩ := h
  rw [hp] at h1
  injection h1 with h1
  injection h1 with h1 _
  have h3 : Value.slice A O.length c = Value.slice A' O.length c' := by simpa using h1
  rw [h3]
  intro g hg
  refine ⟨(h2.lt g hg).1, (h2.lt g hg).2, fun cs t fr hh => ?_⟩
  apply Classical.byContradiction
  intro hne
  exact own_ne h2 hh (fun e => hne e.symm) hg
theorem Ao.under {w w' : World} {B po : Nat} {O : List Pc} (h : Ao w B po O) (hb : Below w.heap.size w w') : Ao w' B po O := by
  obtain ⟨A, c, h1, h2⟩ := h
  exact ⟨A, c, (hb.block po (Array.getElem?_eq_some_iff.1 h1).1).trans h1, own_under h2 hb⟩
theorem Ao.lt {w : World} {B po : Nat} {O : List Pc} (h : Ao w B po O) : po < w.heap.size := by
  obtain ⟨A, c, h1, h2⟩ := h
  exact (Array.getElem?_eq_some_iff.1 h1).1
theorem resP_at {C : List Pr} {P : List Pc} {k : Nat} {p : Pc} {O : List Pc} (h : P[k]? = some p) : resP C (P.drop k) O = resP C (P.drop (k + 1)) (resA C (resA C O p.f (p.f + 1)) (p.f + 1) p.t) := by
  obtain ⟨hk, e⟩ := List.getElem?_eq_some_iff.1 h
  rw [List.drop_eq_getElem_cons hk, e]
  rfl
/-- The days that count are returned, in memory of the call's own. -/
def RetCt (w : World) (C : List Pr) (e : Ending) (w' : World) : Prop :=
  ∃ A c R, e = .returned (.slice A (List.length R) c) ∧ Res C R ∧ (∀ p ∈ R, Two p) ∧ R.length ≤ 100000 ∧ w'.ownsRow w.heap.size 52 4 (.slice A R.length c) R.length (flat Pc.cc R) ∧ Below w.heap.size w w'

set_option maxRecDepth 100000 in
set_option maxHeartbeats 4000000 in
theorem resolve_any {A : Option Addr} {n c : Nat} {C : List Pr} {w : World} (h : Rd w w.heap.size 4 A n (flat Pr.cells C)) (hn : C.length = n) (hn2 : n ≤ 60) :
    Calls Try.prog 31 #[.slice A n c] w (RetCt w C) := by
  obtain ⟨i0, hi0, hz0, hz1, hz2⟩ := info_parts info_lists
  have HN := Lib.hid hn
  have hCl : C.length ≤ 60 := by omega
  clear hn
  go_enter Try.func31, Try.ntmps31
  go_wp2_with fail
  refine (collect_any h HN.out (by omega)).mono ?_
  rintro e w1 ⟨g, rfl, hg, hbd1, hb1⟩
  go_upto_region 2 with (fail)
  have hpb2 := heap_alloc_new w1 (.cells #[.pointer (some ⟨g, 0, none⟩)] 75)
  have hbA : Below w1.heap.size w1 (w1.alloc (.cells #[.pointer (some ⟨g, 0, none⟩)] 75)) := (Below.refl _ _).alloc (Nat.le_refl _) _
  have hpbl : w1.heap.size < (w1.alloc (.cells #[.pointer (some ⟨g, 0, none⟩)] 75)).heap.size := by simp
  obtain ⟨w2, hW2⟩ : ∃ W, W = w1.alloc (.cells #[.pointer (some ⟨g, 0, none⟩)] 75) := ⟨_, rfl⟩
  rw [← hW2] at hpb2 hbA hpbl ⊢
  clear hW2
  have hbd2 := hbd1.under hbA
  have hb2 := hb1.trans (hbA.mono hb1.size)
  clear hbd1 hbA hb1
  have hz2' := hb2.size
  have hgl := hbd2.lt
  obtain ⟨vs, hgv, hvl, hnl⟩ := hbd2
  have hvone : ∀ u ∈ vs, u.oneCell' = true := fun u hu => by
    obtain ⟨k, hk⟩ := List.mem_iff_getElem?.1 hu
    have hk42 : k < 42 := by rw [← hvl]; exact (List.getElem?_eq_some_iff.1 hk).1
    obtain ⟨l, hl⟩ : ∃ l, (bdO C)[k]? = some l := ⟨_, List.getElem?_eq_getElem (by rw [bdO_len]; exact hk42)⟩
    obtain ⟨A, c, rfl, _⟩ := hnl k u l hk42 hk hl
    rfl
  have HVO := Lib.hid hvone
  have HVL := Lib.hid hvl
  clear hvone hvl
  go_wp2_with fail
  go_loopw [4, 12] (fun v i wr => ∃ a : Nat, a ≤ 6 ∧ i = .int .i64 (a : Int) ∧ wr.ownsRow w2.heap.size 34 1 v (a * 7) (vs.take (a * 7)) ∧ Below w2.heap.size w2 wr) (fun _ i _ => 6 - (intOf i).toNat)
  case atStart => exact ⟨0, by omega, rfl, World.ownsRow_nil _ _ _ _, Below.refl _ _⟩
  case round =>
    obtain ⟨a, ha, rfl, hown, hb⟩ := hrel
    have hwsz := hb.size
    obtain ⟨A1, c1, rfl, hnc1, hcm1, hA1⟩ := own_form hown
    by_cases hlt : a < 6
    · have hlo : (0 : Int) ≤ (a : Int) := by omega
      have hhi : (a : Int) < 6 := by omega
      have hgr := (hb.block g hgl).trans hgv
      have hpr := (hb.block w1.heap.size hpbl).trans hpb2
      have p0 : wr.cell? ⟨w1.heap.size, 0, none⟩ = some (.pointer (some ⟨g, 0, none⟩)) := by rw [cell_of_row wr _ 0 _ _ _ hpr]; rfl
      have hsrc : Rd wr wr.heap.size 1 (some ⟨g, a * 7, none⟩) 7 ((vs.drop (a * 7)).take 7) := by
        refine ⟨by rw [List.length_take, List.length_drop, HVL.out]; omega, fun _ => ⟨g, a * 7, rfl, by omega, fun j u hu => ?_⟩⟩
        rw [cell_of_row wr g (a * 7 + j) _ _ _ hgr]
        rw [List.getElem?_take] at hu
        split at hu
        · rw [List.getElem?_drop] at hu
          simpa using hu
        · cases hu
      have hone7 : ∀ u ∈ (vs.drop (a * 7)).take 7, u.oneCell' = true := fun u hu => HVO.out u (List.mem_of_mem_drop (List.mem_of_mem_take hu))
      have htk : vs.take ((a + 1) * 7) = vs.take (a * 7) ++ (vs.drop (a * 7)).take 7 := by rw [show (a + 1) * 7 = a * 7 + 7 by omega, List.take_add]
      have HTK := Lib.hid htk
      clear htk
      go_wp2_with (at_builtin; go_loud (refine wpList_append_rd (by rfl) (.tmp 15) (.tmp 20) 77 (by rfl) w2.heap.size 34 i0 _ 1 24 Try.underlying77 hi0 hz0 hz1 hz2 rfl (by omega) _ (a * 7) (vs.take (a * 7)) (by rfl) hown wr.heap.size (some ⟨g, a * 7, none⟩) 7 7 ((vs.drop (a * 7)).take 7) (by rfl) hsrc hone7 (by unfold maxLen; omega) (by omega) (by omega) ?_); intro v4 w4 hown4 hg4 hat4)
      have hb4 := hb.grown hg4 hwsz (fun g e => (hown.lt g e).1)
      go_roundw
      case rel => exact ⟨a + 1, by omega, by go_num, by rw [HTK.out, show (a + 1) * 7 = a * 7 + 7 by omega]; exact hown4, hb4⟩
      case measure => simp [intOf]; omega
    · obtain rfl : a = 6 := by omega
      clear ha hlt
      have htk : vs.take (6 * 7) = vs := List.take_of_length_le (by have := HVL.out; omega)
      rw [htk] at hown
      clear htk
      rw [show 6 * 7 = 42 from rfl] at hown ⊢
      have hrdL := Rd.ofOwn hown
      have hnlr : Nls wr w.heap.size 42 vs (bdO C) := fun i v l h1 h2 h3 => by
        obtain ⟨A, c, e, ho⟩ := (hnl.under hb) i v l h1 h2 h3
        exact ⟨A, c, e, ownsRow_base ho (by omega)⟩
      have hbdr : Bd wr w.heap.size g C := ⟨vs, (hb.block g hgl).trans hgv, HVL.out, hnlr⟩
      have hnsL := nls_ns hnlr HVL.out (bdO_len C)
      rw [bdO_bdL] at hnsL
      have hpr := (hb.block w1.heap.size hpbl).trans hpb2
      have hbw := hb2.trans (hb.mono hz2')
      have hzw := hbw.size
      have hlen200 : ∀ l ∈ bdL C, l.length ≤ 200 := fun l hl => by
        rw [← bdO_bdL] at hl
        obtain ⟨q, hq, rfl⟩ := List.mem_map.1 hl
        unfold bdO at hq
        obtain ⟨k, _, rfl⟩ := List.mem_map.1 hq
        have h1 := nf_length_le (l := ofL C ((k / 7 : Nat) : Int) (((k % 7 : Nat) : Int) + 1)) rfl
        have h2 := ofL_length C ((k / 7 : Nat) : Int) (((k % 7 : Nat) : Int) + 1)
        omega
      have HL200 := Lib.hid hlen200
      clear hgv hnl hnlr hpb2 hlen200 hown hb2
      go_upto_region 10 with (fail)
      have hpo4 := heap_alloc_new wr (.cells #[.slice none 0 0] 44)
      have hbA : Below wr.heap.size wr (wr.alloc (.cells #[.slice none 0 0] 44)) := (Below.refl _ _).alloc (Nat.le_refl _) _
      have hpol : wr.heap.size < (wr.alloc (.cells #[.slice none 0 0] 44)).heap.size := by simp
      obtain ⟨w4, hW4⟩ : ∃ W, W = wr.alloc (.cells #[.slice none 0 0] 44) := ⟨_, rfl⟩
      rw [← hW4] at hpo4 hbA hpol ⊢
      clear hW4
      go_wp2_with fail
      refine (pieces_any (ls := bdL C) ((hrdL.below hbA).mono hbA.size) ((hnsL.below hbA).mono hbA.size) HL200.out (by omega)).mono ?_
      rintro e w5 ⟨A5, c5, X, rfl, hX, hpx, hb5⟩
      have hpo5 := (hb5.block wr.heap.size hpol).trans hpo4
      have hb35 : Below wr.heap.size wr w5 := hbA.trans (hb5.mono hbA.size)
      have hXl := congrArg List.length hX
      rw [List.length_map] at hXl
      have hox := hpx.1
      rw [hXl] at hox
      have hnoX := own_ne hox hpo5 (by decide)
      have hP1 := pcs_length (memL (bdL C)) (edgesL (bdL C)) []
      have hP2 := edgesL_length (bdL C) 200 HL200.out
      have hbl : (bdL C).length = 42 := by rw [← bdO_bdL, List.length_map, bdO_len]
      have hPn : (pieces (bdL C)).length ≤ 20000 := by
        unfold pieces
        simp at hP1
        omega
      have hbdP : ∀ p ∈ pieces (bdL C), 0 ≤ p.f ∧ p.f < p.t ∧ p.t ≤ 73049 := fun p hp => piece_bd hp
      have hgx : ∀ (q : Nat) (x : Pw), X[q]? = some x → (pieces (bdL C))[q]? = some x.p := fun q x hx => by rw [← hX, List.getElem?_map, hx]; rfl
      have hres0 := resP_main C
      have HBP := Lib.hid hbdP
      have HGX := Lib.hid hgx
      have HXL := Lib.hid hXl
      have HR0 := Lib.hid hres0
      have hz5 := hb35.size
      have hpo5l : wr.heap.size < w5.heap.size := (Array.getElem?_eq_some_iff.1 hpo5).1
      have hbw5 := hbw.trans (hb35.mono hzw)
      have hpbl3 : w1.heap.size < wr.heap.size := by omega
      clear hP1 hP2 hbl hbdP hgx hX hXl hres0 hpx hbA hb5 hrdL hnsL hpo4 hbw
      generalize hPP : pieces (bdL C) = P at *
      clear hPP
      generalize hNN : P.length = N at *
      have HNP := Lib.hid hNN
      clear hNN
      go_wp2_with fail
      go_loopw [27] (fun i wn => ∃ (k : Nat) (O : List Pc), k ≤ N ∧ i = .int .i64 (k : Int) ∧ Ao wn w5.heap.size wr.heap.size O ∧ (∀ p ∈ O, Two p) ∧ O.length ≤ 2 * k ∧ resP C (P.drop k) O = resP C P [] ∧ Fr (fun k => k < w5.heap.size) wr.heap.size w5 wn ∧ w5.heap.size ≤ wn.heap.size) (fun i _ => N - (intOf i).toNat)
      case atStart => exact ⟨0, [], by omega, rfl, ⟨none, 0, hpo5, World.ownsRow_nil _ _ _ _⟩, by simp, by simp, rfl, Fr.refl _ _ _, Nat.le_refl _⟩
      case round =>
        obtain ⟨wo, rfl⟩ : ∃ wo : World, wo = wr := ⟨_, rfl⟩
        obtain ⟨k, O, hk, rfl, hao, htw, hOl, hres, hfr, h5o⟩ := hrel
        have HTW := Lib.hid htw
        clear htw
        by_cases hlk : k < N
        · have hkx : k < X.length := by rw [HXL.out]; exact hlk
          obtain ⟨x, hx⟩ : ∃ x, X[k]? = some x := ⟨_, List.getElem?_eq_getElem hkx⟩
          have hpk := HGX.out k x hx
          obtain ⟨hf0, hft, ht1⟩ := HBP.out x.p (List.mem_of_getElem? hpk)
          have hoxk := Fr.own hox hfr (fun g e => ⟨(hox.lt g e).2, fun e2 => hnoX (by rw [e, e2])⟩)
          obtain ⟨_, g1, o1, rfl, hg1, x0, x1, x2⟩ := pw_cells (Rd.ofOwn hoxk) hx
          have hwo : Below wr.heap.size wr wo := hb35.trans hfr.1
          have hwoz := hfr.1.size
          rw [resP_at hpk] at hres
          have HRES := Lib.hid hres
          have hpol2 := hao.lt
          have hlo : (0 : Int) ≤ (k : Int) := by omega
          have hhi : (k : Int) < (N : Int) := by omega
          obtain ⟨px, ax, cx⟩ := x
          obtain ⟨f, t, mm⟩ := px
          simp only at hf0 hft ht1 x0 x1 x2
          have HRS : Hid (resP C (P.drop (k + 1)) (resA C (resA C O f (f + 1)) (f + 1) t) = resP C P []) := HRES.out
          clear hres HRES hx hpk hoxk
          go_upto_region 13 with (fail)
          have hrow := heap_alloc_new wo (.cells #[.int .i64 f, .int .i64 t, .slice ax mm.length cx] 86)
          have hbA : Below wo.heap.size wo (wo.alloc (.cells #[.int .i64 f, .int .i64 t, .slice ax mm.length cx] 86)) := (Below.refl _ _).alloc (Nat.le_refl _) _
          have hVz : wo.heap.size < (wo.alloc (.cells #[.int .i64 f, .int .i64 t, .slice ax mm.length cx] 86)).heap.size := by simp
          obtain ⟨V, hV⟩ : ∃ W, W = wo.alloc (.cells #[.int .i64 f, .int .i64 t, .slice ax mm.length cx] 86) := ⟨_, rfl⟩
          rw [← hV] at hrow hbA hVz ⊢
          clear hV x0 x1 x2
          have y0 : V.cell? ⟨wo.heap.size, 0, none⟩ = some (.int .i64 f) := by rw [cell_of_row V _ 0 _ _ _ hrow]; rfl
          have y1 : V.cell? ⟨wo.heap.size, 1, none⟩ = some (.int .i64 t) := by rw [cell_of_row V _ 1 _ _ _ hrow]; rfl
          have haoV := hao.under hbA
          have hwV : Below wr.heap.size wr V := hwo.trans (hbA.mono (by omega))
          have hfrV : Fr (fun k => k < w5.heap.size) wr.heap.size w5 V := hfr.trans (Fr.ofBelow hbA (fun k hk => by omega) hpol2)
          have hown1 : ∀ A c, V.heap[wr.heap.size]? = some (.cells #[.slice A O.length c] 44 (0, 0)) → ∀ k, (k < w5.heap.size ∨ k = wo.heap.size) → (Value.slice A O.length c).ownBlock ≠ some k := fun A c hp k hk e => by
            rw [hbA.block _ hpol2] at hp
            have := ao_own hao hp k e
            omega
          have HO1 := Lib.hid hown1
          have HTW1 := Lib.hid (two_resA (C := C) (a := f) (b := f + 1) HTW.out)
          have hl1 := resA_length C O f (f + 1)
          have hl2 := resA_length C (resA C O f (f + 1)) (f + 1) t
          have hw1 : IntKind.i64.wrap (f + 1) = f + 1 := IntWalk.i64_in _ (by omega)
          clear hown1 hao hfr hbA hwo
          go_wp2_with fail
          refine (add_any (K := fun k => k < w5.heap.size ∨ k = wo.heap.size) f (f + 1) (hbdr.under hwV) ((hwV.block _ hpbl3).trans hpr) haoV (by omega) hpo5l HTW.out (by omega) (by omega) hf0 (by omega) ⟨by omega, by omega⟩ (fun k hk => by omega) (fun k hk A c hp => HO1.out A c hp k hk)).mono ?_
          rintro e w7 ⟨rfl, hao7, hfr7⟩
          have hw7 := hwV.trans hfr7.1
          have hrow7 := (hfr7.2 wo.heap.size (by omega) (.inr rfl)).trans hrow
          have z0 : w7.cell? ⟨wo.heap.size, 0, none⟩ = some (.int .i64 f) := by rw [cell_of_row w7 _ 0 _ _ _ hrow7]; rfl
          have z1 : w7.cell? ⟨wo.heap.size, 1, none⟩ = some (.int .i64 t) := by rw [cell_of_row w7 _ 1 _ _ _ hrow7]; rfl
          have hbx7 : wo.heap.size < w7.heap.size := (Array.getElem?_eq_some_iff.1 hrow7).1
          have hfr57 := hfrV.trans (hfr7.less fun k hk => .inl hk)
          have hown2 : ∀ A c, w7.heap[wr.heap.size]? = some (.cells #[.slice A (resA C O f (f + 1)).length c] 44 (0, 0)) → ∀ k, (k < w5.heap.size ∨ k = wo.heap.size) → (Value.slice A (resA C O f (f + 1)).length c).ownBlock ≠ some k := fun A c hp k hk e => by
            have h0 := ao_own hao7 hp k e
            rcases hk with hk | rfl
            · omega
            · exact absurd (h0.2.2 _ _ _ hrow7) (by decide)
          have HO2 := Lib.hid hown2
          clear hown2 hrow y0 y1 haoV hfrV hfr7 hwV
          go_wp2_with fail
          refine (add_any (K := fun k => k < w5.heap.size ∨ k = wo.heap.size) (f + 1) t (hbdr.under hw7) ((hw7.block _ hpbl3).trans hpr) hao7 (by omega) hpo5l HTW1.out (by omega) (by omega) (by omega) (by omega) ⟨by omega, by omega⟩ (fun k hk => by omega) (fun k hk A c hp => HO2.out A c hp k hk)).mono ?_
          rintro e w8 ⟨rfl, hao8, hfr8⟩
          have hbx8 : wo.heap.size < w8.heap.size := (Array.getElem?_eq_some_iff.1 ((hfr8.2 wo.heap.size (by omega) (.inr rfl)).trans hrow7)).1
          clear hrow7
          have HTW2 := Lib.hid (two_resA (C := C) (a := f + 1) (b := t) HTW1.out)
          go_wp2_with fail
          go_roundw
          case rel => exact ⟨k + 1, _, by omega, by go_num, hao8, HTW2.out, by omega, HRS.out, hfr57.trans (hfr8.less fun k hk => .inl hk), by omega⟩
          case measure => simp [intOf]; omega
        · have hdr : P.drop k = [] := List.drop_eq_nil_of_le (by have := HNP.out; omega)
          rw [hdr] at hres
          have hO : O = resP C P [] := hres
          have hr0 := HR0.out
          rw [← hO] at hr0
          have HRR := Lib.hid hr0
          obtain ⟨Ao', co, hpo, howno⟩ := hao
          have p0 : wo.cell? ⟨wr.heap.size, 0, none⟩ = some (.slice Ao' O.length co) := by rw [cell_of_row wo _ 0 _ _ _ hpo]; rfl
          have hbo := hbw5.trans (hfr.1.mono (by omega))
          clear hres hO hr0 hdr
          go_wp2_with fail
          go_ret
          exact ⟨Ao', co, O, rfl, HRR.out, HTW.out, by omega, ownsRow_base howno (by omega), hbo⟩
end Go.Proofs.Ytkncfhdfobcjeaa
