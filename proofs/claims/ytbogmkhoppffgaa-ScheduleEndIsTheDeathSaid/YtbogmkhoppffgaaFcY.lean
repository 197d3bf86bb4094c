/- The hand's Make: a valid fact out of numbers. -/
import Derived.Test.YtbogmkhoppffgaaFcX
import Derived.Test.YtbogmkhoppffgaaMake
import Derived.Test.YtbogmkhoppffgaaFcF
import Derived.Test.YtbogmkhoppffgaaFcKa
import Derived.Deep.RegionHeld3
import Derived.Deep.RegionLaw
import Derived.Deep.DeepCutAuto
namespace Go.Proofs.Ytbogmkhoppffgaa
open Go.RowKit

def Rf.cells (x : Rf) : List Value := [.int .i64 x.i, .int .i64 x.n, .int .i64 x.v, .bool x.g, .int .i64 x.p, .int .i64 x.k, .int .i64 x.s, .int .i64 x.e, .int .i64 x.f, .int .i64 x.l, .int .i64 x.h, .int .i64 x.a, .int .i64 x.r]
theorem rf_len (x : Rf) : x.cells.length = 13 := rfl
/-- A raw fact lies at a place. -/
def RfAt (w : World) (b o : Nat) (x : Rf) : Prop :=
  w.cell? ⟨b, o, none⟩ = some (.int .i64 x.i) ∧ w.cell? ⟨b, o + 1, none⟩ = some (.int .i64 x.n) ∧ w.cell? ⟨b, o + 2, none⟩ = some (.int .i64 x.v) ∧ w.cell? ⟨b, o + 3, none⟩ = some (.bool x.g) ∧ w.cell? ⟨b, o + 4, none⟩ = some (.int .i64 x.p) ∧
  w.cell? ⟨b, o + 5, none⟩ = some (.int .i64 x.k) ∧ w.cell? ⟨b, o + 6, none⟩ = some (.int .i64 x.s) ∧ w.cell? ⟨b, o + 7, none⟩ = some (.int .i64 x.e) ∧ w.cell? ⟨b, o + 8, none⟩ = some (.int .i64 x.f) ∧ w.cell? ⟨b, o + 9, none⟩ = some (.int .i64 x.l) ∧
  w.cell? ⟨b, o + 10, none⟩ = some (.int .i64 x.h) ∧ w.cell? ⟨b, o + 11, none⟩ = some (.int .i64 x.a) ∧ w.cell? ⟨b, o + 12, none⟩ = some (.int .i64 x.r)
theorem rfAt_of {w : World} {b o : Nat} {x : Rf} (hc : ∀ (i : Nat) (u : Value), x.cells[i]? = some u → w.cell? ⟨b, o + i, none⟩ = some u) : RfAt w b o x :=
  ⟨by simpa using hc 0 _ rfl, hc 1 _ rfl, hc 2 _ rfl, hc 3 _ rfl, hc 4 _ rfl, hc 5 _ rfl, hc 6 _ rfl, hc 7 _ rfl, hc 8 _ rfl, hc 9 _ rfl, hc 10 _ rfl, hc 11 _ rfl, hc 12 _ rfl⟩
theorem rfAt_row {w : World} {g : Nat} {t : TypeId} {fr : Nat × Nat} {x : Rf} (h : w.heap[g]? = some (.cells x.cells.toArray t fr)) : RfAt w g 0 x := by
  refine rfAt_of fun i u hu => ?_
  rw [Nat.zero_add, cell_of_row w g i _ t fr h]
  simpa using hu
theorem RfAt.of0 {w : World} {b : Nat} {x : Rf} (h : RfAt w b 0 x) : w.cell? ⟨b, 0, none⟩ = some (.int .i64 x.i) ∧ w.cell? ⟨b, 1, none⟩ = some (.int .i64 x.n) ∧ w.cell? ⟨b, 2, none⟩ = some (.int .i64 x.v) ∧ w.cell? ⟨b, 3, none⟩ = some (.bool x.g) ∧ w.cell? ⟨b, 4, none⟩ = some (.int .i64 x.p) ∧ w.cell? ⟨b, 5, none⟩ = some (.int .i64 x.k) ∧ w.cell? ⟨b, 6, none⟩ = some (.int .i64 x.s) ∧ w.cell? ⟨b, 7, none⟩ = some (.int .i64 x.e) ∧ w.cell? ⟨b, 8, none⟩ = some (.int .i64 x.f) ∧ w.cell? ⟨b, 9, none⟩ = some (.int .i64 x.l) ∧ w.cell? ⟨b, 10, none⟩ = some (.int .i64 x.h) ∧ w.cell? ⟨b, 11, none⟩ = some (.int .i64 x.a) ∧ w.cell? ⟨b, 12, none⟩ = some (.int .i64 x.r) := by
  simpa only [RfAt, Nat.zero_add] using h
theorem FcAt.of0y {w : World} {b : Nat} {x : Fc} (h : FcAt w b 0 x) : w.cell? ⟨b, 0, none⟩ = some (.int .i64 x.i) ∧ w.cell? ⟨b, 1, none⟩ = some (.int .i64 x.n) ∧ w.cell? ⟨b, 2, none⟩ = some (.int .i64 x.v) ∧ w.cell? ⟨b, 3, none⟩ = some (.bool x.g) ∧ w.cell? ⟨b, 4, none⟩ = some (.int .i64 x.p) ∧ w.cell? ⟨b, 5, none⟩ = some (.int .i64 x.k) ∧ w.cell? ⟨b, 6, none⟩ = some (.int .i64 x.s) ∧ w.cell? ⟨b, 7, none⟩ = some (.int .i64 x.f) ∧ w.cell? ⟨b, 8, none⟩ = some (.int .i64 x.t) ∧ w.cell? ⟨b, 9, none⟩ = some (.int .i64 x.e) ∧ w.cell? ⟨b, 10, none⟩ = some (.int .i64 x.h) ∧ w.cell? ⟨b, 11, none⟩ = some (.int .i64 x.c) ∧ w.cell? ⟨b, 12, none⟩ = some (.int .i64 x.a) ∧ w.cell? ⟨b, 13, none⟩ = some (.int .i64 x.r) := by
  simpa only [FcAt, Nat.zero_add] using h
def f0 : Fc := ⟨0, 0, 0, false, 0, 0, 0, 0, 0, 0, 0, 0, 0, 0⟩
/-- What Make returns: a valid fact. -/
def RetV (w : World) (e : Ending) (w' : World) : Prop := ∃ x : Fc, e = .returned x.agg ∧ Vld x ∧ Below w.heap.size w w'
/-- The three blocks of Make: what it was handed, its result, the fact in the making. -/
structure MkW (w : World) (r : Rf) (y : Fc) (wr : World) : Prop where
  box : wr.heap[w.heap.size]? = some (.cells r.cells.toArray 43 (0, 0))
  res : wr.heap[w.heap.size + 1]? = some (.cells f0.cells.toArray 40 (0, 0))
  fact : wr.heap[w.heap.size + 2]? = some (.cells y.cells.toArray 40 (0, 0))
  bel : Below w.heap.size w wr

theorem mk_boxes (w : World) (r : Rf) : ∃ V, V = (w.alloc (.cells #[.int .i64 r.i, .int .i64 r.n, .int .i64 r.v, .bool r.g, .int .i64 r.p, .int .i64 r.k, .int .i64 r.s, .int .i64 r.e, .int .i64 r.f, .int .i64 r.l, .int .i64 r.h, .int .i64 r.a, .int .i64 r.r] 43)).alloc (.cells #[.int .i64 0, .int .i64 0, .int .i64 0, .bool false, .int .i64 0, .int .i64 0, .int .i64 0, .int .i64 0, .int .i64 0, .int .i64 0, .int .i64 0, .int .i64 0, .int .i64 0, .int .i64 0] 40) ∧ V.heap[w.heap.size]? = some (.cells r.cells.toArray 43 (0, 0)) ∧ V.heap[w.heap.size + 1]? = some (.cells f0.cells.toArray 40 (0, 0)) ∧ V.heap.size = w.heap.size + 2 ∧ Below w.heap.size w V := by
  refine ⟨_, rfl, (Below.heap_alloc _ _ _ (by simp)).trans (heap_alloc_new w _), ?_, by simp, ((Below.refl _ w).alloc (Nat.le_refl _) _).alloc (by simp) _⟩
  have := heap_alloc_new (w.alloc (.cells #[.int .i64 r.i, .int .i64 r.n, .int .i64 r.v, .bool r.g, .int .i64 r.p, .int .i64 r.k, .int .i64 r.s, .int .i64 r.e, .int .i64 r.f, .int .i64 r.l, .int .i64 r.h, .int .i64 r.a, .int .i64 r.r] 43)) (.cells #[.int .i64 0, .int .i64 0, .int .i64 0, .bool false, .int .i64 0, .int .i64 0, .int .i64 0, .int .i64 0, .int .i64 0, .int .i64 0, .int .i64 0, .int .i64 0, .int .i64 0, .int .i64 0] 40)
  rw [World.size_alloc] at this
  exact this

theorem MkW.set {w wr : World} {r : Rf} {y y' : Fc} (m : MkW w r y wr) (j : Nat) (v : Value) (h : y.cells.toArray.setIfInBounds j v = y'.cells.toArray) : MkW w r y' (wr.setCell ⟨w.heap.size + 2, j, none⟩ v) :=
  ⟨(heap_setCell_other wr _ _ _ (by simp)).trans m.box, (heap_setCell_other wr _ _ _ (by simp)).trans m.res, by rw [heap_setCell_same wr _ _ _ _ _ m.fact, h], m.bel.setCell (by simp) _⟩
theorem MkW.below {w wr w' : World} {r : Rf} {y : Fc} (m : MkW w r y wr) (h : Below wr.heap.size wr w') : MkW w r y w' := by
  have hl : w.heap.size + 2 < wr.heap.size := (Array.getElem?_eq_some_iff.1 m.fact).1
  exact ⟨(h.block _ (by omega)).trans m.box, (h.block _ (by omega)).trans m.res, (h.block _ (by omega)).trans m.fact, m.bel.trans (h.mono (by omega))⟩
theorem MkW.drew {w wr : World} {r : Rf} {y : Fc} (m : MkW w r y wr) : MkW w r y wr.drew := ⟨m.box, m.res, m.fact, m.bel.drew⟩
set_option maxRecDepth 100000 in
set_option maxHeartbeats 4000000 in
theorem make_any (r : Rf) (w : World) : Calls Try.prog 14 #[.agg #[.int .i64 r.i, .int .i64 r.n, .int .i64 r.v, .bool r.g, .int .i64 r.p, .int .i64 r.k, .int .i64 r.s, .int .i64 r.e, .int .i64 r.f, .int .i64 r.l, .int .i64 r.h, .int .i64 r.a, .int .i64 r.r]] w (RetV w) := by
  obtain ⟨i, hi⟩ : ∃ z, r.i % 3 = z := ⟨_, rfl⟩
  obtain ⟨n, hn⟩ : ∃ z, r.n % 20 = z := ⟨_, rfl⟩
  obtain ⟨v, hv⟩ : ∃ z, r.v % 3 = z := ⟨_, rfl⟩
  have hib : 0 ≤ i ∧ i < 3 := by omega
  have hnb : 0 ≤ n ∧ n < 20 := by omega
  have hvb : 0 ≤ v ∧ v < 3 := by omega
  have HI := Lib.hid hi
  have HN := Lib.hid hn
  have HV := Lib.hid hv
  clear hi hn hv
  obtain ⟨p, hp⟩ : ∃ z, r.p % 4 = z := ⟨_, rfl⟩
  obtain ⟨k, hk⟩ : ∃ z, r.k % 14 = z := ⟨_, rfl⟩
  have hpb : 0 ≤ p ∧ p < 4 := by omega
  have hkb : 0 ≤ k ∧ k < 14 := by omega
  have HP := Lib.hid hp
  have HK := Lib.hid hk
  clear hp hk
  have hw1 : IntKind.i64.wrap (1 + n) = 1 + n := IntWalk.i64_in _ (by omega)
  have hw2 : IntKind.i64.wrap (1 + v) = 1 + v := IntWalk.i64_in _ (by omega)
  go_enter Try.func14, Try.ntmps14
  go_upto_region 1 with (fail)
  obtain ⟨W, hW, hbox, hres, hsz, hbel⟩ := mk_boxes w r
  rw [← hW]
  clear hW
  obtain ⟨c0, c1, c2, c3, c4, c5, c6, c7, c8, c9, c10, c11, c12⟩ := (rfAt_row hbox).of0
  go_cut [3] from 8 to 21 (fun s3 wc => s3 = .pointer (some ⟨w.heap.size + 2, 0, none⟩) ∧ wc = (W.alloc (.cells #[.int .i64 i, .int .i64 (1 + n), .int .i64 (1 + v), .bool r.g, .int .i64 0, .int .i64 0, .int .i64 0, .int .i64 0, .int .i64 0, .int .i64 0, .int .i64 0, .int .i64 0, .int .i64 0, .int .i64 0] 40)).drew)
  case first =>
    go_region_held3 (fun w' => w'.cell? ⟨w.heap.size, 0, none⟩ = some (.int .i64 r.i) ∧ w'.cell? ⟨w.heap.size, 1, none⟩ = some (.int .i64 r.n) ∧ w'.cell? ⟨w.heap.size, 2, none⟩ = some (.int .i64 r.v) ∧ w'.cell? ⟨w.heap.size, 3, none⟩ = some (.bool r.g)) (go_keep)
      (first
        | (go_at_call 6; ((with_reducible refine (mod_to (n := r.i) (m := 3) (by omega) (by omega) HI.out _).mono ?_)); rintro e w1 ⟨rfl, rfl⟩)
        | (go_at_call 6; ((with_reducible refine (mod_to (n := r.n) (m := 20) (by omega) (by omega) HN.out _).mono ?_)); rintro e w1 ⟨rfl, rfl⟩)
        | (go_at_call 6; ((with_reducible refine (mod_to (n := r.v) (m := 3) (by omega) (by omega) HV.out _).mono ?_)); rintro e w1 ⟨rfl, rfl⟩))
    all_goals go_wp2_with fail
    all_goals go_meet
    all_goals exact ⟨rfl, rfl⟩
  case rest =>
    obtain ⟨rfl, rfl⟩ := hcut
    obtain ⟨V, hV⟩ : ∃ V, V = (W.alloc (.cells #[.int .i64 i, .int .i64 (1 + n), .int .i64 (1 + v), .bool r.g, .int .i64 0, .int .i64 0, .int .i64 0, .int .i64 0, .int .i64 0, .int .i64 0, .int .i64 0, .int .i64 0, .int .i64 0, .int .i64 0] 40)).drew := ⟨_, rfl⟩
    have hm1 : MkW w r ⟨i, 1 + n, 1 + v, r.g, 0, 0, 0, 0, 0, 0, 0, 0, 0, 0⟩ V := by
      refine ⟨?_, ?_, ?_, ?_⟩
      · rw [hV]; exact (Below.heap_alloc _ _ _ (by omega)).trans hbox
      · rw [hV]; exact (Below.heap_alloc _ _ _ (by omega)).trans hres
      · rw [hV, ← hsz]; exact heap_alloc_new W _
      · rw [hV]; exact (hbel.alloc (by omega) _).drew
    rw [← hV]
    clear hV hw1 hw2 c0 c1 c2 c3
    go_upto_region 2 with (fail)
    obtain ⟨_, _, _, _, c4, c5, _, _, _, _, _, _, _⟩ := (rfAt_row hm1.box).of0
    have hw1 : IntKind.i64.wrap (1 + p) = 1 + p := IntWalk.i64_in _ (by omega)
    have hw2 : IntKind.i64.wrap (1 + k) = 1 + k := IntWalk.i64_in _ (by omega)
    have z4 := frozen_of_row V (w.heap.size + 2) 4 _ _ hm1.fact
    have z5 := frozen_of_row V (w.heap.size + 2) 5 _ _ hm1.fact
    have f4 : V.cell? ⟨w.heap.size + 2, 4, none⟩ = some (.int .i64 0) := by rw [cell_of_row _ _ _ _ _ _ hm1.fact]; rfl
    have f5 : V.cell? ⟨w.heap.size + 2, 5, none⟩ = some (.int .i64 0) := by rw [cell_of_row _ _ _ _ _ _ hm1.fact]; rfl
    go_cut [] from 22 to 31 (fun wc => wc = ((V.setCell ⟨w.heap.size + 2, 4, none⟩ (.int .i64 (1 + p))).setCell ⟨w.heap.size + 2, 5, none⟩ (.int .i64 (1 + k))).drew)
    case first =>
      go_region_law (first
        | (go_simp; go_at_call 6; ((with_reducible refine (mod_to (n := r.p) (m := 4) (by omega) (by omega) HP.out _).mono ?_)); rintro e w1 ⟨rfl, rfl⟩)
        | (go_simp; go_at_call 6; ((with_reducible refine (mod_to (n := r.k) (m := 14) (by omega) (by omega) HK.out _).mono ?_)); rintro e w1 ⟨rfl, rfl⟩))
      all_goals go_wp2_with fail
      all_goals go_meet
      all_goals exact rfl
    case rest =>
      have hm2 : MkW w r ⟨i, 1 + n, 1 + v, r.g, 1 + p, 1 + k, 0, 0, 0, 0, 0, 0, 0, 0⟩ wc := by rw [hcut]; exact ((hm1.set (y' := ⟨i, 1 + n, 1 + v, r.g, 1 + p, 0, 0, 0, 0, 0, 0, 0, 0, 0⟩) 4 (.int .i64 (1 + p)) rfl).set 5 (.int .i64 (1 + k)) rfl).drew
      clear hcut hm1 hw1 hw2 c4 c5 z4 z5 f4 f5 hsz hbox hres hbel c6 c7 c8 c9 c10 c11 c12
      generalize hy0 : (⟨i, 1 + n, 1 + v, r.g, 1 + p, 1 + k, 0, 0, 0, 0, 0, 0, 0, 0⟩ : Fc) = y0 at hm2
      obtain ⟨_, _, _, _, _, _, _, _, e8, e9, _, _, _⟩ := (rfAt_row hm2.box).of0
      have e5 : wc.cell? ⟨w.heap.size + 2, 5, none⟩ = some (.int .i64 (1 + k)) := by rw [cell_of_row _ _ _ _ _ _ hm2.fact, ← hy0]; rfl
      go_wp2_with fail
      refine (mod_any _ _ _ (by omega) (by omega)).mono ?_
      rintro e w1 ⟨rfl, rfl⟩
      generalize hF : r.f % 16000 = F
      have hFb : 0 ≤ F ∧ F < 16000 := by omega
      clear hF
      have hw1 : IntKind.i64.wrap (21900 + F) = 21900 + F := IntWalk.i64_in _ (by omega)
      go_wp2_with fail
      refine (hlen_any _ _).mono ?_
      rintro e w1 ⟨⟨l, rfl, hl1, hl2⟩, rfl⟩
      have hw2 : IntKind.i64.wrap (21900 + F + l) = 21900 + F + l := IntWalk.i64_in _ (by omega)
      obtain ⟨kk, hkk⟩ : ∃ z, 1 + k = z := ⟨_, rfl⟩
      rw [hkk] at e5 hy0
      have hkb2 : 1 ≤ kk ∧ kk ≤ 14 := by omega
      clear hkk HK HP HI HN HV hkb
      go_upto_block 0 with (fail)
      go_cut [4, 5] from 43 to 70 (fun s4 s5 wx => (∃ F T : Int, s4 = .int .i64 F ∧ s5 = .int .i64 T ∧ 0 ≤ F ∧ F < T ∧ T ≤ 73049 ∧ (kk = 11 ∨ kk = 12 → T = F + 1)) ∧ wx = wc)
      case first =>
        by_cases q1 : kk = 11
        · have d1 : (kk == 11) = true := beq_iff_eq.2 q1
          clear q1
          go_wp2_with fail
          refine (mod_any _ _ _ (by omega) (by omega)).mono ?_
          rintro e w1 ⟨rfl, rfl⟩
          generalize hF2 : r.f % 5000 = F2
          have hFb2 : 0 ≤ F2 ∧ F2 < 5000 := by omega
          clear hF2
          go_wp2_with fail
          go_meet
          exact ⟨⟨12000 + F2, 12000 + F2 + 1, rfl, rfl, by omega, by omega, by omega, fun _ => rfl⟩, rfl⟩
        · have d1 : (kk == 11) = false := beq_eq_false_iff_ne.2 q1
          by_cases q2 : kk = 12
          · have d2 : (kk == 12) = true := beq_iff_eq.2 q2
            clear q1 q2
            go_wp2_with fail
            refine (mod_any _ _ _ (by omega) (by omega)).mono ?_
            rintro e w1 ⟨rfl, rfl⟩
            generalize hF2 : r.f % 6000 = F2
            have hFb2 : 0 ≤ F2 ∧ F2 < 6000 := by omega
            clear hF2
            go_wp2_with fail
            go_meet
            exact ⟨⟨34000 + F2, 34000 + F2 + 1, rfl, rfl, by omega, by omega, by omega, fun _ => rfl⟩, rfl⟩
          · have d2 : (kk == 12) = false := beq_eq_false_iff_ne.2 q2
            have HQ : Hid (kk = 11 ∨ kk = 12 → False) := Lib.hid (fun h => h.elim q1 q2)
            by_cases q3 : kk = 8
            · have d3 : (kk == 8) = true := beq_iff_eq.2 q3
              clear q1 q2 q3
              go_wp2_with fail
              refine (mod_any _ _ _ (by omega) (by omega)).mono ?_
              rintro e w1 ⟨rfl, rfl⟩
              generalize hF2 : r.f % 4000 = F2
              have hFb2 : 0 ≤ F2 ∧ F2 < 4000 := by omega
              clear hF2
              go_wp2_with fail
              refine (mod_any _ _ _ (by omega) (by omega)).mono ?_
              rintro e w1 ⟨rfl, rfl⟩
              generalize hL2 : r.l % 700 = L2
              have hLb2 : 0 ≤ L2 ∧ L2 < 700 := by omega
              clear hL2
              go_wp2_with fail
              go_meet
              exact ⟨⟨34000 + F2, 34000 + F2 + 1 + L2, rfl, rfl, by omega, by omega, by omega, fun h => (HQ.out h).elim⟩, rfl⟩
            · have d3 : (kk == 8) = false := beq_eq_false_iff_ne.2 q3
              clear q1 q2 q3
              go_wp2_with fail
              go_meet
              exact ⟨⟨21900 + F, 21900 + F + l, rfl, rfl, by omega, by omega, by omega, fun h => (HQ.out h).elim⟩, rfl⟩
      case rest =>
        obtain ⟨⟨F1, T1, rfl, rfl, hF1, hT1, hT2, hFT⟩, rfl⟩ := hcut
        have HFT := Lib.hid hFT
        clear hFT hw1 hw2 hFb hl1 hl2
        go_wp2_with fail
        refine (ruses_any kk _ hkb2.1 hkb2.2).mono ?_
        rintro e w7 ⟨rfl, hb7⟩
        have hm7 := hm2.below hb7
        have HZ := Lib.hid (useS_size kk)
        have hul := useL_length kk
        clear hb7 hm2
        go_wp2_with fail
        go_loopw [7] (fun v wn => ∃ (j : Nat) (y : Fc), j ≤ (useS kk).size ∧ v = .int .i64 (j : Int) ∧ MkI (1 + p) kk F1 T1 (useL kk) j y ∧ MkW w r y wn) (fun v _ => (useS kk).size - (intOf v).toNat)
        case atStart => exact ⟨0, y0, by omega, rfl, by rw [← hy0]; exact mkI_start (by omega) (by omega) (by omega), hm7⟩
        case round =>
          clear hm7 hy0 e8 e9 e5
          obtain ⟨j, y, hj, rfl, hI, hM⟩ := hrel
          have hsz : (useS kk).size ≤ 6 := by rw [HZ.out]; exact hul
          have HI := Lib.hid hI
          have hs6 := hI.s.bd (by omega) (by omega)
          have HPp := Lib.hid hI.fp
          have HKk := Lib.hid hI.fk
          clear hI
          by_cases hlt : j < (useS kk).size
          · obtain ⟨l, hl, hs⟩ := useS_at hlt
            have hlm := useL_mem kk l (List.mem_of_getElem? hl)
            have HL := Lib.hid hl
            have HS := Lib.hid hs
            clear hl hs
            rcases hlm with rfl | rfl | rfl | rfl | rfl | rfl | rfl
            · have hq : ((useS kk)[j].toNat : Int) = 83 := by rw [HS.out]; rfl
              obtain ⟨_, _, _, _, _, _, c6, _, _, _, _, _, _⟩ := (rfAt_row hM.box).of0
              have f6 : wr.cell? ⟨w.heap.size + 2, 6, none⟩ = some (.int .i64 y.s) := by rw [cell_of_row _ _ _ _ _ _ hM.fact]; rfl
              have z6 := frozen_of_row wr (w.heap.size + 2) 6 _ _ hM.fact
              go_wp2_with fail
              refine (mod_any _ _ _ (by omega) (by omega)).mono ?_
              rintro e w1 ⟨rfl, rfl⟩
              generalize hx : (_ : Int) % (3 : Int) = x
              have hxb : 0 ≤ x ∧ x < 3 := by omega
              clear hx
              go_wp2_with fail
              go_roundw
              case rel => exact ⟨j + 1, _, by omega, by go_num, HI.out.setS HL.out (fun h => by subst h; exact use4_s HL.out) (z := x) (by omega), hM.set 6 (.int .i64 (x)) rfl⟩
              case measure => simp [intOf]; omega
            · have hq : ((useS kk)[j].toNat : Int) = 80 := by rw [HS.out]; rfl
              have f7 : wr.cell? ⟨w.heap.size + 2, 7, none⟩ = some (.int .i64 y.f) := by rw [cell_of_row _ _ _ _ _ _ hM.fact]; rfl
              have z7 := frozen_of_row wr (w.heap.size + 2) 7 _ _ hM.fact
              have f8 : wr.cell? ⟨w.heap.size + 2, 8, none⟩ = some (.int .i64 y.t) := by rw [cell_of_row _ _ _ _ _ _ hM.fact]; rfl
              have z8 := frozen_of_row wr (w.heap.size + 2) 8 _ _ hM.fact
              go_wp2_with fail
              go_roundw
              case rel => exact ⟨j + 1, _, by omega, by go_num, HI.out.setP HL.out, (hM.set (y' := { y with f := F1 }) 7 (.int .i64 F1) rfl).set 8 (.int .i64 T1) rfl⟩
              case measure => simp [intOf]; omega
            · have hq : ((useS kk)[j].toNat : Int) = 84 := by rw [HS.out]; rfl
              obtain ⟨_, _, _, _, _, _, _, c7, _, _, _, _, _⟩ := (rfAt_row hM.box).of0
              have f9 : wr.cell? ⟨w.heap.size + 2, 9, none⟩ = some (.int .i64 y.e) := by rw [cell_of_row _ _ _ _ _ _ hM.fact]; rfl
              have z9 := frozen_of_row wr (w.heap.size + 2) 9 _ _ hM.fact
              go_wp2_with fail
              refine (mod_any _ _ _ (by omega) (by omega)).mono ?_
              rintro e w1 ⟨rfl, rfl⟩
              generalize hx : (_ : Int) % (3 : Int) = x
              have hxb : 0 ≤ x ∧ x < 3 := by omega
              clear hx
              go_upto_region 29 with (fail)
              obtain ⟨X, hX⟩ : ∃ X, X = wr.setCell ⟨w.heap.size + 2, 9, none⟩ (.int .i64 x) := ⟨_, rfl⟩
              have hMX : MkW w r { y with e := x } X := by rw [hX]; exact hM.set 9 (.int .i64 x) rfl
              rw [← hX]
              clear hX hM f9 z9
              have f5 : X.cell? ⟨w.heap.size + 2, 5, none⟩ = some (.int .i64 kk) := by rw [cell_of_row _ _ _ _ _ _ hMX.fact, ← HKk.out]; rfl
              have f6 : X.cell? ⟨w.heap.size + 2, 6, none⟩ = some (.int .i64 y.s) := by rw [cell_of_row _ _ _ _ _ _ hMX.fact]; rfl
              have f9 : X.cell? ⟨w.heap.size + 2, 9, none⟩ = some (.int .i64 x) := by rw [cell_of_row _ _ _ _ _ _ hMX.fact]; rfl
              have z9 := frozen_of_row X (w.heap.size + 2) 9 _ _ hMX.fact
              by_cases q4 : kk = 4
              · have d4 : (kk == 4) = true := beq_iff_eq.2 q4
                clear q4
                by_cases q5 : x = y.s
                · have d5 : (x == y.s) = true := beq_iff_eq.2 q5
                  have HQ5 := Lib.hid q5
                  have hw5 : IntKind.i64.wrap (y.s + 1) = y.s + 1 := IntWalk.i64_in _ (by omega)
                  clear q5
                  go_wp2_with fail
                  refine (mod_any _ _ _ (by omega) (by omega)).mono ?_
                  rintro e w1 ⟨rfl, rfl⟩
                  generalize hx2 : (y.s + 1) % (3 : Int) = x2
                  have hxb2 : 0 ≤ x2 ∧ x2 < 3 ∧ y.s ≠ x2 := by omega
                  clear hx2
                  go_wp2_with fail
                  go_roundw
                  case rel => exact ⟨j + 1, { y with e := x2 }, by omega, by go_num, HI.out.setT HL.out (by omega) (fun _ => hxb2.2.2), hMX.set 9 (.int .i64 x2) rfl⟩
                  case measure => simp [intOf]; omega
                · have d5 : (x == y.s) = false := beq_eq_false_iff_ne.2 q5
                  have HQ5 := Lib.hid q5
                  clear q5
                  go_wp2_with fail
                  go_roundw
                  case rel => exact ⟨j + 1, { y with e := x }, by omega, by go_num, HI.out.setT HL.out (by omega) (fun _ h => HQ5.out h.symm), hMX⟩
                  case measure => simp [intOf]; omega
              · have d4 : (kk == 4) = false := beq_eq_false_iff_ne.2 q4
                have HQ4 := Lib.hid q4
                clear q4
                go_wp2_with fail
                go_roundw
                case rel => exact ⟨j + 1, { y with e := x }, by omega, by go_num, HI.out.setT HL.out (by omega) (fun h => (HQ4.out h).elim), hMX⟩
                case measure => simp [intOf]; omega
            · have hq : ((useS kk)[j].toNat : Int) = 72 := by rw [HS.out]; rfl
              obtain ⟨_, _, _, _, _, _, _, _, _, _, c10, _, _⟩ := (rfAt_row hM.box).of0
              have f10 : wr.cell? ⟨w.heap.size + 2, 10, none⟩ = some (.int .i64 y.h) := by rw [cell_of_row _ _ _ _ _ _ hM.fact]; rfl
              have z10 := frozen_of_row wr (w.heap.size + 2) 10 _ _ hM.fact
              go_wp2_with fail
              refine (mod_any _ _ _ (by omega) (by omega)).mono ?_
              rintro e w1 ⟨rfl, rfl⟩
              generalize hx : (_ : Int) % (100 : Int) = x
              have hxb : 0 ≤ x ∧ x < 100 := by omega
              clear hx
              go_wp2_with fail
              go_roundw
              case rel => exact ⟨j + 1, _, by omega, by go_num, HI.out.setH HL.out (z := 1 + x) (by omega), hM.set 10 (.int .i64 (1 + x)) rfl⟩
              case measure => simp [intOf]; omega
            · have hq : ((useS kk)[j].toNat : Int) = 67 := by rw [HS.out]; rfl
              obtain ⟨_, _, _, _, _, _, c6, c7, _, _, _, _, _⟩ := (rfAt_row hM.box).of0
              have f11 : wr.cell? ⟨w.heap.size + 2, 11, none⟩ = some (.int .i64 y.c) := by rw [cell_of_row _ _ _ _ _ _ hM.fact]; rfl
              have z11 := frozen_of_row wr (w.heap.size + 2) 11 _ _ hM.fact
              go_wp2_with fail
              refine (mod_any _ _ _ (by omega) (by omega)).mono ?_
              rintro e w1 ⟨rfl, rfl⟩
              generalize hx : (_ : Int) % (3 : Int) = x
              have hxb : 0 ≤ x ∧ x < 3 := by omega
              clear hx
              go_wp2_with fail
              go_roundw
              case rel => exact ⟨j + 1, _, by omega, by go_num, HI.out.setC HL.out (z := 1 + x) (by omega), hM.set 11 (.int .i64 (1 + x)) rfl⟩
              case measure => simp [intOf]; omega
            · have hq : ((useS kk)[j].toNat : Int) = 65 := by rw [HS.out]; rfl
              obtain ⟨_, _, _, _, _, _, _, _, _, _, _, c11, _⟩ := (rfAt_row hM.box).of0
              have f12 : wr.cell? ⟨w.heap.size + 2, 12, none⟩ = some (.int .i64 y.a) := by rw [cell_of_row _ _ _ _ _ _ hM.fact]; rfl
              have z12 := frozen_of_row wr (w.heap.size + 2) 12 _ _ hM.fact
              go_wp2_with fail
              refine (mod_any _ _ _ (by omega) (by omega)).mono ?_
              rintro e w1 ⟨rfl, rfl⟩
              generalize hx : (_ : Int) % (3000000 : Int) = x
              have hxb : 0 ≤ x ∧ x < 3000000 := by omega
              clear hx
              go_wp2_with fail
              go_roundw
              case rel => exact ⟨j + 1, _, by omega, by go_num, HI.out.setA HL.out (z := x) (by omega), hM.set 12 (.int .i64 (x)) rfl⟩
              case measure => simp [intOf]; omega
            · have hq : ((useS kk)[j].toNat : Int) = 82 := by rw [HS.out]; rfl
              obtain ⟨_, _, _, _, _, _, _, _, _, _, _, _, c12⟩ := (rfAt_row hM.box).of0
              have f13 : wr.cell? ⟨w.heap.size + 2, 13, none⟩ = some (.int .i64 y.r) := by rw [cell_of_row _ _ _ _ _ _ hM.fact]; rfl
              have z13 := frozen_of_row wr (w.heap.size + 2) 13 _ _ hM.fact
              have f4 : wr.cell? ⟨w.heap.size + 2, 4, none⟩ = some (.int .i64 (1 + p)) := by rw [cell_of_row _ _ _ _ _ _ hM.fact, ← HPp.out]; rfl
              go_wp2_with fail
              refine (mod_any _ _ _ (by omega) (by omega)).mono ?_
              rintro e w1 ⟨rfl, rfl⟩
              generalize hx : (_ : Int) % (4 : Int) = x
              have hxb : 0 ≤ x ∧ x < 4 := by omega
              clear hx
              go_upto_region 21 with (fail)
              obtain ⟨X, hX⟩ : ∃ X, X = wr.setCell ⟨w.heap.size + 2, 13, none⟩ (.int .i64 (1 + x)) := ⟨_, rfl⟩
              have hMX : MkW w r { y with r := 1 + x } X := by rw [hX]; exact hM.set 13 (.int .i64 (1 + x)) rfl
              rw [← hX]
              clear hX hM f13 z13 f4
              have f4 : X.cell? ⟨w.heap.size + 2, 4, none⟩ = some (.int .i64 (1 + p)) := by rw [cell_of_row _ _ _ _ _ _ hMX.fact, ← HPp.out]; rfl
              have f13 : X.cell? ⟨w.heap.size + 2, 13, none⟩ = some (.int .i64 (1 + x)) := by rw [cell_of_row _ _ _ _ _ _ hMX.fact]; rfl
              have z13 := frozen_of_row X (w.heap.size + 2) 13 _ _ hMX.fact
              by_cases q5 : 1 + x = 1 + p
              · have d5 : (1 + x == 1 + p) = true := beq_iff_eq.2 q5
                clear q5
                go_wp2_with fail
                refine (mod_any _ _ _ (by omega) (by omega)).mono ?_
                rintro e w1 ⟨rfl, rfl⟩
                generalize hx2 : (1 + p) % (4 : Int) = x2
                have hxb2 : 0 ≤ x2 ∧ x2 < 4 ∧ 1 + x2 ≠ 1 + p := by omega
                clear hx2
                go_wp2_with fail
                go_roundw
                case rel => exact ⟨j + 1, { y with r := 1 + x2 }, by omega, by go_num, HI.out.setR HL.out (by omega) hxb2.2.2, hMX.set 13 (.int .i64 (1 + x2)) rfl⟩
                case measure => simp [intOf]; omega
              · have d5 : (1 + x == 1 + p) = false := beq_eq_false_iff_ne.2 q5
                have HQ5 := Lib.hid q5
                clear q5
                go_wp2_with fail
                go_roundw
                case rel => exact ⟨j + 1, { y with r := 1 + x }, by omega, by go_num, HI.out.setR HL.out (by omega) HQ5.out, hMX⟩
                case measure => simp [intOf]; omega
          · have hje : j = (useL kk).length := by have := HZ.out; omega
            have hV : Vld y := by
              have h := HI.out
              rw [hje] at h
              exact h.vld rfl hkb2.1 hkb2.2 (by omega) ⟨hF1, hT1, hT2⟩ HFT.out
            have HVV := Lib.hid hV
            clear hV hje
            have hbx := hM.res
            have hfx := hM.fact
            obtain ⟨a0, a1, a2, a3, a4, a5, a6, a7, a8, a9, a10, a11, a12, a13⟩ := (fcAt_row hfx).of0y
            go_wp2_with (refine wpList_store_whole (by rfl) 40 (.tmp 2) (.tmp 155) (by rfl) (w.heap.size + 1) _ _ y.cells (by rfl) (by rfl) hbx (by rfl) (by kernel_rfl) (by intro v hv; simp only [Fc.cells, List.mem_cons, List.not_mem_nil, or_false] at hv; rcases hv with rfl | rfl | rfl | rfl | rfl | rfl | rfl | rfl | rfl | rfl | rfl | rfl | rfl | rfl <;> rfl) ?_; intro W' hw' hbw)
            have fr : FcAt W' (w.heap.size + 1) 0 y := fcAt_row hw'
            obtain ⟨r0, r1, r2, r3, r4, r5, r6, r7, r8, r9, r10, r11, r12, r13⟩ := fr.of0y
            exact bodyPost_ret (v := y.agg) (by simp [results, Try.f14, go_sem, r0, r1, r2, r3, r4, r5, r6, r7, r8, r9, r10, r11, r12, r13, Fc.agg]) rfl ⟨y, rfl, HVV.out, hM.bel.trans (hbw _ (by omega))⟩
end Go.Proofs.Ytbogmkhoppffgaa
