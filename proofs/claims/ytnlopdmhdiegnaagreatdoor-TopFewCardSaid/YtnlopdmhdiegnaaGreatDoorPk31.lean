/- Lemmas (no conditions): OvF, OvG -/
import Derived.Test.YtnlopdmhdiegnaaGreatDoorPk29
set_option linter.unusedSimpArgs false
set_option linter.unusedVariables false
set_option maxRecDepth 100000
set_option maxHeartbeats 64000000
namespace Go.Proofs.YtnlopdmhdiegnaaGreatDoor
open Go.RowKit
section
def Pc.cc (p : Pc) : List Value := [.int .i64 p.f, .int .i64 p.t, .int .i64 (p.m.getD 0 0), .int .i64 (p.m.getD 1 0)]
theorem cc_len (p : Pc) : p.cc.length = 4 := rfl
theorem cc_flen (l : List Pc) : (flat Pc.cc l).length = l.length * 4 := flat_length cc_len l
def Two (p : Pc) : Prop := ∃ s r : Int, p.m = [s, r]
def Fr (K : Nat -> Prop) (po : Nat) (w w' : World) : Prop := Below po w w' /\ ∀ k, k ≠ po -> K k -> w'.heap[k]? = w.heap[k]?
theorem Fr.refl (K : Nat -> Prop) (po : Nat) (w : World) : Fr K po w w := ⟨Below.refl _ _, fun _ _ _ => rfl⟩
theorem Fr.trans {K : Nat -> Prop} {po : Nat} {a b c : World} (h : Fr K po a b) (k : Fr K po b c) : Fr K po a c := ⟨h.1.trans k.1, fun i h1 h2 => (k.2 i h1 h2).trans (h.2 i h1 h2)⟩
theorem Fr.less {K K' : Nat -> Prop} {po : Nat} {w w' : World} (h : Fr K po w w') (hK : ∀ k, K' k -> K k) : Fr K' po w w' := ⟨h.1, fun k h1 h2 => h.2 k h1 (hK k h2)⟩
theorem Fr.ofBelow {K : Nat -> Prop} {po : Nat} {w w' : World} (h : Below w.heap.size w w') (hK : ∀ k, K k -> k < w.heap.size) (hpo : po < w.heap.size) : Fr K po w w' := ⟨h.mono (Nat.le_of_lt hpo), fun k _ hk => h.block k (hK k hk)⟩
theorem Fr.setPo {K : Nat -> Prop} {po : Nat} {a w : World} (h : Fr K po a w) (i : Nat) (u : Value) : Fr K po a (w.setCell ⟨po, i, none⟩ u) := ⟨h.1.setCell (Nat.le_refl _) u, fun k h1 h2 => (heap_setCell_other w ⟨po, i, none⟩ k u h1).trans (h.2 k h1 h2)⟩
theorem Fr.own {K : Nat -> Prop} {po : Nat} {w w' : World} {base e sz n : Nat} {v : Value} {xs : List Value} (h : w.ownsRow base e sz v n xs) (hf : Fr K po w w') (hB : ∀ g, v.ownBlock = some g -> K g /\ g ≠ po) : w'.ownsRow base e sz v n xs := by
 refine ⟨h.1, ?_⟩
 rcases h.2 with h0 | ⟨g, cap, cur, rfl, hb, hg, r⟩
 ·exact .inl h0
 ·obtain ⟨h1, h2⟩ := hB g rfl
  exact .inr ⟨g, cap, cur, rfl, hb, (hf.2 g h2 h1).trans hg, r⟩
def Ao (w : World) (B po : Nat) (O : List Pc) : Prop := ∃ A c, w.heap[po]? = some (.cells #[.slice A O.length c] 99 (0, 0)) /\ w.ownsRow B 236 4 (.slice A O.length c) O.length (flat Pc.cc O)
theorem memC_two (C : List Pr) (x : Int) : memC C x = [] ∨ ∃ s r, atC C x = some (s, r) /\ memC C x = [s, r] := by
 unfold memC
 cases h : atC C x with
 | none => exact .inl rfl
 | some p => exact .inr ⟨p.1, p.2, rfl, rfl⟩
theorem ccell {w : World} {base g n c : Nat} {O : List Pc} (h : w.ownsRow base 236 4 (.slice (some ⟨g, 0, none⟩) n c) n (flat Pc.cc O)) {k : Nat} {p : Pc} (hp : O[k]? = some p) (i : Nat) (u : Value) (hu : p.cc[i]? = some u) : w.cell? ⟨g, k * 4 + i, none⟩ = some u := by
 obtain ⟨_, b, o, e, _, hc⟩ := (Rd.ofOwn h).elem cc_len hp (by omega)
 injection e with e
 injection e with e1 e2
 subst e1 e2
 have := hc i u hu
 rwa [Nat.zero_add] at this
theorem own_cut {w : World} {base e sz n c g : Nat} {xs ys : List Value} (h : w.ownsRow base e sz (.slice (some ⟨g, 0, none⟩) (n + 1) c) (n + 1) (xs ++ ys)) (hx : xs.length = n * sz) : w.ownsRow base e sz (.slice (some ⟨g, 0, none⟩) n c) n xs := by
 refine ⟨hx, .inr ?_⟩
 rcases h.2 with ⟨e0, _⟩ | ⟨g', cap, cur, hv, hb, hg, hnc, hcm, hcs, ht⟩
 ·cases e0
 ·injection hv with h1 _ h3
  injection h1 with h1
  injection h1 with h1
  subst h1 h3
  refine ⟨g, c, cur, rfl, hb, hg, by omega, hcm, hcs, ?_⟩
  have h4 : (cur.toList.take ((n + 1) * sz)).take (n * sz) = xs := by
   rw [ht, List.take_append_of_le_length (by omega), List.take_of_length_le (by omega)]
  rw [List.take_take, Nat.min_eq_left (Nat.mul_le_mul_right sz (by omega))] at h4
  exact h4
theorem add_any {w : World} {K : Nat -> Prop} {B base pb po g : Nat} {C : List Pr} {O : List Pc} (a b : Int) (hbd : Bd w base g C) (hpb : w.heap[pb]? = some (.cells #[.pointer (some ⟨g, 0, none⟩)] 307 (0, 0))) (hao : Ao w B po O) (hB : B <= w.heap.size) (hpo : po < B) (h2 : ∀ p ∈ O, Two p) (hO : O.length <= 100000)
  (hC : C.length <= 100) (ha0 : 0 <= a) (ha1 : a <= 73049) (hb1 : I64 b) (hKl : ∀ k, K k -> k < w.heap.size) (hKo : ∀ k, K k -> ∀ A c, w.heap[po]? = some (.cells #[.slice A O.length c] 99 (0, 0)) -> (Value.slice A O.length c).ownBlock ≠ some k) :
  Calls Tryz.prog 189 #[.int .i64 a, .int .i64 b, .pointer (some ⟨pb, 0, none⟩), .pointer (some ⟨po, 0, none⟩)] w fun e w' => e = .returned (.tuple #[]) /\ Ao w' B po (resA C O a b) /\ Fr K po w w' := by
 obtain ⟨i0, hi0, hz0, hz1, hz2⟩ := info_parts info_counted
 have q0 : w.cell? ⟨pb, 0, none⟩ = some (.pointer (some ⟨g, 0, none⟩)) := by rw [cell_of_row w pb 0 _ _ _ hpb]; rfl
 obtain ⟨hb1, hb2⟩ := hb1
 have H2 := Lib.hid h2
 clear h2
 go_enter Tryz.func189, Tryz.ntmps189
 go_wp2_with fail
 refine (at_any a hbd hC ha0 ha1).mono ?_
 rintro e w1 ⟨rfl, hw1⟩
 obtain ⟨A, c, hpo1, hown⟩ := hao
 have hpol := (gis hpo1).1
 have hfr1 : Fr K po w w1 := Fr.ofBelow hw1 hKl hpol
 have hko := fun k hk => hKo k hk A c hpo1
 have HKO := Lib.hid hko
 have HKL := Lib.hid hKl
 have hpo2 := (hw1.block po hpol).trans hpo1
 have hown1 := own_under hown hw1
 have hz1' := hw1.size
 clear hpb q0 hbd hown hpo1 hko hKo hKl
 rcases memC_two C a with hm | ⟨s, r, hat, hm⟩
 ·have hat : atC C a = none := by
   unfold memC at hm
   cases h : atC C a with
   | none => rfl
   | some p => rw [h] at hm; cases hm
  have hres : resA C O a b = O := by
   unfold resA
   split
   ·rw [hm, addP_nil]
   ·rfl
  have HRES := Lib.hid hres
  have hv : atV C a = .tuple #[.int .i64 (-1), .int .i64 0, .bool false] := by unfold atV; rw [hat]
  rw [hv]
  clear hv hres hm hat
  go_wp2_with fail
  refine bodyPost_ret (results_none rfl _ _ _) rfl ?_
  exact ⟨rfl, by rw [HRES.out]; exact ⟨A, c, (Below.heap_alloc _ _ _ (by omega)).trans hpo2, hown1.alloc _⟩, hfr1.trans (Fr.ofBelow ((Below.refl w1.heap.size w1).alloc (Nat.le_refl _) _) (fun k hk => Nat.lt_of_lt_of_le (HKL.out k hk) hz1') (by omega))⟩
 ·have hv : atV C a = .tuple #[.int .i64 s, .int .i64 r, .bool true] := by unfold atV; rw [hat]
  rw [hv]
  clear hv hat
  by_cases hab : a < b
  ·have hres : resA C O a b = addP O a b [s, r] := by unfold resA; rw [if_pos hab, hm]
   have HRES := Lib.hid hres
   clear hres hm
   have hab2 : decide (b <= a) = false := by simp; omega
   go_upto_region 3 with (fail)
   have hrow := heap_alloc_new w1 (.cells #[.int .i64 a, .int .i64 b, .int .i64 s, .int .i64 r] 236)
   have hbA : Below w1.heap.size w1 (w1.alloc (.cells #[.int .i64 a, .int .i64 b, .int .i64 s, .int .i64 r] 236)) := (Below.refl _ _).alloc (Nat.le_refl _) _
   obtain ⟨W, hW⟩ : ∃ W, W = w1.alloc (.cells #[.int .i64 a, .int .i64 b, .int .i64 s, .int .i64 r] 236) := ⟨_, rfl⟩
   rw [<- hW] at hrow hbA ⊢
   clear hW
   have hownW := own_under hown1 hbA
   have HGL : Hid (∀ g, (Value.slice A O.length c).ownBlock = some g -> g < w1.heap.size) := fun g e => (hown1.lt g e).2
   have hpoW := (hbA.block po (by omega)).trans hpo2
   have hfrW := hfr1.trans (Fr.ofBelow hbA (fun k hk => Nat.lt_of_lt_of_le (HKL.out k hk) hz1') (by omega))
   have hzW := hbA.size
   have x0 : W.cell? ⟨w1.heap.size, 0, none⟩ = some (.int .i64 a) := by rw [cell_of_row W _ 0 _ _ _ hrow]; rfl
   have x1 : W.cell? ⟨w1.heap.size, 1, none⟩ = some (.int .i64 b) := by rw [cell_of_row W _ 1 _ _ _ hrow]; rfl
   have x2 : W.cell? ⟨w1.heap.size, 2, none⟩ = some (.int .i64 s) := by rw [cell_of_row W _ 2 _ _ _ hrow]; rfl
   have x3 : W.cell? ⟨w1.heap.size, 3, none⟩ = some (.int .i64 r) := by rw [cell_of_row W _ 3 _ _ _ hrow]; rfl
   have p0 : W.cell? ⟨po, 0, none⟩ = some (.slice A O.length c) := by rw [cell_of_row W po 0 _ _ _ hpoW]; rfl
   have pf := frozen_of_row W po 0 _ _ hpoW
   clear hown1 hpo2 hfr1 hw1
   rcases List.eq_nil_or_concat O with rfl | ⟨O', q, rfl⟩
   ·have HR2 : Hid (resA C [] a b = [⟨a, b, [s, r]⟩]) := HRES.out
    go_wp2_with fail
    go_quiet (fail)
    have hownq : (W.drewN nq).ownsRow B 236 4 (.slice A 0 c) 0 [] := hownW
    have hpoq : (W.drewN nq).heap[po]? = some (.cells #[.slice A 0 c] 99 (0, 0)) := hpoW
    have hfrq : Fr K po w (W.drewN nq) := hfrW.trans (Fr.ofBelow (below_drewN (Below.refl W.heap.size W) nq) (fun k hk => by have := HKL.out k hk; omega) (by omega))
    have hzq : w1.heap.size < (W.drewN nq).heap.size := (gis hrow).1
    have x0' : (W.drewN nq).cell? ⟨w1.heap.size, 0, none⟩ = some (.int .i64 a) := x0
    have x1' : (W.drewN nq).cell? ⟨w1.heap.size, 1, none⟩ = some (.int .i64 b) := x1
    have x2' : (W.drewN nq).cell? ⟨w1.heap.size, 2, none⟩ = some (.int .i64 s) := x2
    have x3' : (W.drewN nq).cell? ⟨w1.heap.size, 3, none⟩ = some (.int .i64 r) := x3
    have p0' : (W.drewN nq).cell? ⟨po, 0, none⟩ = some (.slice A 0 c) := p0
    obtain ⟨V, hV⟩ : ∃ V, V = W.drewN nq := ⟨_, rfl⟩
    rw [<- hV] at hownq hpoq hfrq hzq x0' x1' x2' x3' p0' ⊢
    clear hV x0 x1 x2 x3 p0 pf hownW hpoW hfrW hrow
    have hno := own_ne hownq hpoq (by decide)
    have hpoV : po < V.heap.size := (gis hpoq).1
    go_wp2_with (at_builtin; go_loud (refine wpList_append_rd (by rfl) (.tmp 68) (.tmp 70) 99 (by rfl) B 236 i0 _ 4 32 Tryz.underlying99 hi0 hz0 hz1 hz2 rfl (by omega) _ 0 (flat Pc.cc []) (by rfl) (hownq.alloc _) (V.heap.size + 1) (some ⟨V.heap.size, 0, none⟩) 1 1 [.int .i64 a, .int .i64 b, .int .i64 s, .int .i64 r] (by rfl) (Rd.built (heap_alloc_new V _) (by omega) rfl) (by intro u hu; simp at hu; rcases hu with rfl | rfl | rfl | rfl <;> rfl) (by unfold maxLen; omega) (by omega) (by simp; omega) ?_); intro v4 w4 hown4 hg4 hat4
                 obtain ⟨A4, c4, rfl, hnc4, hcm4, hA4⟩ := own_form hown4
                 have hpo4 := (hg4.block po (by simp; omega) (fun e => hno e.symm)).trans ((Below.heap_alloc _ _ _ (by omega)).trans hpoq)
                 have d4 : w4.cell? ⟨po, 0, none⟩ = some (.slice A 0 c) := by rw [cell_of_row w4 po 0 _ _ _ hpo4]; rfl
                 have f4 := frozen_of_row w4 po 0 _ _ hpo4)
    have hfr4 : Fr K po V w4 := ⟨((Below.refl po V).alloc (by omega) _).grown hg4 (by simp; omega) (fun g e => by have := (hownq.lt g e).1; omega), fun k h1 h2 => (hg4.block k (by have := HKL.out k h2; simp; omega) (fun e => HKO.out k h2 e.symm)).trans (Below.heap_alloc _ _ _ (by have := HKL.out k h2; omega))⟩
    have hno4 := own_ne hown4 hpo4 (by decide)
    go_end0
    refine ⟨rfl, ?_, (hfrq.trans hfr4).setPo 0 _⟩
    rw [HR2.out]
    refine ⟨A4, c4, ?_, ?_⟩
    ·rw [show ([(⟨a, b, [s, r]⟩ : Pc)] : List Pc).length = 0 + 1 from rfl]
     exact heap_setCell_same w4 po 0 _ _ (.slice A4 (0 + 1) c4) hpo4
    ·rw [show ([(⟨a, b, [s, r]⟩ : Pc)] : List Pc).length = 0 + 1 from rfl, show flat Pc.cc [(⟨a, b, [s, r]⟩ : Pc)] = flat Pc.cc [] ++ [.int .i64 a, .int .i64 b, .int .i64 s, .int .i64 r] from rfl]
     exact ownsRow_setCell_ne (p := ⟨po, 0, none⟩) hown4 hno4 _
   ·rw [List.concat_eq_append] at *
    obtain ⟨s', r', hqm⟩ := H2.out q (by simp)
    have hN1 : (O' ++ [q]).length = O'.length + 1 := by simp
    obtain ⟨_, _, hvf, hNc, _, hA0⟩ := own_form hownW
    injection hvf with hvA _ hvc
    subst hvA hvc
    obtain ⟨g2, rfl, hg2⟩ := hA0 (by omega)
    have hq0 : (O' ++ [q])[O'.length]? = some q := by simp
    have hlt2 := (hownW.lt g2 rfl)
    have hg2w : g2 < w1.heap.size := HGL.out g2 rfl
    have c0 := ccell hownW hq0 0 (.int .i64 q.f) rfl
    have c1 := ccell hownW hq0 1 (.int .i64 q.t) rfl
    have c2' : W.cell? ⟨g2, O'.length * 4 + 2, none⟩ = some (.int .i64 s') := by have := ccell hownW hq0 2 _ rfl; rw [hqm] at this; exact this
    have c3' : W.cell? ⟨g2, O'.length * 4 + 3, none⟩ = some (.int .i64 r') := by have := ccell hownW hq0 3 _ rfl; rw [hqm] at this; exact this
    rw [Nat.add_zero] at c0
    have hXN : O'.length = (O' ++ [q]).length - 1 := by omega
    rw [hXN] at c0 c1 c2' c3'
    have HRA : Hid (resA C (O' ++ [q]) a b = if q.t = a /\ q.m = [s, r] then O' ++ [⟨q.f, b, [s, r]⟩] else O' ++ [q, ⟨a, b, [s, r]⟩]) := Lib.hid (by rw [HRES.out, addP_snoc, if_neg (by simp)])
    have hcut : W.ownsRow B 236 4 (.slice (some ⟨g2, 0, none⟩) O'.length c) O'.length (flat Pc.cc O') := by
     have h1 := hownW
     rw [hN1, flat_append] at h1
     exact own_cut h1 (cc_flen O')
    rw [hXN] at hcut
    have HCUT := Lib.hid hcut
    have hlc : ∀ p : Pc, (O' ++ [p]).length = ((O' ++ [q]).length - 1) + 1 := fun p => by simp
    have hfc : ∀ p : Pc, flat Pc.cc (O' ++ [p]) = flat Pc.cc O' ++ p.cc := fun p => by rw [flat_append, flat_one]
    have hln : (O' ++ [q, (⟨a, b, [s, r]⟩ : Pc)]).length = (O' ++ [q]).length + 1 := by simp
    have hfl : flat Pc.cc (O' ++ [q, (⟨a, b, [s, r]⟩ : Pc)]) = flat Pc.cc (O' ++ [q]) ++ [.int .i64 a, .int .i64 b, .int .i64 s, .int .i64 r] := by rw [show O' ++ [q, (⟨a, b, [s, r]⟩ : Pc)] = (O' ++ [q]) ++ [⟨a, b, [s, r]⟩] by simp, flat_append _ [_], flat_one]; rfl
    have HLC := Lib.hid hlc
    have hlc2 : ∀ p : Pc, (O' ++ [p]).length = (O' ++ [q]).length := fun p => by simp
    have HLC2 := Lib.hid hlc2
    clear hlc2
    have HFC := Lib.hid hfc
    have HLN := Lib.hid hln
    have HFL := Lib.hid hfl
    have HQM := Lib.hid hqm
    clear hXN hcut hlc hfc hln hfl hqm HRES H2 hq0 hA0
    generalize hN : (O' ++ [q]).length = N at *
    generalize hF : flat Pc.cc (O' ++ [q]) = F at *
    clear hN hF
    have hN0 : 0 < N := by omega
    have hN0' : (0 : Int) < (N : Int) := by omega
    have hN0'' : (1 : Int) <= (N : Int) := by omega
    have hN01 : 1 <= N := by omega
    have hx3 : 0 <= (N : Int) - 1 := by omega
    have hx4 : (N : Int) - 1 < (N : Int) := by omega
    have hx5 : (N : Int) - 1 <= (N : Int) := by omega
    have hx6 : ((N : Int) - 1).toNat = N - 1 := by omega
    have HX6 := Lib.hid hx6
    clear hx6 hN1
    have hwN : IntKind.i64.wrap ((N : Int) - 1) = (N : Int) - 1 := IntWalk.i64_in _ (by omega)
    by_cases hta : q.t = a
    ·by_cases hsm : s' = s /\ r' = r
     ·obtain ⟨hs1, hr1⟩ := hsm
      rw [hs1] at c2'
      rw [hr1] at c3'
      rw [hta] at c1
      have HR2 : Hid (resA C (O' ++ [q]) a b = O' ++ [⟨q.f, b, [s, r]⟩]) := Lib.hid (by rw [HRA.out, if_pos ⟨hta, HQM.out.trans (by rw [hs1, hr1])⟩])
      clear HRA hta hs1 hr1
      go_wp2_with fail
      go_quiet (fail)
      have hownq : (W.drewN nq).ownsRow B 236 4 (.slice (some ⟨g2, 0, none⟩) N c) N F := hownW
      have hpoq : (W.drewN nq).heap[po]? = some (.cells #[.slice (some ⟨g2, 0, none⟩) N c] 99 (0, 0)) := hpoW
      have hfrq : Fr K po w (W.drewN nq) := hfrW.trans (Fr.ofBelow (below_drewN (Below.refl W.heap.size W) nq) (fun k hk => by have := HKL.out k hk; omega) (by omega))
      have hrowq : (W.drewN nq).heap[w1.heap.size]? = some (.cells #[.int .i64 a, .int .i64 b, .int .i64 s, .int .i64 r] 236 (0, 0)) := hrow
      have c0s : (W.drewN nq).cell? ⟨g2, (N - 1) * 4, none⟩ = some (.int .i64 q.f) := c0
      obtain ⟨V, hV⟩ : ∃ V, V = W.drewN nq := ⟨_, rfl⟩
      have hVW := hV
      rw [<- hV] at hownq hpoq hfrq hrowq ⊢
      clear hV x0 x1 x2 x3 p0 pf hownW hpoW hfrW hrow c0 c1 c2' c3'
      have hpoV : po < V.heap.size := (gis hpoq).1
      have hbxV : w1.heap.size < V.heap.size := (gis hrowq).1
      have p0 : V.cell? ⟨po, 0, none⟩ = some (.slice (some ⟨g2, 0, none⟩) N c) := by rw [cell_of_row V po 0 _ _ _ hpoq]; rfl
      have x0 : V.cell? ⟨w1.heap.size, 0, none⟩ = some (.int .i64 a) := by rw [cell_of_row V _ 0 _ _ _ hrowq]; rfl
      have x1 : V.cell? ⟨w1.heap.size, 1, none⟩ = some (.int .i64 b) := by rw [cell_of_row V _ 1 _ _ _ hrowq]; rfl
      have x2 : V.cell? ⟨w1.heap.size, 2, none⟩ = some (.int .i64 s) := by rw [cell_of_row V _ 2 _ _ _ hrowq]; rfl
      have x3 : V.cell? ⟨w1.heap.size, 3, none⟩ = some (.int .i64 r) := by rw [cell_of_row V _ 3 _ _ _ hrowq]; rfl
      have hcutq : V.ownsRow B 236 4 (.slice (some ⟨g2, 0, none⟩) (N - 1) c) (N - 1) (flat Pc.cc O') := by rw [hVW]; exact HCUT.out
      have e0 : V.cell? ⟨g2, (N - 1) * 4, none⟩ = some (.int .i64 q.f) := by rw [hVW]; exact c0s
      clear hVW c0s
      have hg2V : g2 ≠ w1.heap.size := by omega
      have xf := frozen_of_row V w1.heap.size 0 _ _ hrowq
      go_upto_region 6 with (fail)
      have hrow1 : (V.setCell ⟨w1.heap.size, 0, none⟩ (.int .i64 q.f)).heap[w1.heap.size]? = some (.cells #[.int .i64 q.f, .int .i64 b, .int .i64 s, .int .i64 r] 236 (0, 0)) := heap_setCell_same V w1.heap.size 0 _ _ (.int .i64 q.f) hrowq
      have hpo1' : (V.setCell ⟨w1.heap.size, 0, none⟩ (.int .i64 q.f)).heap[po]? = some (.cells #[.slice (some ⟨g2, 0, none⟩) N c] 99 (0, 0)) := (heap_setCell_other V ⟨w1.heap.size, 0, none⟩ po _ (by show po ≠ w1.heap.size; omega)).trans hpoq
      have hown1' := ownsRow_setCell_ne (p := ⟨w1.heap.size, 0, none⟩) hcutq (by simp [Value.ownBlock]; omega) (.int .i64 q.f)
      have hfr1' : Fr K po w (V.setCell ⟨w1.heap.size, 0, none⟩ (.int .i64 q.f)) := hfrq.trans ⟨(Below.refl _ _).setCell (p := ⟨w1.heap.size, 0, none⟩) (by show po <= w1.heap.size; omega) _, fun k h1 h2 => heap_setCell_other V ⟨w1.heap.size, 0, none⟩ k _ (by show k ≠ w1.heap.size; have := HKL.out k h2; omega)⟩
      obtain ⟨V1, hV1⟩ : ∃ W, W = V.setCell ⟨w1.heap.size, 0, none⟩ (.int .i64 q.f) := ⟨_, rfl⟩
      rw [<- hV1] at hrow1 hpo1' hown1' hfr1' ⊢
      clear hV1 p0 x0 x1 x2 x3 e0 xf hrowq hpoq hownq hfrq hcutq hpoV hbxV
      have p0 : V1.cell? ⟨po, 0, none⟩ = some (.slice (some ⟨g2, 0, none⟩) N c) := by rw [cell_of_row V1 po 0 _ _ _ hpo1']; rfl
      have pf := frozen_of_row V1 po 0 _ _ hpo1'
      go_upto_region 7 with (fail)
      have hno1 := own_ne hown1' hpo1' (by decide)
      have hpo2' : (V1.setCell ⟨po, 0, none⟩ (.slice (some ⟨g2, 0, none⟩) (N - 1) c)).heap[po]? = some (.cells #[.slice (some ⟨g2, 0, none⟩) (N - 1) c] 99 (0, 0)) := heap_setCell_same V1 po 0 _ _ _ hpo1'
      have hrow2 : (V1.setCell ⟨po, 0, none⟩ (.slice (some ⟨g2, 0, none⟩) (N - 1) c)).heap[w1.heap.size]? = some (.cells #[.int .i64 q.f, .int .i64 b, .int .i64 s, .int .i64 r] 236 (0, 0)) := (heap_setCell_other V1 ⟨po, 0, none⟩ w1.heap.size _ (by show w1.heap.size ≠ po; omega)).trans hrow1
      have hown2' := ownsRow_setCell_ne (p := ⟨po, 0, none⟩) hown1' hno1 (.slice (some ⟨g2, 0, none⟩) (N - 1) c)
      have hfr2' := hfr1'.setPo 0 (.slice (some ⟨g2, 0, none⟩) (N - 1) c)
      obtain ⟨V2, hV2⟩ : ∃ W, W = V1.setCell ⟨po, 0, none⟩ (.slice (some ⟨g2, 0, none⟩) (N - 1) c) := ⟨_, rfl⟩
      rw [<- hV2] at hpo2' hrow2 hown2' hfr2' ⊢
      clear hV2 p0 pf hno1 hrow1 hpo1' hown1' hfr1'
      have hpoV : po < V2.heap.size := (gis hpo2').1
      have hbxV : w1.heap.size < V2.heap.size := (gis hrow2).1
      have p0 : V2.cell? ⟨po, 0, none⟩ = some (.slice (some ⟨g2, 0, none⟩) (N - 1) c) := by rw [cell_of_row V2 po 0 _ _ _ hpo2']; rfl
      have x0 : V2.cell? ⟨w1.heap.size, 0, none⟩ = some (.int .i64 q.f) := by rw [cell_of_row V2 _ 0 _ _ _ hrow2]; rfl
      have x1 : V2.cell? ⟨w1.heap.size, 1, none⟩ = some (.int .i64 b) := by rw [cell_of_row V2 _ 1 _ _ _ hrow2]; rfl
      have x2 : V2.cell? ⟨w1.heap.size, 2, none⟩ = some (.int .i64 s) := by rw [cell_of_row V2 _ 2 _ _ _ hrow2]; rfl
      have x3 : V2.cell? ⟨w1.heap.size, 3, none⟩ = some (.int .i64 r) := by rw [cell_of_row V2 _ 3 _ _ _ hrow2]; rfl
      have hno := own_ne hown2' hpo2' (by decide)
      clear hwN
      go_wp2_with (at_builtin; go_loud (refine wpList_append_rd (by rfl) (.tmp 68) (.tmp 70) 99 (by rfl) B 236 i0 _ 4 32 Tryz.underlying99 hi0 hz0 hz1 hz2 rfl (by omega) _ (N - 1) (flat Pc.cc O') (by rfl) (hown2'.alloc _) (V2.heap.size + 1) (some ⟨V2.heap.size, 0, none⟩) 1 1 [.int .i64 q.f, .int .i64 b, .int .i64 s, .int .i64 r] (by rfl) (Rd.built (heap_alloc_new V2 _) (by omega) rfl) (by intro u hu; simp at hu; rcases hu with rfl | rfl | rfl | rfl <;> rfl) (by unfold maxLen; omega) (by omega) (by simp; omega) ?_); intro v4 w4 hown4 hg4 hat4
                   obtain ⟨A4, c4, rfl, hnc4, hcm4, hA4⟩ := own_form hown4
                   have hpo4 := (hg4.block po (by simp; omega) (fun e => hno e.symm)).trans ((Below.heap_alloc _ _ _ (by omega)).trans hpo2')
                   have d4 : w4.cell? ⟨po, 0, none⟩ = some (.slice (some ⟨g2, 0, none⟩) (N - 1) c) := by rw [cell_of_row w4 po 0 _ _ _ hpo4]; rfl
                   have f4 := frozen_of_row w4 po 0 _ _ hpo4)
      have hfr4 : Fr K po V2 w4 := ⟨((Below.refl po V2).alloc (by omega) _).grown hg4 (by simp; omega) (fun g e => by have := (hown2'.lt g e).1; omega), fun k h1 h2 => (hg4.block k (by have := HKL.out k h2; simp; omega) (fun e => HKO.out k h2 e.symm)).trans (Below.heap_alloc _ _ _ (by have := HKL.out k h2; omega))⟩
      have hno4 := own_ne hown4 hpo4 (by decide)
      rw [Nat.sub_add_cancel hN01] at hown4 hno4
      go_end0
      refine ⟨rfl, ?_, (hfr2'.trans hfr4).setPo 0 _⟩
      first | rw [HR2.out] | rw [List.concat_eq_append, HR2.out]
      refine ⟨A4, c4, ?_, ?_⟩
      ·rw [HLC2.out _]
       exact heap_setCell_same w4 po 0 _ _ (.slice A4 N c4) hpo4
      ·rw [HLC2.out _, HFC.out _]
       exact ownsRow_setCell_ne (p := ⟨po, 0, none⟩) hown4 hno4 _
     ·have HR2 : Hid (resA C (O' ++ [q]) a b = O' ++ [q, ⟨a, b, [s, r]⟩]) := Lib.hid (by rw [HRA.out, if_neg (fun e => hsm (by have := HQM.out.symm.trans e.2; simpa using this))])
      have hb12 : ((s' == s) && (r' == r)) = false := by
       rw [Bool.eq_false_iff]
       intro e
       simp at e
       exact hsm e
      rw [hta] at c1
      clear HRA hta hsm
      by_cases hs1 : s' = s
      ·have hr1 : (r' == r) = false := by rw [show (s' == s) = true from beq_iff_eq.2 hs1, Bool.true_and] at hb12; exact hb12
       rw [hs1] at c2'
       clear hb12 hs1
       go_wp2_with fail
       go_quiet (fail)
       have hownq : (W.drewN nq).ownsRow B 236 4 (.slice (some ⟨g2, 0, none⟩) N c) N F := hownW
       have hpoq : (W.drewN nq).heap[po]? = some (.cells #[.slice (some ⟨g2, 0, none⟩) N c] 99 (0, 0)) := hpoW
       have hfrq : Fr K po w (W.drewN nq) := hfrW.trans (Fr.ofBelow (below_drewN (Below.refl W.heap.size W) nq) (fun k hk => by have := HKL.out k hk; omega) (by omega))
       have hrowq : (W.drewN nq).heap[w1.heap.size]? = some (.cells #[.int .i64 a, .int .i64 b, .int .i64 s, .int .i64 r] 236 (0, 0)) := hrow
       have c0s : (W.drewN nq).cell? ⟨g2, (N - 1) * 4, none⟩ = some (.int .i64 q.f) := c0
       obtain ⟨V, hV⟩ : ∃ V, V = W.drewN nq := ⟨_, rfl⟩
       have hVW := hV
       rw [<- hV] at hownq hpoq hfrq hrowq ⊢
       clear hV x0 x1 x2 x3 p0 pf hownW hpoW hfrW hrow c0 c1 c2' c3'
       have hpoV : po < V.heap.size := (gis hpoq).1
       have hbxV : w1.heap.size < V.heap.size := (gis hrowq).1
       have p0 : V.cell? ⟨po, 0, none⟩ = some (.slice (some ⟨g2, 0, none⟩) N c) := by rw [cell_of_row V po 0 _ _ _ hpoq]; rfl
       have x0 : V.cell? ⟨w1.heap.size, 0, none⟩ = some (.int .i64 a) := by rw [cell_of_row V _ 0 _ _ _ hrowq]; rfl
       have x1 : V.cell? ⟨w1.heap.size, 1, none⟩ = some (.int .i64 b) := by rw [cell_of_row V _ 1 _ _ _ hrowq]; rfl
       have x2 : V.cell? ⟨w1.heap.size, 2, none⟩ = some (.int .i64 s) := by rw [cell_of_row V _ 2 _ _ _ hrowq]; rfl
       have x3 : V.cell? ⟨w1.heap.size, 3, none⟩ = some (.int .i64 r) := by rw [cell_of_row V _ 3 _ _ _ hrowq]; rfl
       clear hVW c0s
       have hno := own_ne hownq hpoq (by decide)
       clear hwN
       go_wp2_with (at_builtin; go_loud (refine wpList_append_rd (by rfl) (.tmp 68) (.tmp 70) 99 (by rfl) B 236 i0 _ 4 32 Tryz.underlying99 hi0 hz0 hz1 hz2 rfl (by omega) _ N F (by rfl) (hownq.alloc _) (V.heap.size + 1) (some ⟨V.heap.size, 0, none⟩) 1 1 [.int .i64 a, .int .i64 b, .int .i64 s, .int .i64 r] (by rfl) (Rd.built (heap_alloc_new V _) (by omega) rfl) (by intro u hu; simp at hu; rcases hu with rfl | rfl | rfl | rfl <;> rfl) (by unfold maxLen; omega) (by omega) (by simp; omega) ?_); intro v4 w4 hown4 hg4 hat4
                    obtain ⟨A4, c4, rfl, hnc4, hcm4, hA4⟩ := own_form hown4
                    have hpo4 := (hg4.block po (by simp; omega) (fun e => hno e.symm)).trans ((Below.heap_alloc _ _ _ (by omega)).trans hpoq)
                    have d4 : w4.cell? ⟨po, 0, none⟩ = some (.slice (some ⟨g2, 0, none⟩) N c) := by rw [cell_of_row w4 po 0 _ _ _ hpo4]; rfl
                    have f4 := frozen_of_row w4 po 0 _ _ hpo4)
       have hfr4 : Fr K po V w4 := ⟨((Below.refl po V).alloc (by omega) _).grown hg4 (by simp; omega) (fun g e => by have := (hownq.lt g e).1; omega), fun k h1 h2 => (hg4.block k (by have := HKL.out k h2; simp; omega) (fun e => HKO.out k h2 e.symm)).trans (Below.heap_alloc _ _ _ (by have := HKL.out k h2; omega))⟩
       have hno4 := own_ne hown4 hpo4 (by decide)
       go_end0
       refine ⟨rfl, ?_, (hfrq.trans hfr4).setPo 0 _⟩
       first | rw [HR2.out] | rw [List.concat_eq_append, HR2.out]
       refine ⟨A4, c4, ?_, ?_⟩
       ·rw [HLN.out]
        exact heap_setCell_same w4 po 0 _ _ (.slice A4 (N + 1) c4) hpo4
       ·rw [HLN.out, HFL.out]
        exact ownsRow_setCell_ne (p := ⟨po, 0, none⟩) hown4 hno4 _
      ·have hs2 : (s' == s) = false := beq_eq_false_iff_ne.2 hs1
       clear hb12 hs1
       go_wp2_with fail
       go_quiet (fail)
       have hownq : (W.drewN nq).ownsRow B 236 4 (.slice (some ⟨g2, 0, none⟩) N c) N F := hownW
       have hpoq : (W.drewN nq).heap[po]? = some (.cells #[.slice (some ⟨g2, 0, none⟩) N c] 99 (0, 0)) := hpoW
       have hfrq : Fr K po w (W.drewN nq) := hfrW.trans (Fr.ofBelow (below_drewN (Below.refl W.heap.size W) nq) (fun k hk => by have := HKL.out k hk; omega) (by omega))
       have hrowq : (W.drewN nq).heap[w1.heap.size]? = some (.cells #[.int .i64 a, .int .i64 b, .int .i64 s, .int .i64 r] 236 (0, 0)) := hrow
       have c0s : (W.drewN nq).cell? ⟨g2, (N - 1) * 4, none⟩ = some (.int .i64 q.f) := c0
       obtain ⟨V, hV⟩ : ∃ V, V = W.drewN nq := ⟨_, rfl⟩
       have hVW := hV
       rw [<- hV] at hownq hpoq hfrq hrowq ⊢
       clear hV x0 x1 x2 x3 p0 pf hownW hpoW hfrW hrow c0 c1 c2' c3'
       have hpoV : po < V.heap.size := (gis hpoq).1
       have hbxV : w1.heap.size < V.heap.size := (gis hrowq).1
       have p0 : V.cell? ⟨po, 0, none⟩ = some (.slice (some ⟨g2, 0, none⟩) N c) := by rw [cell_of_row V po 0 _ _ _ hpoq]; rfl
       have x0 : V.cell? ⟨w1.heap.size, 0, none⟩ = some (.int .i64 a) := by rw [cell_of_row V _ 0 _ _ _ hrowq]; rfl
       have x1 : V.cell? ⟨w1.heap.size, 1, none⟩ = some (.int .i64 b) := by rw [cell_of_row V _ 1 _ _ _ hrowq]; rfl
       have x2 : V.cell? ⟨w1.heap.size, 2, none⟩ = some (.int .i64 s) := by rw [cell_of_row V _ 2 _ _ _ hrowq]; rfl
       have x3 : V.cell? ⟨w1.heap.size, 3, none⟩ = some (.int .i64 r) := by rw [cell_of_row V _ 3 _ _ _ hrowq]; rfl
       clear hVW c0s
       have hno := own_ne hownq hpoq (by decide)
       clear hwN
       go_wp2_with (at_builtin; go_loud (refine wpList_append_rd (by rfl) (.tmp 68) (.tmp 70) 99 (by rfl) B 236 i0 _ 4 32 Tryz.underlying99 hi0 hz0 hz1 hz2 rfl (by omega) _ N F (by rfl) (hownq.alloc _) (V.heap.size + 1) (some ⟨V.heap.size, 0, none⟩) 1 1 [.int .i64 a, .int .i64 b, .int .i64 s, .int .i64 r] (by rfl) (Rd.built (heap_alloc_new V _) (by omega) rfl) (by intro u hu; simp at hu; rcases hu with rfl | rfl | rfl | rfl <;> rfl) (by unfold maxLen; omega) (by omega) (by simp; omega) ?_); intro v4 w4 hown4 hg4 hat4
                    obtain ⟨A4, c4, rfl, hnc4, hcm4, hA4⟩ := own_form hown4
                    have hpo4 := (hg4.block po (by simp; omega) (fun e => hno e.symm)).trans ((Below.heap_alloc _ _ _ (by omega)).trans hpoq)
                    have d4 : w4.cell? ⟨po, 0, none⟩ = some (.slice (some ⟨g2, 0, none⟩) N c) := by rw [cell_of_row w4 po 0 _ _ _ hpo4]; rfl
                    have f4 := frozen_of_row w4 po 0 _ _ hpo4)
       have hfr4 : Fr K po V w4 := ⟨((Below.refl po V).alloc (by omega) _).grown hg4 (by simp; omega) (fun g e => by have := (hownq.lt g e).1; omega), fun k h1 h2 => (hg4.block k (by have := HKL.out k h2; simp; omega) (fun e => HKO.out k h2 e.symm)).trans (Below.heap_alloc _ _ _ (by have := HKL.out k h2; omega))⟩
       have hno4 := own_ne hown4 hpo4 (by decide)
       go_end0
       refine ⟨rfl, ?_, (hfrq.trans hfr4).setPo 0 _⟩
       first | rw [HR2.out] | rw [List.concat_eq_append, HR2.out]
       refine ⟨A4, c4, ?_, ?_⟩
       ·rw [HLN.out]
        exact heap_setCell_same w4 po 0 _ _ (.slice A4 (N + 1) c4) hpo4
       ·rw [HLN.out, HFL.out]
        exact ownsRow_setCell_ne (p := ⟨po, 0, none⟩) hown4 hno4 _
    ·have HR2 : Hid (resA C (O' ++ [q]) a b = O' ++ [q, ⟨a, b, [s, r]⟩]) := Lib.hid (by rw [HRA.out, if_neg (fun e => hta e.1)])
     have hta2 : (q.t == a) = false := beq_eq_false_iff_ne.2 hta
     clear HRA hta
     go_wp2_with fail
     go_quiet (fail)
     have hownq : (W.drewN nq).ownsRow B 236 4 (.slice (some ⟨g2, 0, none⟩) N c) N F := hownW
     have hpoq : (W.drewN nq).heap[po]? = some (.cells #[.slice (some ⟨g2, 0, none⟩) N c] 99 (0, 0)) := hpoW
     have hfrq : Fr K po w (W.drewN nq) := hfrW.trans (Fr.ofBelow (below_drewN (Below.refl W.heap.size W) nq) (fun k hk => by have := HKL.out k hk; omega) (by omega))
     have hrowq : (W.drewN nq).heap[w1.heap.size]? = some (.cells #[.int .i64 a, .int .i64 b, .int .i64 s, .int .i64 r] 236 (0, 0)) := hrow
     have c0s : (W.drewN nq).cell? ⟨g2, (N - 1) * 4, none⟩ = some (.int .i64 q.f) := c0
     obtain ⟨V, hV⟩ : ∃ V, V = W.drewN nq := ⟨_, rfl⟩
     have hVW := hV
     rw [<- hV] at hownq hpoq hfrq hrowq ⊢
     clear hV x0 x1 x2 x3 p0 pf hownW hpoW hfrW hrow c0 c1 c2' c3'
     have hpoV : po < V.heap.size := (gis hpoq).1
     have hbxV : w1.heap.size < V.heap.size := (gis hrowq).1
     have p0 : V.cell? ⟨po, 0, none⟩ = some (.slice (some ⟨g2, 0, none⟩) N c) := by rw [cell_of_row V po 0 _ _ _ hpoq]; rfl
     have x0 : V.cell? ⟨w1.heap.size, 0, none⟩ = some (.int .i64 a) := by rw [cell_of_row V _ 0 _ _ _ hrowq]; rfl
     have x1 : V.cell? ⟨w1.heap.size, 1, none⟩ = some (.int .i64 b) := by rw [cell_of_row V _ 1 _ _ _ hrowq]; rfl
     have x2 : V.cell? ⟨w1.heap.size, 2, none⟩ = some (.int .i64 s) := by rw [cell_of_row V _ 2 _ _ _ hrowq]; rfl
     have x3 : V.cell? ⟨w1.heap.size, 3, none⟩ = some (.int .i64 r) := by rw [cell_of_row V _ 3 _ _ _ hrowq]; rfl
     clear hVW c0s
     have hno := own_ne hownq hpoq (by decide)
     clear hwN
     go_wp2_with (at_builtin; go_loud (refine wpList_append_rd (by rfl) (.tmp 68) (.tmp 70) 99 (by rfl) B 236 i0 _ 4 32 Tryz.underlying99 hi0 hz0 hz1 hz2 rfl (by omega) _ N F (by rfl) (hownq.alloc _) (V.heap.size + 1) (some ⟨V.heap.size, 0, none⟩) 1 1 [.int .i64 a, .int .i64 b, .int .i64 s, .int .i64 r] (by rfl) (Rd.built (heap_alloc_new V _) (by omega) rfl) (by intro u hu; simp at hu; rcases hu with rfl | rfl | rfl | rfl <;> rfl) (by unfold maxLen; omega) (by omega) (by simp; omega) ?_); intro v4 w4 hown4 hg4 hat4
                  obtain ⟨A4, c4, rfl, hnc4, hcm4, hA4⟩ := own_form hown4
                  have hpo4 := (hg4.block po (by simp; omega) (fun e => hno e.symm)).trans ((Below.heap_alloc _ _ _ (by omega)).trans hpoq)
                  have d4 : w4.cell? ⟨po, 0, none⟩ = some (.slice (some ⟨g2, 0, none⟩) N c) := by rw [cell_of_row w4 po 0 _ _ _ hpo4]; rfl
                  have f4 := frozen_of_row w4 po 0 _ _ hpo4)
     have hfr4 : Fr K po V w4 := ⟨((Below.refl po V).alloc (by omega) _).grown hg4 (by simp; omega) (fun g e => by have := (hownq.lt g e).1; omega), fun k h1 h2 => (hg4.block k (by have := HKL.out k h2; simp; omega) (fun e => HKO.out k h2 e.symm)).trans (Below.heap_alloc _ _ _ (by have := HKL.out k h2; omega))⟩
     have hno4 := own_ne hown4 hpo4 (by decide)
     go_end0
     refine ⟨rfl, ?_, (hfrq.trans hfr4).setPo 0 _⟩
     first | rw [HR2.out] | rw [List.concat_eq_append, HR2.out]
     refine ⟨A4, c4, ?_, ?_⟩
     ·rw [HLN.out]
      exact heap_setCell_same w4 po 0 _ _ (.slice A4 (N + 1) c4) hpo4
     ·rw [HLN.out, HFL.out]
      exact ownsRow_setCell_ne (p := ⟨po, 0, none⟩) hown4 hno4 _
  ·have hres : resA C O a b = O := by unfold resA; rw [if_neg hab]
   have HRES := Lib.hid hres
   clear hres hm
   have hab2 : decide (b <= a) = true := by simp; omega
   go_wp2_with fail
   refine bodyPost_ret (results_none rfl _ _ _) rfl ?_
   exact ⟨rfl, by rw [HRES.out]; exact ⟨A, c, (Below.heap_alloc _ _ _ (by omega)).trans hpo2, hown1.alloc _⟩, hfr1.trans (Fr.ofBelow ((Below.refl w1.heap.size w1).alloc (Nat.le_refl _) _) (fun k hk => Nat.lt_of_lt_of_le (HKL.out k hk) hz1') (by omega))⟩
end
section
theorem two_addP : ∀ (O : List Pc) (a b : Int) (m : List Int), (∀ p ∈ O, Two p) -> (m = [] ∨ ∃ s r, m = [s, r]) -> ∀ p ∈ addP O a b m, Two p
 | [], a, b, m, _, hm, p, hp => by
  unfold addP at hp
  split at hp
  ·simp at hp
  ·rename_i h
   simp at hp
   subst hp
   exact hm.resolve_left h
 | [q], a, b, m, hO, hm, p, hp => by
  unfold addP at hp
  split at hp
  ·exact hO p hp
  ·rename_i h
   split at hp
   ·simp at hp
    subst hp
    exact hm.resolve_left h
   ·simp at hp
    rcases hp with rfl | rfl
    ·exact hO p (by simp)
    ·exact hm.resolve_left h
 | q :: q' :: r, a, b, m, hO, hm, p, hp => by
  rcases List.mem_cons.1 (show p ∈ q :: addP (q' :: r) a b m from hp) with rfl | hp
  ·exact hO p (by simp)
  ·exact two_addP (q' :: r) a b m (fun y hy => hO y (by simp [hy])) hm p hp
theorem two_resA {C : List Pr} {O : List Pc} {a b : Int} (h : ∀ p ∈ O, Two p) : ∀ p ∈ resA C O a b, Two p := by
 unfold resA
 split
 ·exact two_addP O a b _ h ((memC_two C a).imp id fun ⟨s, r, _, e⟩ => ⟨s, r, e⟩)
 ·exact h
theorem resA_length (C : List Pr) (O : List Pc) (a b : Int) : (resA C O a b).length <= O.length + 1 := by
 unfold resA
 split
 ·exact addP_length O a b _
 ·omega
theorem piece_bd {ls : List (List Sp)} {p : Pc} (hp : p ∈ pieces ls) : 0 <= p.f /\ p.f < p.t /\ p.t <= 73049 := by
 obtain ⟨h1, h2⟩ := pieces_main ls
 have hne : ∀ {P : List Pc} {lo : Int} {pm : List Int}, PN lo pm P -> ∀ p ∈ P, p.m ≠ [] /\ p.f < p.t := by
  intro P
  induction P with
  | nil => intro _ _ _ p hp; simp at hp
  | cons a r ih =>
   rintro lo pm ⟨_, _, k3, k4, k5⟩ p hp
   rcases List.mem_cons.1 hp with rfl | hp
   ·exact ⟨k4, k3⟩
   ·exact ih k5 p hp
 obtain ⟨hm, hft⟩ := hne h1 p hp
 have hday : ∀ x, p.f <= x -> x < p.t -> 0 <= x /\ x < 73049 := fun x hx hy => by
  have h3 := valP_mem h1 p hp x hx hy
  rw [h2 x] at h3
  apply Classical.byContradiction
  intro hc
  refine hm ?_
  rw [<- h3]
  refine memI_none _ _ _ fun l _ => ?_
  unfold dset
  rw [show isD x = false by rw [Bool.eq_false_iff]; exact fun e => hc ((isD_iff x).1 e)]
  rfl
 have d1 := hday p.f (Int.le_refl _) hft
 have d2 := hday (p.t - 1) (by omega) (by omega)
 omega
theorem nls_ns {w : World} {base : Nat} {vs : List Value} {ls : List (List Sp)} (h : Nls w base 42 vs ls) (hv : vs.length = 42) (hl : ls.length = 42) : Ns w w.heap.size vs (ls.map fun l => nf (dset l)) := by
 refine ⟨by simp [hv, hl], fun i v l h1 h2 => ?_⟩
 have hi : i < 42 := by rw [<- hv]; exact (List.getElem?_eq_some_iff.1 h1).1
 rw [List.getElem?_map] at h2
 obtain ⟨q, hq, rfl⟩ := Option.map_eq_some_iff.1 h2
 obtain ⟨A, c, rfl, ho⟩ := h i v q hi h1 hq
 exact ⟨A, c, rfl, Rd.ofOwn ho⟩
theorem ao_own {w : World} {B po : Nat} {O : List Pc} (h : Ao w B po O) {A : Option Addr} {c : Nat} (hp : w.heap[po]? = some (.cells #[.slice A O.length c] 99 (0, 0))) : ∀ g, (Value.slice A O.length c).ownBlock = some g -> B <= g /\ g < w.heap.size /\ ∀ cs t fr, w.heap[g]? = some (.cells cs t fr) -> t = 236 := by
 obtain ⟨A', c', h1, h2⟩ := h
 rw [hp] at h1
 injection h1 with h1
 injection h1 with h1 _
 have h3 : Value.slice A O.length c = Value.slice A' O.length c' := by simpa using h1
 rw [h3]
 intro g hg
 refine ⟨(h2.lt g hg).1, (h2.lt g hg).2, fun cs t fr hh => ?_⟩
 apply Classical.byContradiction
 intro hne
 exact own_ne h2 hh (fun e => hne e.symm) hg
theorem Ao.under {w w' : World} {B po : Nat} {O : List Pc} (h : Ao w B po O) (hb : Below w.heap.size w w') : Ao w' B po O := by
 obtain ⟨A, c, h1, h2⟩ := h
 exact ⟨A, c, (hb.block po (gis h1).1).trans h1, own_under h2 hb⟩
theorem Ao.lt {w : World} {B po : Nat} {O : List Pc} (h : Ao w B po O) : po < w.heap.size := by
 obtain ⟨A, c, h1, h2⟩ := h
 exact (gis h1).1
theorem resP_at {C : List Pr} {P : List Pc} {k : Nat} {p : Pc} {O : List Pc} (h : P[k]? = some p) : resP C (P.drop k) O = resP C (P.drop (k + 1)) (resA C (resA C O p.f (p.f + 1)) (p.f + 1) p.t) := by
 obtain ⟨hk, e⟩ := List.getElem?_eq_some_iff.1 h
 rw [List.drop_eq_getElem_cons hk, e]
 rfl
def RetCt (w : World) (C : List Pr) (e : Ending) (w' : World) : Prop :=
 ∃ A c R, e = .returned (.slice A (List.length R) c) /\ Res C R /\ (∀ p ∈ R, Two p) /\ R.length <= 100000 /\ w'.ownsRow w.heap.size 236 4 (.slice A R.length c) R.length (flat Pc.cc R) /\ Below w.heap.size w w'
theorem resolve_any {A : Option Addr} {n c : Nat} {C : List Pr} {w : World} (h : Rd w w.heap.size 4 A n (flat Pr.cells C)) (hn : C.length = n) (hn2 : n <= 60) :
  Calls Tryz.prog 122 #[.slice A n c] w (RetCt w C) := by
 obtain ⟨i0, hi0, hz0, hz1, hz2⟩ := info_parts info_lists
 have HN := Lib.hid hn
 have hCl : C.length <= 60 := by omega
 clear hn
 go_enter Tryz.func122, Tryz.ntmps122
 go_wp2_with fail
 refine (collect_any h HN.out (by omega)).mono ?_
 rintro e w1 ⟨g, rfl, hg, hbd1, hb1⟩
 go_upto_region 2 with (fail)
 have hpb2 := heap_alloc_new w1 (.cells #[.pointer (some ⟨g, 0, none⟩)] 307)
 have hbA : Below w1.heap.size w1 (w1.alloc (.cells #[.pointer (some ⟨g, 0, none⟩)] 307)) := (Below.refl _ _).alloc (Nat.le_refl _) _
 have hpbl : w1.heap.size < (w1.alloc (.cells #[.pointer (some ⟨g, 0, none⟩)] 307)).heap.size := by simp
 obtain ⟨w2, hW2⟩ : ∃ W, W = w1.alloc (.cells #[.pointer (some ⟨g, 0, none⟩)] 307) := ⟨_, rfl⟩
 rw [<- hW2] at hpb2 hbA hpbl ⊢
 clear hW2
 have hbd2 := hbd1.under hbA
 have hb2 := hb1.trans (hbA.mono hb1.size)
 clear hbd1 hbA hb1
 have hz2' := hb2.size
 have hgl := hbd2.lt
 obtain ⟨vs, hgv, hvl, hnl⟩ := hbd2
 have hvone : ∀ u ∈ vs, u.oneCell' = true := fun u hu => by
  obtain ⟨k, hk⟩ := List.mem_iff_getElem?.1 hu
  have hk42 : k < 42 := by rw [<- hvl]; exact (List.getElem?_eq_some_iff.1 hk).1
  obtain ⟨l, hl⟩ : ∃ l, (bdO C)[k]? = some l := ⟨_, List.getElem?_eq_getElem (by rw [bdO_len]; exact hk42)⟩
  obtain ⟨A, c, rfl, _⟩ := hnl k u l hk42 hk hl
  rfl
 have HVO := Lib.hid hvone
 have HVL := Lib.hid hvl
 clear hvone hvl
 go_wp2_with fail
 go_loopw [4, 12] (fun v i wr => ∃ a : Nat, a <= 6 /\ i = .int .i64 (a : Int) /\ wr.ownsRow w2.heap.size 180 1 v (a * 7) (vs.take (a * 7)) /\ Below w2.heap.size w2 wr) (fun _ i _ => 6 - (intOf i).toNat)
 case atStart => exact ⟨0, by omega, rfl, World.ownsRow_nil _ _ _ _, Below.refl _ _⟩
 case round =>
  obtain ⟨a, ha, rfl, hown, hb⟩ := hrel
  have hwsz := hb.size
  obtain ⟨A1, c1, rfl, hnc1, hcm1, hA1⟩ := own_form hown
  by_cases hlt : a < 6
  ·have hlo : (0 : Int) <= (a : Int) := by omega
   have hhi : (a : Int) < 6 := by omega
   have hgr := (hb.block g hgl).trans hgv
   have hpr := (hb.block w1.heap.size hpbl).trans hpb2
   have p0 : wr.cell? ⟨w1.heap.size, 0, none⟩ = some (.pointer (some ⟨g, 0, none⟩)) := by rw [cell_of_row wr _ 0 _ _ _ hpr]; rfl
   have hsrc : Rd wr wr.heap.size 1 (some ⟨g, a * 7, none⟩) 7 ((vs.drop (a * 7)).take 7) := by
    refine ⟨by rw [List.length_take, List.length_drop, HVL.out]; omega, fun _ => ⟨g, a * 7, rfl, by omega, fun j u hu => ?_⟩⟩
    rw [cell_of_row wr g (a * 7 + j) _ _ _ hgr]
    rw [List.getElem?_take] at hu
    split at hu
    ·rw [List.getElem?_drop] at hu
     simpa using hu
    ·cases hu
   have hone7 : ∀ u ∈ (vs.drop (a * 7)).take 7, u.oneCell' = true := fun u hu => HVO.out u (List.mem_of_mem_drop (List.mem_of_mem_take hu))
   have htk : vs.take ((a + 1) * 7) = vs.take (a * 7) ++ (vs.drop (a * 7)).take 7 := by rw [show (a + 1) * 7 = a * 7 + 7 by omega, List.take_add]
   have HTK := Lib.hid htk
   clear htk
   go_wp2_with (at_builtin; go_loud (refine wpList_append_rd (by rfl) (.tmp 15) (.tmp 20) 309 (by rfl) w2.heap.size 180 i0 _ 1 24 Tryz.underlying309 hi0 hz0 hz1 hz2 rfl (by omega) _ (a * 7) (vs.take (a * 7)) (by rfl) hown wr.heap.size (some ⟨g, a * 7, none⟩) 7 7 ((vs.drop (a * 7)).take 7) (by rfl) hsrc hone7 (by unfold maxLen; omega) (by omega) (by omega) ?_); intro v4 w4 hown4 hg4 hat4)
   have hb4 := hb.grown hg4 hwsz (fun g e => (hown.lt g e).1)
   go_roundw
   case rel => exact ⟨a + 1, by omega, by go_num, by rw [HTK.out, show (a + 1) * 7 = a * 7 + 7 by omega]; exact hown4, hb4⟩
   case measure => simp [intOf]; omega
  ·obtain rfl : a = 6 := by omega
   clear ha hlt
   have htk : vs.take (6 * 7) = vs := List.take_of_length_le (by have := HVL.out; omega)
   rw [htk] at hown
   clear htk
   rw [show 6 * 7 = 42 from rfl] at hown ⊢
   have hrdL := Rd.ofOwn hown
   have hnlr : Nls wr w.heap.size 42 vs (bdO C) := fun i v l h1 h2 h3 => by
    obtain ⟨A, c, e, ho⟩ := (hnl.under hb) i v l h1 h2 h3
    exact ⟨A, c, e, ownsRow_base ho (by omega)⟩
   have hbdr : Bd wr w.heap.size g C := ⟨vs, (hb.block g hgl).trans hgv, HVL.out, hnlr⟩
   have hnsL := nls_ns hnlr HVL.out (bdO_len C)
   rw [bdO_bdL] at hnsL
   have hpr := (hb.block w1.heap.size hpbl).trans hpb2
   have hbw := hb2.trans (hb.mono hz2')
   have hzw := hbw.size
   have hlen200 : ∀ l ∈ bdL C, l.length <= 200 := fun l hl => by
    rw [<- bdO_bdL] at hl
    obtain ⟨q, hq, rfl⟩ := List.mem_map.1 hl
    unfold bdO at hq
    obtain ⟨k, _, rfl⟩ := List.mem_map.1 hq
    have h1 := nf_length_le (l := ofL C ((k / 7 : Nat) : Int) (((k % 7 : Nat) : Int) + 1)) rfl
    have h2 := ofL_length C ((k / 7 : Nat) : Int) (((k % 7 : Nat) : Int) + 1)
    omega
   have HL200 := Lib.hid hlen200
   clear hgv hnl hnlr hpb2 hlen200 hown hb2
   go_upto_region 10 with (fail)
   have hpo4 := heap_alloc_new wr (.cells #[.slice none 0 0] 99)
   have hbA : Below wr.heap.size wr (wr.alloc (.cells #[.slice none 0 0] 99)) := (Below.refl _ _).alloc (Nat.le_refl _) _
   have hpol : wr.heap.size < (wr.alloc (.cells #[.slice none 0 0] 99)).heap.size := by simp
   obtain ⟨w4, hW4⟩ : ∃ W, W = wr.alloc (.cells #[.slice none 0 0] 99) := ⟨_, rfl⟩
   rw [<- hW4] at hpo4 hbA hpol ⊢
   clear hW4
   go_wp2_with fail
   refine (pieces_any (ls := bdL C) ((hrdL.below hbA).mono hbA.size) ((hnsL.below hbA).mono hbA.size) HL200.out (by omega)).mono ?_
   rintro e w5 ⟨A5, c5, X, rfl, hX, hpx, hb5⟩
   have hpo5 := (hb5.block wr.heap.size hpol).trans hpo4
   have hb35 : Below wr.heap.size wr w5 := hbA.trans (hb5.mono hbA.size)
   have hXl := congrArg List.length hX
   rw [List.length_map] at hXl
   have hox := hpx.1
   rw [hXl] at hox
   have hnoX := own_ne hox hpo5 (by decide)
   have hP1 := pcs_length (memL (bdL C)) (edgesL (bdL C)) []
   have hP2 := edgesL_length (bdL C) 200 HL200.out
   have hbl : (bdL C).length = 42 := by rw [<- bdO_bdL, List.length_map, bdO_len]
   have hPn : (pieces (bdL C)).length <= 20000 := by
    unfold pieces
    simp at hP1
    omega
   have hbdP : ∀ p ∈ pieces (bdL C), 0 <= p.f /\ p.f < p.t /\ p.t <= 73049 := fun p hp => piece_bd hp
   have hgx : ∀ (q : Nat) (x : Pw), X[q]? = some x -> (pieces (bdL C))[q]? = some x.p := fun q x hx => by rw [<- hX, List.getElem?_map, hx]; rfl
   have hres0 := resP_main C
   have HBP := Lib.hid hbdP
   have HGX := Lib.hid hgx
   have HXL := Lib.hid hXl
   have HR0 := Lib.hid hres0
   have hz5 := hb35.size
   have hpo5l : wr.heap.size < w5.heap.size := (gis hpo5).1
   have hbw5 := hbw.trans (hb35.mono hzw)
   have hpbl3 : w1.heap.size < wr.heap.size := by omega
   clear hP1 hP2 hbl hbdP hgx hX hXl hres0 hpx hbA hb5 hrdL hnsL hpo4 hbw
   generalize hPP : pieces (bdL C) = P at *
   clear hPP
   generalize hNN : P.length = N at *
   have HNP := Lib.hid hNN
   clear hNN
   go_wp2_with fail
   go_loopw [27] (fun i wn => ∃ (k : Nat) (O : List Pc), k <= N /\ i = .int .i64 (k : Int) /\ Ao wn w5.heap.size wr.heap.size O /\ (∀ p ∈ O, Two p) /\ O.length <= 2 * k /\ resP C (P.drop k) O = resP C P [] /\ Fr (fun k => k < w5.heap.size) wr.heap.size w5 wn /\ w5.heap.size <= wn.heap.size) (fun i _ => N - (intOf i).toNat)
   case atStart => exact ⟨0, [], by omega, rfl, ⟨none, 0, hpo5, World.ownsRow_nil _ _ _ _⟩, by simp, by simp, rfl, Fr.refl _ _ _, Nat.le_refl _⟩
   case round =>
    obtain ⟨wo, rfl⟩ : ∃ wo : World, wo = wr := ⟨_, rfl⟩
    obtain ⟨k, O, hk, rfl, hao, htw, hOl, hres, hfr, h5o⟩ := hrel
    have HTW := Lib.hid htw
    clear htw
    by_cases hlk : k < N
    ·have hkx : k < X.length := by rw [HXL.out]; exact hlk
     obtain ⟨x, hx⟩ : ∃ x, X[k]? = some x := ⟨_, List.getElem?_eq_getElem hkx⟩
     have hpk := HGX.out k x hx
     obtain ⟨hf0, hft, ht1⟩ := HBP.out x.p (List.mem_of_getElem? hpk)
     have hoxk := Fr.own hox hfr (fun g e => ⟨(hox.lt g e).2, fun e2 => hnoX (by rw [e, e2])⟩)
     obtain ⟨_, g1, o1, rfl, hg1, x0, x1, x2⟩ := pw_cells (Rd.ofOwn hoxk) hx
     have hwo : Below wr.heap.size wr wo := hb35.trans hfr.1
     have hwoz := hfr.1.size
     rw [resP_at hpk] at hres
     have HRES := Lib.hid hres
     have hpol2 := hao.lt
     have hlo : (0 : Int) <= (k : Int) := by omega
     have hhi : (k : Int) < (N : Int) := by omega
     obtain ⟨px, ax, cx⟩ := x
     obtain ⟨f, t, mm⟩ := px
     simp only at hf0 hft ht1 x0 x1 x2
     have HRS : Hid (resP C (P.drop (k + 1)) (resA C (resA C O f (f + 1)) (f + 1) t) = resP C P []) := HRES.out
     clear hres HRES hx hpk hoxk
     go_upto_region 13 with (fail)
     have hrow := heap_alloc_new wo (.cells #[.int .i64 f, .int .i64 t, .slice ax mm.length cx] 319)
     have hbA : Below wo.heap.size wo (wo.alloc (.cells #[.int .i64 f, .int .i64 t, .slice ax mm.length cx] 319)) := (Below.refl _ _).alloc (Nat.le_refl _) _
     have hVz : wo.heap.size < (wo.alloc (.cells #[.int .i64 f, .int .i64 t, .slice ax mm.length cx] 319)).heap.size := by simp
     obtain ⟨V, hV⟩ : ∃ W, W = wo.alloc (.cells #[.int .i64 f, .int .i64 t, .slice ax mm.length cx] 319) := ⟨_, rfl⟩
     rw [<- hV] at hrow hbA hVz ⊢
     clear hV x0 x1 x2
     have y0 : V.cell? ⟨wo.heap.size, 0, none⟩ = some (.int .i64 f) := by rw [cell_of_row V _ 0 _ _ _ hrow]; rfl
     have y1 : V.cell? ⟨wo.heap.size, 1, none⟩ = some (.int .i64 t) := by rw [cell_of_row V _ 1 _ _ _ hrow]; rfl
     have haoV := hao.under hbA
     have hwV : Below wr.heap.size wr V := hwo.trans (hbA.mono (by omega))
     have hfrV : Fr (fun k => k < w5.heap.size) wr.heap.size w5 V := hfr.trans (Fr.ofBelow hbA (fun k hk => by omega) hpol2)
     have hown1 : ∀ A c, V.heap[wr.heap.size]? = some (.cells #[.slice A O.length c] 99 (0, 0)) -> ∀ k, (k < w5.heap.size ∨ k = wo.heap.size) -> (Value.slice A O.length c).ownBlock ≠ some k := fun A c hp k hk e => by
      rw [hbA.block _ hpol2] at hp
      have := ao_own hao hp k e
      omega
     have HO1 := Lib.hid hown1
     have HTW1 := Lib.hid (two_resA (C := C) (a := f) (b := f + 1) HTW.out)
     have hl1 := resA_length C O f (f + 1)
     have hl2 := resA_length C (resA C O f (f + 1)) (f + 1) t
     have hw1 : IntKind.i64.wrap (f + 1) = f + 1 := IntWalk.i64_in _ (by omega)
     clear hown1 hao hfr hbA hwo
     go_wp2_with fail
     refine (add_any (K := fun k => k < w5.heap.size ∨ k = wo.heap.size) f (f + 1) (hbdr.under hwV) ((hwV.block _ hpbl3).trans hpr) haoV (by omega) hpo5l HTW.out (by omega) (by omega) hf0 (by omega) ⟨by omega, by omega⟩ (fun k hk => by omega) (fun k hk A c hp => HO1.out A c hp k hk)).mono ?_
     rintro e w7 ⟨rfl, hao7, hfr7⟩
     have hw7 := hwV.trans hfr7.1
     have hrow7 := (hfr7.2 wo.heap.size (by omega) (.inr rfl)).trans hrow
     have z0 : w7.cell? ⟨wo.heap.size, 0, none⟩ = some (.int .i64 f) := by rw [cell_of_row w7 _ 0 _ _ _ hrow7]; rfl
     have z1 : w7.cell? ⟨wo.heap.size, 1, none⟩ = some (.int .i64 t) := by rw [cell_of_row w7 _ 1 _ _ _ hrow7]; rfl
     have hbx7 : wo.heap.size < w7.heap.size := (gis hrow7).1
     have hfr57 := hfrV.trans (hfr7.less fun k hk => .inl hk)
     have hown2 : ∀ A c, w7.heap[wr.heap.size]? = some (.cells #[.slice A (resA C O f (f + 1)).length c] 99 (0, 0)) -> ∀ k, (k < w5.heap.size ∨ k = wo.heap.size) -> (Value.slice A (resA C O f (f + 1)).length c).ownBlock ≠ some k := fun A c hp k hk e => by
      have h0 := ao_own hao7 hp k e
      rcases hk with hk | rfl
      ·omega
      ·exact absurd (h0.2.2 _ _ _ hrow7) (by decide)
     have HO2 := Lib.hid hown2
     clear hown2 hrow y0 y1 haoV hfrV hfr7 hwV
     go_wp2_with fail
     refine (add_any (K := fun k => k < w5.heap.size ∨ k = wo.heap.size) (f + 1) t (hbdr.under hw7) ((hw7.block _ hpbl3).trans hpr) hao7 (by omega) hpo5l HTW1.out (by omega) (by omega) (by omega) (by omega) ⟨by omega, by omega⟩ (fun k hk => by omega) (fun k hk A c hp => HO2.out A c hp k hk)).mono ?_
     rintro e w8 ⟨rfl, hao8, hfr8⟩
     have hbx8 : wo.heap.size < w8.heap.size := (gis ((hfr8.2 wo.heap.size (by omega) (.inr rfl)).trans hrow7)).1
     clear hrow7
     have HTW2 := Lib.hid (two_resA (C := C) (a := f + 1) (b := t) HTW1.out)
     go_wp2_with fail
     go_roundw
     case rel => exact ⟨k + 1, _, by omega, by go_num, hao8, HTW2.out, by omega, HRS.out, hfr57.trans (hfr8.less fun k hk => .inl hk), by omega⟩
     case measure => simp [intOf]; omega
    ·have hdr : P.drop k = [] := List.drop_eq_nil_of_le (by have := HNP.out; omega)
     rw [hdr] at hres
     have hO : O = resP C P [] := hres
     have hr0 := HR0.out
     rw [<- hO] at hr0
     have HRR := Lib.hid hr0
     obtain ⟨Ao', co, hpo, howno⟩ := hao
     have p0 : wo.cell? ⟨wr.heap.size, 0, none⟩ = some (.slice Ao' O.length co) := by rw [cell_of_row wo _ 0 _ _ _ hpo]; rfl
     have hbo := hbw5.trans (hfr.1.mono (by omega))
     clear hres hO hr0 hdr
     go_wp2_with fail
     go_ret
     exact ⟨Ao', co, O, rfl, HRR.out, HTW.out, by omega, ownsRow_base howno (by omega), hbo⟩
end
end Go.Proofs.YtnlopdmhdiegnaaGreatDoor
