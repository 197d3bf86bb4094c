/- Resolve of the program: one span of days is added. -/
import Derived.Test.YtkncfhdfobcjeaaOvD
namespace Go.Proofs.Ytkncfhdfobcjeaa
open Go.RowKit

/-- Counted days in memory: a piece whose members are the state and the rank. -/
def Pc.cc (p : Pc) : List Value := [.int .i64 p.f, .int .i64 p.t, .int .i64 (p.m.getD 0 0), .int .i64 (p.m.getD 1 0)]
theorem cc_len (p : Pc) : p.cc.length = 4 := rfl
theorem cc_flen (l : List Pc) : (flat Pc.cc l).length = l.length * 4 := flat_length cc_len l
def Two (p : Pc) : Prop := ∃ s r : Int, p.m = [s, r]
/-- The blocks of K are as before, but for block po; nothing below po has changed. -/
def Fr (K : Nat → Prop) (po : Nat) (w w' : World) : Prop := Below po w w' ∧ ∀ k, k ≠ po → K k → w'.heap[k]? = w.heap[k]?
theorem Fr.refl (K : Nat → Prop) (po : Nat) (w : World) : Fr K po w w := ⟨Below.refl _ _, fun _ _ _ => rfl⟩
theorem Fr.trans {K : Nat → Prop} {po : Nat} {a b c : World} (h : Fr K po a b) (k : Fr K po b c) : Fr K po a c := ⟨h.1.trans k.1, fun i h1 h2 => (k.2 i h1 h2).trans (h.2 i h1 h2)⟩
theorem Fr.less {K K' : Nat → Prop} {po : Nat} {w w' : World} (h : Fr K po w w') (hK : ∀ k, K' k → K k) : Fr K' po w w' := ⟨h.1, fun k h1 h2 => h.2 k h1 (hK k h2)⟩
theorem Fr.ofBelow {K : Nat → Prop} {po : Nat} {w w' : World} (h : Below w.heap.size w w') (hK : ∀ k, K k → k < w.heap.size) (hpo : po < w.heap.size) : Fr K po w w' := ⟨h.mono (Nat.le_of_lt hpo), fun k _ hk => h.block k (hK k hk)⟩
theorem Fr.setPo {K : Nat → Prop} {po : Nat} {a w : World} (h : Fr K po a w) (i : Nat) (u : Value) : Fr K po a (w.setCell ⟨po, i, none⟩ u) := ⟨h.1.setCell (Nat.le_refl _) u, fun k h1 h2 => (heap_setCell_other w ⟨po, i, none⟩ k u h1).trans (h.2 k h1 h2)⟩
theorem Fr.own {K : Nat → Prop} {po : Nat} {w w' : World} {base e sz n : Nat} {v : Value} {xs : List Value} (h : w.ownsRow base e sz v n xs) (hf : Fr K po w w') (hB : ∀ g, v.ownBlock = some g → K g ∧ g ≠ po) : w'.ownsRow base e sz v n xs := by
  refine ⟨h.1, ?_⟩
  rcases h.2 with h0 | ⟨g, cap, cur, rfl, hb, hg, r⟩
  · exact .inl h0
  · obtain ⟨h1, h2⟩ := hB g rfl
    exact .inr ⟨g, cap, cur, rfl, hb, (hf.2 g h2 h1).trans hg, r⟩
/-- The counted days so far lie in a row of their own, behind the variable in block po. -/
def Ao (w : World) (B po : Nat) (O : List Pc) : Prop := ∃ A c, w.heap[po]? = some (.cells #[.slice A O.length c] 44 (0, 0)) ∧ w.ownsRow B 52 4 (.slice A O.length c) O.length (flat Pc.cc O)
theorem memC_two (C : List Pr) (x : Int) : memC C x = [] ∨ ∃ s r, atC C x = some (s, r) ∧ memC C x = [s, r] := by
  unfold memC
  cases h : atC C x with
  | none => exact .inl rfl
  | some p => exact .inr ⟨p.1, p.2, rfl, rfl⟩
theorem ccell {w : World} {base g n c : Nat} {O : List Pc} (h : w.ownsRow base 52 4 (.slice (some ⟨g, 0, none⟩) n c) n (flat Pc.cc O)) {k : Nat} {p : Pc} (hp : O[k]? = some p) (i : Nat) (u : Value) (hu : p.cc[i]? = some u) : w.cell? ⟨g, k * 4 + i, none⟩ = some u := by
  obtain ⟨_, b, o, e, _, hc⟩ := (Rd.ofOwn h).elem cc_len hp (by omega)
  injection e with e
  injection e with e1 e2
  subst e1 e2
  have := hc i u hu
  rwa [Nat.zero_add] at this
/-- A row cut by its last element. -/
theorem own_cut {w : World} {base e sz n c g : Nat} {xs ys : List Value} (h : w.ownsRow base e sz (.slice (some ⟨g, 0, none⟩) (n + 1) c) (n + 1) (xs ++ ys)) (hx : xs.length = n * sz) : w.ownsRow base e sz (.slice (some ⟨g, 0, none⟩) n c) n xs := by
  refine ⟨hx, .inr ?_⟩
  rcases h.2 with ⟨e0, _⟩ | ⟨g', cap, cur, hv, hb, hg, hnc, hcm, hcs, ht⟩
  · cases e0
  · injection hv with h1 _ h3
    injection h1 with h1
    injection h1 with h1
    subst h1 h3
    refine ⟨g, c, cur, rfl, hb, hg, by omega, hcm, hcs, ?_⟩
    have h4 : (cur.toList.take ((n + 1) * sz)).take (n * sz) = xs := by
      rw [ht, List.take_append_of_le_length (by omega), List.take_of_length_le (by omega)]
    rw [List.take_take, Nat.min_eq_left (Nat.mul_le_mul_right sz (by omega))] at h4
    exact h4

set_option maxRecDepth 100000 in
set_option maxHeartbeats 4000000 in
theorem add_any {w : World} {K : Nat → Prop} {B base pb po g : Nat} {C : List Pr} {O : List Pc} (a b : Int) (hbd : Bd w base g C) (hpb : w.heap[pb]? = some (.cells #[.pointer (some ⟨g, 0, none⟩)] 75 (0, 0))) (hao : Ao w B po O) (hB : B ≤ w.heap.size) (hpo : po < B) (h2 : ∀ p ∈ O, Two p) (hO : O.length ≤ 100000)
    (hC : C.length ≤ 100) (ha0 : 0 ≤ a) (ha1 : a ≤ 73049) (hb1 : I64 b) (hKl : ∀ k, K k → k < w.heap.size) (hKo : ∀ k, K k → ∀ A c, w.heap[po]? = some (.cells #[.slice A O.length c] 44 (0, 0)) → (Value.slice A O.length c).ownBlock ≠ some k) :
    Calls Try.prog 55 #[.int .i64 a, .int .i64 b, .pointer (some ⟨pb, 0, none⟩), .pointer (some ⟨po, 0, none⟩)] w fun e w' => e = .returned (.tuple #[]) ∧ Ao w' B po (resA C O a b) ∧ Fr K po w w' := by
  obtain ⟨i0, hi0, hz0, hz1, hz2⟩ := info_parts info_counted
  have q0 : w.cell? ⟨pb, 0, none⟩ = some (.pointer (some ⟨g, 0, none⟩)) := by rw [cell_of_row w pb 0 _ _ _ hpb]; rfl
  obtain ⟨hb1, hb2⟩ := hb1
  have H2 := Lib.hid h2
  clear h2
  go_enter Try.func55, Try.ntmps55
  go_wp2_with fail
  refine (at_any a hbd hC ha0 ha1).mono ?_
  rintro e w1 ⟨rfl, hw1⟩
  obtain ⟨A, c, hpo1, hown⟩ := hao
  have hpol := (Array.getElem?_eq_some_iff.1 hpo1).1
  have hfr1 : Fr K po w w1 := Fr.ofBelow hw1 hKl hpol
  have hko := fun k hk => hKo k hk A c hpo1
  have HKO := Lib.hid hko
  have HKL := Lib.hid hKl
  have hpo2 := (hw1.block po hpol).trans hpo1
  have hown1 := own_under hown hw1
  have hz1' := hw1.size
  clear hpb q0 hbd hown hpo1 hko hKo hKl
  rcases memC_two C a with hm | ⟨s, r, hat, hm⟩
  · have hat : atC C a = none := by
      unfold memC at hm
      cases h : atC C a with
      | none => rfl
      | some p => rw [h] at hm; cases hm
    have hres : resA C O a b = O := by
      unfold resA
      split
      · rw [hm, addP_nil]
      · rfl
    have HRES := Lib.hid hres
    have hv : atV C a = .tuple #[.int .i64 (-1), .int .i64 0, .bool false] := by unfold atV; rw [hat]
    rw [hv]
    clear hv hres hm hat
    go_wp2_with fail
    refine bodyPost_ret (results_none rfl _ _ _) rfl ?_
    exact ⟨rfl, by rw [HRES.out]; exact ⟨A, c, (Below.heap_alloc _ _ _ (by omega)).trans hpo2, hown1.alloc _⟩, hfr1.trans (Fr.ofBelow ((Below.refl w1.heap.size w1).alloc (Nat.le_refl _) _) (fun k hk => Nat.lt_of_lt_of_le (HKL.out k hk) hz1') (by omega))⟩
  · have hv : atV C a = .tuple #[.int .i64 s, .int .i64 r, .bool true] := by unfold atV; rw [hat]
    rw [hv]
    clear hv hat
    by_cases hab : a < b
    · have hres : resA C O a b = addP O a b [s, r] := by unfold resA; rw [if_pos hab, hm]
      have HRES := Lib.hid hres
      clear hres hm
      have hab2 : decide (b ≤ a) = false := by simp; omega
      go_upto_region 3 with (fail)
      have hrow := heap_alloc_new w1 (.cells #[.int .i64 a, .int .i64 b, .int .i64 s, .int .i64 r] 52)
      have hbA : Below w1.heap.size w1 (w1.alloc (.cells #[.int .i64 a, .int .i64 b, .int .i64 s, .int .i64 r] 52)) := (Below.refl _ _).alloc (Nat.le_refl _) _
      obtain ⟨W, hW⟩ : ∃ W, W = w1.alloc (.cells #[.int .i64 a, .int .i64 b, .int .i64 s, .int .i64 r] 52) := ⟨_, rfl⟩
      rw [← hW] at hrow hbA ⊢
      clear hW
      have hownW := own_under hown1 hbA
      have HGL : Hid (∀ g, (Value.slice A O.length c).ownBlock = some g → g < w1.heap.size) := fun g e => (hown1.lt g e).2
      have hpoW := (hbA.block po (by omega)).trans hpo2
      have hfrW := hfr1.trans (Fr.ofBelow hbA (fun k hk => Nat.lt_of_lt_of_le (HKL.out k hk) hz1') (by omega))
      have hzW := hbA.size
      have x0 : W.cell? ⟨w1.heap.size, 0, none⟩ = some (.int .i64 a) := by rw [cell_of_row W _ 0 _ _ _ hrow]; rfl
      have x1 : W.cell? ⟨w1.heap.size, 1, none⟩ = some (.int .i64 b) := by rw [cell_of_row W _ 1 _ _ _ hrow]; rfl
      have x2 : W.cell? ⟨w1.heap.size, 2, none⟩ = some (.int .i64 s) := by rw [cell_of_row W _ 2 _ _ _ hrow]; rfl
      have x3 : W.cell? ⟨w1.heap.size, 3, none⟩ = some (.int .i64 r) := by rw [cell_of_row W _ 3 _ _ _ hrow]; rfl
      have p0 : W.cell? ⟨po, 0, none⟩ = some (.slice A O.length c) := by rw [cell_of_row W po 0 _ _ _ hpoW]; rfl
      have pf := frozen_of_row W po 0 _ _ hpoW
      clear hown1 hpo2 hfr1 hw1
      rcases List.eq_nil_or_concat O with rfl | ⟨O', q, rfl⟩
      · have HR2 : Hid (resA C [] a b = [⟨a, b, [s, r]⟩]) := HRES.out
        go_wp2_with fail
        go_quiet (fail)
        have hownq : (W.drewN nq).ownsRow B 52 4 (.slice A 0 c) 0 [] := hownW
        have hpoq : (W.drewN nq).heap[po]? = some (.cells #[.slice A 0 c] 44 (0, 0)) := hpoW
        have hfrq : Fr K po w (W.drewN nq) := hfrW.trans (Fr.ofBelow (below_drewN (Below.refl W.heap.size W) nq) (fun k hk => by have := HKL.out k hk; omega) (by omega))
        have hzq : w1.heap.size < (W.drewN nq).heap.size := (Array.getElem?_eq_some_iff.1 hrow).1
        have x0' : (W.drewN nq).cell? ⟨w1.heap.size, 0, none⟩ = some (.int .i64 a) := x0
        have x1' : (W.drewN nq).cell? ⟨w1.heap.size, 1, none⟩ = some (.int .i64 b) := x1
        have x2' : (W.drewN nq).cell? ⟨w1.heap.size, 2, none⟩ = some (.int .i64 s) := x2
        have x3' : (W.drewN nq).cell? ⟨w1.heap.size, 3, none⟩ = some (.int .i64 r) := x3
        have p0' : (W.drewN nq).cell? ⟨po, 0, none⟩ = some (.slice A 0 c) := p0
        obtain ⟨V, hV⟩ : ∃ V, V = W.drewN nq := ⟨_, rfl⟩
        rw [← hV] at hownq hpoq hfrq hzq x0' x1' x2' x3' p0' ⊢
        clear hV x0 x1 x2 x3 p0 pf hownW hpoW hfrW hrow
        have hno := own_ne hownq hpoq (by decide)
        have hpoV : po < V.heap.size := (Array.getElem?_eq_some_iff.1 hpoq).1
        go_wp2_with (at_builtin; go_loud (refine wpList_append_rd (by rfl) (.tmp 68) (.tmp 70) 44 (by rfl) B 52 i0 _ 4 32 Try.underlying44 hi0 hz0 hz1 hz2 rfl (by omega) _ 0 (flat Pc.cc []) (by rfl) (hownq.alloc _) (V.heap.size + 1) (some ⟨V.heap.size, 0, none⟩) 1 1 [.int .i64 a, .int .i64 b, .int .i64 s, .int .i64 r] (by rfl) (Rd.built (heap_alloc_new V _) (by omega) rfl) (by intro u hu; simp at hu; rcases hu with rfl | rfl | rfl | rfl <;> rfl) (by unfold maxLen; omega) (by omega) (by simp; omega) ?_); intro v4 w4 hown4 hg4 hat4
                     obtain ⟨A4, c4, rfl, hnc4, hcm4, hA4⟩ := own_form hown4
                     have hpo4 := (hg4.block po (by simp; omega) (fun e => hno e.symm)).trans ((Below.heap_alloc _ _ _ (by omega)).trans hpoq)
                     have d4 : w4.cell? ⟨po, 0, none⟩ = some (.slice A 0 c) := by rw [cell_of_row w4 po 0 _ _ _ hpo4]; rfl
                     have f4 := frozen_of_row w4 po 0 _ _ hpo4)
        have hfr4 : Fr K po V w4 := ⟨((Below.refl po V).alloc (by omega) _).grown hg4 (by simp; omega) (fun g e => by have := (hownq.lt g e).1; omega), fun k h1 h2 => (hg4.block k (by have := HKL.out k h2; simp; omega) (fun e => HKO.out k h2 e.symm)).trans (Below.heap_alloc _ _ _ (by have := HKL.out k h2; omega))⟩
        have hno4 := own_ne hown4 hpo4 (by decide)
        go_end0
        refine ⟨rfl, ?_, (hfrq.trans hfr4).setPo 0 _⟩
        rw [HR2.out]
        refine ⟨A4, c4, ?_, ?_⟩
        · rw [show ([(⟨a, b, [s, r]⟩ : Pc)] : List Pc).length = 0 + 1 from rfl]
          exact heap_setCell_same w4 po 0 _ _ (.slice A4 (0 + 1) c4) hpo4
        · rw [show ([(⟨a, b, [s, r]⟩ : Pc)] : List Pc).length = 0 + 1 from rfl, show flat Pc.cc [(⟨a, b, [s, r]⟩ : Pc)] = flat Pc.cc [] ++ [.int .i64 a, .int .i64 b, .int .i64 s, .int .i64 r] from rfl]
          exact ownsRow_setCell_ne (p := ⟨po, 0, none⟩) hown4 hno4 _
      · rw [List.concat_eq_append] at *
        obtain ⟨s', r', hqm⟩ := H2.out q (by simp)
        have hN1 : (O' ++ [q]).length = O'.length + 1 := by simp
        obtain ⟨_, _, hvf, hNc, _, hA0⟩ := own_form hownW
        injection hvf with hvA _ hvc
        subst hvA hvc
        obtain ⟨g2, rfl, hg2⟩ := hA0 (by omega)
        have hq0 : (O' ++ [q])[O'.length]? = some q := by simp
        have hlt2 := (hownW.lt g2 rfl)
        have hg2w : g2 < w1.heap.size := HGL.out g2 rfl
        have c0 := ccell hownW hq0 0 (.int .i64 q.f) rfl
        have c1 := ccell hownW hq0 1 (.int .i64 q.t) rfl
        have c2' : W.cell? ⟨g2, O'.length * 4 + 2, none⟩ = some (.int .i64 s') := by have := ccell hownW hq0 2 _ rfl; rw [hqm] at this; exact this
        have c3' : W.cell? ⟨g2, O'.length * 4 + 3, none⟩ = some (.int .i64 r') := by have := ccell hownW hq0 3 _ rfl; rw [hqm] at this; exact this
        rw [Nat.add_zero] at c0
        have hXN : O'.length = (O' ++ [q]).length - 1 := by omega
        rw [hXN] at c0 c1 c2' c3'
        have HRA : Hid (resA C (O' ++ [q]) a b = if q.t = a ∧ q.m = [s, r] then O' ++ [⟨q.f, b, [s, r]⟩] else O' ++ [q, ⟨a, b, [s, r]⟩]) := Lib.hid (by rw [HRES.out, addP_snoc, if_neg (by simp)])
        have hcut : W.ownsRow B 52 4 (.slice (some ⟨g2, 0, none⟩) O'.length c) O'.length (flat Pc.cc O') := by
          have h1 := hownW
          rw [hN1, flat_append] at h1
          exact own_cut h1 (cc_flen O')
        rw [hXN] at hcut
        have HCUT := Lib.hid hcut
        have hlc : ∀ p : Pc, (O' ++ [p]).length = ((O' ++ [q]).length - 1) + 1 := fun p => by simp
        have hfc : ∀ p : Pc, flat Pc.cc (O' ++ [p]) = flat Pc.cc O' ++ p.cc := fun p => by rw [flat_append, flat_one]
        have hln : (O' ++ [q, (⟨a, b, [s, r]⟩ : Pc)]).length = (O' ++ [q]).length + 1 := by simp
        have hfl : flat Pc.cc (O' ++ [q, (⟨a, b, [s, r]⟩ : Pc)]) = flat Pc.cc (O' ++ [q]) ++ [.int .i64 a, .int .i64 b, .int .i64 s, .int .i64 r] := by rw [show O' ++ [q, (⟨a, b, [s, r]⟩ : Pc)] = (O' ++ [q]) ++ [⟨a, b, [s, r]⟩] by simp, flat_append _ [_], flat_one]; rfl
        have HLC := Lib.hid hlc
        have hlc2 : ∀ p : Pc, (O' ++ [p]).length = (O' ++ [q]).length := fun p => by simp
        have HLC2 := Lib.hid hlc2
        clear hlc2
        have HFC := Lib.hid hfc
        have HLN := Lib.hid hln
        have HFL := Lib.hid hfl
        have HQM := Lib.hid hqm
        clear hXN hcut hlc hfc hln hfl hqm HRES H2 hq0 hA0
        generalize hN : (O' ++ [q]).length = N at *
        generalize hF : flat Pc.cc (O' ++ [q]) = F at *
        clear hN hF
        have hN0 : 0 < N := by omega
        have hN0' : (0 : Int) < (N : Int) := by omega
        have hN0'' : (1 : Int) ≤ (N : Int) := by omega
        have hN01 : 1 ≤ N := by omega
        have hx3 : 0 ≤ (N : Int) - 1 := by omega
        have hx4 : (N : Int) - 1 < (N : Int) := by omega
        have hx5 : (N : Int) - 1 ≤ (N : Int) := by omega
        have hx6 : ((N : Int) - 1).toNat = N - 1 := by omega
        have HX6 := Lib.hid hx6
        clear hx6 hN1
        have hwN : IntKind.i64.wrap ((N : Int) - 1) = (N : Int) - 1 := IntWalk.i64_in _ (by omega)
        by_cases hta : q.t = a
        · by_cases hsm : s' = s ∧ r' = r
          · obtain ⟨hs1, hr1⟩ := hsm
            rw [hs1] at c2'
            rw [hr1] at c3'
            rw [hta] at c1
            have HR2 : Hid (resA C (O' ++ [q]) a b = O' ++ [⟨q.f, b, [s, r]⟩]) := Lib.hid (by rw [HRA.out, if_pos ⟨hta, HQM.out.trans (by rw [hs1, hr1])⟩])
            clear HRA hta hs1 hr1
            go_wp2_with fail
            go_quiet (fail)
            have hownq : (W.drewN nq).ownsRow B 52 4 (.slice (some ⟨g2, 0, none⟩) N c) N F := hownW
            have hpoq : (W.drewN nq).heap[po]? = some (.cells #[.slice (some ⟨g2, 0, none⟩) N c] 44 (0, 0)) := hpoW
            have hfrq : Fr K po w (W.drewN nq) := hfrW.trans (Fr.ofBelow (below_drewN (Below.refl W.heap.size W) nq) (fun k hk => by have := HKL.out k hk; omega) (by omega))
            have hrowq : (W.drewN nq).heap[w1.heap.size]? = some (.cells #[.int .i64 a, .int .i64 b, .int .i64 s, .int .i64 r] 52 (0, 0)) := hrow
            have c0s : (W.drewN nq).cell? ⟨g2, (N - 1) * 4, none⟩ = some (.int .i64 q.f) := c0
            obtain ⟨V, hV⟩ : ∃ V, V = W.drewN nq := ⟨_, rfl⟩
            have hVW := hV
            rw [← hV] at hownq hpoq hfrq hrowq ⊢
            clear hV x0 x1 x2 x3 p0 pf hownW hpoW hfrW hrow c0 c1 c2' c3'
            have hpoV : po < V.heap.size := (Array.getElem?_eq_some_iff.1 hpoq).1
            have hbxV : w1.heap.size < V.heap.size := (Array.getElem?_eq_some_iff.1 hrowq).1
            have p0 : V.cell? ⟨po, 0, none⟩ = some (.slice (some ⟨g2, 0, none⟩) N c) := by rw [cell_of_row V po 0 _ _ _ hpoq]; rfl
            have x0 : V.cell? ⟨w1.heap.size, 0, none⟩ = some (.int .i64 a) := by rw [cell_of_row V _ 0 _ _ _ hrowq]; rfl
            have x1 : V.cell? ⟨w1.heap.size, 1, none⟩ = some (.int .i64 b) := by rw [cell_of_row V _ 1 _ _ _ hrowq]; rfl
            have x2 : V.cell? ⟨w1.heap.size, 2, none⟩ = some (.int .i64 s) := by rw [cell_of_row V _ 2 _ _ _ hrowq]; rfl
            have x3 : V.cell? ⟨w1.heap.size, 3, none⟩ = some (.int .i64 r) := by rw [cell_of_row V _ 3 _ _ _ hrowq]; rfl
            have hcutq : V.ownsRow B 52 4 (.slice (some ⟨g2, 0, none⟩) (N - 1) c) (N - 1) (flat Pc.cc O') := by rw [hVW]; exact HCUT.out
            have e0 : V.cell? ⟨g2, (N - 1) * 4, none⟩ = some (.int .i64 q.f) := by rw [hVW]; exact c0s
            clear hVW c0s
            have hg2V : g2 ≠ w1.heap.size := by omega
            have xf := frozen_of_row V w1.heap.size 0 _ _ hrowq
            go_upto_region 6 with (fail)
            have hrow1 : (V.setCell ⟨w1.heap.size, 0, none⟩ (.int .i64 q.f)).heap[w1.heap.size]? = some (.cells #[.int .i64 q.f, .int .i64 b, .int .i64 s, .int .i64 r] 52 (0, 0)) := heap_setCell_same V w1.heap.size 0 _ _ (.int .i64 q.f) hrowq
            have hpo1' : (V.setCell ⟨w1.heap.size, 0, none⟩ (.int .i64 q.f)).heap[po]? = some (.cells #[.slice (some ⟨g2, 0, none⟩) N c] 44 (0, 0)) := (heap_setCell_other V ⟨w1.heap.size, 0, none⟩ po _ (by show po ≠ w1.heap.size; omega)).trans hpoq
            have hown1' := ownsRow_setCell_ne (p := ⟨w1.heap.size, 0, none⟩) hcutq (by simp [Value.ownBlock]; omega) (.int .i64 q.f)
            have hfr1' : Fr K po w (V.setCell ⟨w1.heap.size, 0, none⟩ (.int .i64 q.f)) := hfrq.trans ⟨(Below.refl _ _).setCell (p := ⟨w1.heap.size, 0, none⟩) (by show po ≤ w1.heap.size; omega) _, fun k h1 h2 => heap_setCell_other V ⟨w1.heap.size, 0, none⟩ k _ (by show k ≠ w1.heap.size; have := HKL.out k h2; omega)⟩
            obtain ⟨V1, hV1⟩ : ∃ W, W = V.setCell ⟨w1.heap.size, 0, none⟩ (.int .i64 q.f) := ⟨_, rfl⟩
            rw [← hV1] at hrow1 hpo1' hown1' hfr1' ⊢
            clear hV1 p0 x0 x1 x2 x3 e0 xf hrowq hpoq hownq hfrq hcutq hpoV hbxV
            have p0 : V1.cell? ⟨po, 0, none⟩ = some (.slice (some ⟨g2, 0, none⟩) N c) := by rw [cell_of_row V1 po 0 _ _ _ hpo1']; rfl
            have pf := frozen_of_row V1 po 0 _ _ hpo1'
            go_upto_region 7 with (fail)
            have hno1 := own_ne hown1' hpo1' (by decide)
            have hpo2' : (V1.setCell ⟨po, 0, none⟩ (.slice (some ⟨g2, 0, none⟩) (N - 1) c)).heap[po]? = some (.cells #[.slice (some ⟨g2, 0, none⟩) (N - 1) c] 44 (0, 0)) := heap_setCell_same V1 po 0 _ _ _ hpo1'
            have hrow2 : (V1.setCell ⟨po, 0, none⟩ (.slice (some ⟨g2, 0, none⟩) (N - 1) c)).heap[w1.heap.size]? = some (.cells #[.int .i64 q.f, .int .i64 b, .int .i64 s, .int .i64 r] 52 (0, 0)) := (heap_setCell_other V1 ⟨po, 0, none⟩ w1.heap.size _ (by show w1.heap.size ≠ po; omega)).trans hrow1
            have hown2' := ownsRow_setCell_ne (p := ⟨po, 0, none⟩) hown1' hno1 (.slice (some ⟨g2, 0, none⟩) (N - 1) c)
            have hfr2' := hfr1'.setPo 0 (.slice (some ⟨g2, 0, none⟩) (N - 1) c)
            obtain ⟨V2, hV2⟩ : ∃ W, W = V1.setCell ⟨po, 0, none⟩ (.slice (some ⟨g2, 0, none⟩) (N - 1) c) := ⟨_, rfl⟩
            rw [← hV2] at hpo2' hrow2 hown2' hfr2' ⊢
            clear hV2 p0 pf hno1 hrow1 hpo1' hown1' hfr1'
            have hpoV : po < V2.heap.size := (Array.getElem?_eq_some_iff.1 hpo2').1
            have hbxV : w1.heap.size < V2.heap.size := (Array.getElem?_eq_some_iff.1 hrow2).1
            have p0 : V2.cell? ⟨po, 0, none⟩ = some (.slice (some ⟨g2, 0, none⟩) (N - 1) c) := by rw [cell_of_row V2 po 0 _ _ _ hpo2']; rfl
            have x0 : V2.cell? ⟨w1.heap.size, 0, none⟩ = some (.int .i64 q.f) := by rw [cell_of_row V2 _ 0 _ _ _ hrow2]; rfl
            have x1 : V2.cell? ⟨w1.heap.size, 1, none⟩ = some (.int .i64 b) := by rw [cell_of_row V2 _ 1 _ _ _ hrow2]; rfl
            have x2 : V2.cell? ⟨w1.heap.size, 2, none⟩ = some (.int .i64 s) := by rw [cell_of_row V2 _ 2 _ _ _ hrow2]; rfl
            have x3 : V2.cell? ⟨w1.heap.size, 3, none⟩ = some (.int .i64 r) := by rw [cell_of_row V2 _ 3 _ _ _ hrow2]; rfl
            have hno := own_ne hown2' hpo2' (by decide)
            clear hwN
            go_wp2_with (at_builtin; go_loud (refine wpList_append_rd (by rfl) (.tmp 68) (.tmp 70) 44 (by rfl) B 52 i0 _ 4 32 Try.underlying44 hi0 hz0 hz1 hz2 rfl (by omega) _ (N - 1) (flat Pc.cc O') (by rfl) (hown2'.alloc _) (V2.heap.size + 1) (some ⟨V2.heap.size, 0, none⟩) 1 1 [.int .i64 q.f, .int .i64 b, .int .i64 s, .int .i64 r] (by rfl) (Rd.built (heap_alloc_new V2 _) (by omega) rfl) (by intro u hu; simp at hu; rcases hu with rfl | rfl | rfl | rfl <;> rfl) (by unfold maxLen; omega) (by omega) (by simp; omega) ?_); intro v4 w4 hown4 hg4 hat4
                         obtain ⟨A4, c4, rfl, hnc4, hcm4, hA4⟩ := own_form hown4
                         have hpo4 := (hg4.block po (by simp; omega) (fun e => hno e.symm)).trans ((Below.heap_alloc _ _ _ (by omega)).trans hpo2')
                         have d4 : w4.cell? ⟨po, 0, none⟩ = some (.slice (some ⟨g2, 0, none⟩) (N - 1) c) := by rw [cell_of_row w4 po 0 _ _ _ hpo4]; rfl
                         have f4 := frozen_of_row w4 po 0 _ _ hpo4)
            have hfr4 : Fr K po V2 w4 := ⟨((Below.refl po V2).alloc (by omega) _).grown hg4 (by simp; omega) (fun g e => by have := (hown2'.lt g e).1; omega), fun k h1 h2 => (hg4.block k (by have := HKL.out k h2; simp; omega) (fun e => HKO.out k h2 e.symm)).trans (Below.heap_alloc _ _ _ (by have := HKL.out k h2; omega))⟩
            have hno4 := own_ne hown4 hpo4 (by decide)
            rw [Nat.sub_add_cancel hN01] at hown4 hno4
            go_end0
            refine ⟨rfl, ?_, (hfr2'.trans hfr4).setPo 0 _⟩
            first | rw [HR2.out] | rw [List.concat_eq_append, HR2.out]
            refine ⟨A4, c4, ?_, ?_⟩
            · rw [HLC2.out _]
              exact heap_setCell_same w4 po 0 _ _ (.slice A4 N c4) hpo4
            · rw [HLC2.out _, HFC.out _]
              exact ownsRow_setCell_ne (p := ⟨po, 0, none⟩) hown4 hno4 _
          · have HR2 : Hid (resA C (O' ++ [q]) a b = O' ++ [q, ⟨a, b, [s, r]⟩]) := Lib.hid (by rw [HRA.out, if_neg (fun e => hsm (by have := HQM.out.symm.trans e.2; simpa using this))])
            have hb12 : ((s' == s) && (r' == r)) = false := by
              rw [Bool.eq_false_iff]
              intro e
              simp at e
              exact hsm e
            rw [hta] at c1
            clear HRA hta hsm
            by_cases hs1 : s' = s
            · have hr1 : (r' == r) = false := by rw [show (s' == s) = true from beq_iff_eq.2 hs1, Bool.true_and] at hb12; exact hb12
              rw [hs1] at c2'
              clear hb12 hs1
              go_wp2_with fail
              go_quiet (fail)
              have hownq : (W.drewN nq).ownsRow B 52 4 (.slice (some ⟨g2, 0, none⟩) N c) N F := hownW
              have hpoq : (W.drewN nq).heap[po]? = some (.cells #[.slice (some ⟨g2, 0, none⟩) N c] 44 (0, 0)) := hpoW
              have hfrq : Fr K po w (W.drewN nq) := hfrW.trans (Fr.ofBelow (below_drewN (Below.refl W.heap.size W) nq) (fun k hk => by have := HKL.out k hk; omega) (by omega))
              have hrowq : (W.drewN nq).heap[w1.heap.size]? = some (.cells #[.int .i64 a, .int .i64 b, .int .i64 s, .int .i64 r] 52 (0, 0)) := hrow
              have c0s : (W.drewN nq).cell? ⟨g2, (N - 1) * 4, none⟩ = some (.int .i64 q.f) := c0
              obtain ⟨V, hV⟩ : ∃ V, V = W.drewN nq := ⟨_, rfl⟩
              have hVW := hV
              rw [← hV] at hownq hpoq hfrq hrowq ⊢
              clear hV x0 x1 x2 x3 p0 pf hownW hpoW hfrW hrow c0 c1 c2' c3'
              have hpoV : po < V.heap.size := (Array.getElem?_eq_some_iff.1 hpoq).1
              have hbxV : w1.heap.size < V.heap.size := (Array.getElem?_eq_some_iff.1 hrowq).1
              have p0 : V.cell? ⟨po, 0, none⟩ = some (.slice (some ⟨g2, 0, none⟩) N c) := by rw [cell_of_row V po 0 _ _ _ hpoq]; rfl
              have x0 : V.cell? ⟨w1.heap.size, 0, none⟩ = some (.int .i64 a) := by rw [cell_of_row V _ 0 _ _ _ hrowq]; rfl
              have x1 : V.cell? ⟨w1.heap.size, 1, none⟩ = some (.int .i64 b) := by rw [cell_of_row V _ 1 _ _ _ hrowq]; rfl
              have x2 : V.cell? ⟨w1.heap.size, 2, none⟩ = some (.int .i64 s) := by rw [cell_of_row V _ 2 _ _ _ hrowq]; rfl
              have x3 : V.cell? ⟨w1.heap.size, 3, none⟩ = some (.int .i64 r) := by rw [cell_of_row V _ 3 _ _ _ hrowq]; rfl
              clear hVW c0s
              have hno := own_ne hownq hpoq (by decide)
              clear hwN
              go_wp2_with (at_builtin; go_loud (refine wpList_append_rd (by rfl) (.tmp 68) (.tmp 70) 44 (by rfl) B 52 i0 _ 4 32 Try.underlying44 hi0 hz0 hz1 hz2 rfl (by omega) _ N F (by rfl) (hownq.alloc _) (V.heap.size + 1) (some ⟨V.heap.size, 0, none⟩) 1 1 [.int .i64 a, .int .i64 b, .int .i64 s, .int .i64 r] (by rfl) (Rd.built (heap_alloc_new V _) (by omega) rfl) (by intro u hu; simp at hu; rcases hu with rfl | rfl | rfl | rfl <;> rfl) (by unfold maxLen; omega) (by omega) (by simp; omega) ?_); intro v4 w4 hown4 hg4 hat4
                           obtain ⟨A4, c4, rfl, hnc4, hcm4, hA4⟩ := own_form hown4
                           have hpo4 := (hg4.block po (by simp; omega) (fun e => hno e.symm)).trans ((Below.heap_alloc _ _ _ (by omega)).trans hpoq)
                           have d4 : w4.cell? ⟨po, 0, none⟩ = some (.slice (some ⟨g2, 0, none⟩) N c) := by rw [cell_of_row w4 po 0 _ _ _ hpo4]; rfl
                           have f4 := frozen_of_row w4 po 0 _ _ hpo4)
              have hfr4 : Fr K po V w4 := ⟨((Below.refl po V).alloc (by omega) _).grown hg4 (by simp; omega) (fun g e => by have := (hownq.lt g e).1; omega), fun k h1 h2 => (hg4.block k (by have := HKL.out k h2; simp; omega) (fun e => HKO.out k h2 e.symm)).trans (Below.heap_alloc _ _ _ (by have := HKL.out k h2; omega))⟩
              have hno4 := own_ne hown4 hpo4 (by decide)
              go_end0
              refine ⟨rfl, ?_, (hfrq.trans hfr4).setPo 0 _⟩
              first | rw [HR2.out] | rw [List.concat_eq_append, HR2.out]
              refine ⟨A4, c4, ?_, ?_⟩
              · rw [HLN.out]
                exact heap_setCell_same w4 po 0 _ _ (.slice A4 (N + 1) c4) hpo4
              · rw [HLN.out, HFL.out]
                exact ownsRow_setCell_ne (p := ⟨po, 0, none⟩) hown4 hno4 _
            · have hs2 : (s' == s) = false := beq_eq_false_iff_ne.2 hs1
              clear hb12 hs1
              go_wp2_with fail
              go_quiet (fail)
              have hownq : (W.drewN nq).ownsRow B 52 4 (.slice (some ⟨g2, 0, none⟩) N c) N F := hownW
              have hpoq : (W.drewN nq).heap[po]? = some (.cells #[.slice (some ⟨g2, 0, none⟩) N c] 44 (0, 0)) := hpoW
              have hfrq : Fr K po w (W.drewN nq) := hfrW.trans (Fr.ofBelow (below_drewN (Below.refl W.heap.size W) nq) (fun k hk => by have := HKL.out k hk; omega) (by omega))
              have hrowq : (W.drewN nq).heap[w1.heap.size]? = some (.cells #[.int .i64 a, .int .i64 b, .int .i64 s, .int .i64 r] 52 (0, 0)) := hrow
              have c0s : (W.drewN nq).cell? ⟨g2, (N - 1) * 4, none⟩ = some (.int .i64 q.f) := c0
              obtain ⟨V, hV⟩ : ∃ V, V = W.drewN nq := ⟨_, rfl⟩
              have hVW := hV
              rw [← hV] at hownq hpoq hfrq hrowq ⊢
              clear hV x0 x1 x2 x3 p0 pf hownW hpoW hfrW hrow c0 c1 c2' c3'
              have hpoV : po < V.heap.size := (Array.getElem?_eq_some_iff.1 hpoq).1
              have hbxV : w1.heap.size < V.heap.size := (Array.getElem?_eq_some_iff.1 hrowq).1
              have p0 : V.cell? ⟨po, 0, none⟩ = some (.slice (some ⟨g2, 0, none⟩) N c) := by rw [cell_of_row V po 0 _ _ _ hpoq]; rfl
              have x0 : V.cell? ⟨w1.heap.size, 0, none⟩ = some (.int .i64 a) := by rw [cell_of_row V _ 0 _ _ _ hrowq]; rfl
              have x1 : V.cell? ⟨w1.heap.size, 1, none⟩ = some (.int .i64 b) := by rw [cell_of_row V _ 1 _ _ _ hrowq]; rfl
              have x2 : V.cell? ⟨w1.heap.size, 2, none⟩ = some (.int .i64 s) := by rw [cell_of_row V _ 2 _ _ _ hrowq]; rfl
              have x3 : V.cell? ⟨w1.heap.size, 3, none⟩ = some (.int .i64 r) := by rw [cell_of_row V _ 3 _ _ _ hrowq]; rfl
              clear hVW c0s
              have hno := own_ne hownq hpoq (by decide)
              clear hwN
              go_wp2_with (at_builtin; go_loud (refine wpList_append_rd (by rfl) (.tmp 68) (.tmp 70) 44 (by rfl) B 52 i0 _ 4 32 Try.underlying44 hi0 hz0 hz1 hz2 rfl (by omega) _ N F (by rfl) (hownq.alloc _) (V.heap.size + 1) (some ⟨V.heap.size, 0, none⟩) 1 1 [.int .i64 a, .int .i64 b, .int .i64 s, .int .i64 r] (by rfl) (Rd.built (heap_alloc_new V _) (by omega) rfl) (by intro u hu; simp at hu; rcases hu with rfl | rfl | rfl | rfl <;> rfl) (by unfold maxLen; omega) (by omega) (by simp; omega) ?_); intro v4 w4 hown4 hg4 hat4
                           obtain ⟨A4, c4, rfl, hnc4, hcm4, hA4⟩ := own_form hown4
                           have hpo4 := (hg4.block po (by simp; omega) (fun e => hno e.symm)).trans ((Below.heap_alloc _ _ _ (by omega)).trans hpoq)
                           have d4 : w4.cell? ⟨po, 0, none⟩ = some (.slice (some ⟨g2, 0, none⟩) N c) := by rw [cell_of_row w4 po 0 _ _ _ hpo4]; rfl
                           have f4 := frozen_of_row w4 po 0 _ _ hpo4)
              have hfr4 : Fr K po V w4 := ⟨((Below.refl po V).alloc (by omega) _).grown hg4 (by simp; omega) (fun g e => by have := (hownq.lt g e).1; omega), fun k h1 h2 => (hg4.block k (by have := HKL.out k h2; simp; omega) (fun e => HKO.out k h2 e.symm)).trans (Below.heap_alloc _ _ _ (by have := HKL.out k h2; omega))⟩
              have hno4 := own_ne hown4 hpo4 (by decide)
              go_end0
              refine ⟨rfl, ?_, (hfrq.trans hfr4).setPo 0 _⟩
              first | rw [HR2.out] | rw [List.concat_eq_append, HR2.out]
              refine ⟨A4, c4, ?_, ?_⟩
              · rw [HLN.out]
                exact heap_setCell_same w4 po 0 _ _ (.slice A4 (N + 1) c4) hpo4
              · rw [HLN.out, HFL.out]
                exact ownsRow_setCell_ne (p := ⟨po, 0, none⟩) hown4 hno4 _
        · have HR2 : Hid (resA C (O' ++ [q]) a b = O' ++ [q, ⟨a, b, [s, r]⟩]) := Lib.hid (by rw [HRA.out, if_neg (fun e => hta e.1)])
          have hta2 : (q.t == a) = false := beq_eq_false_iff_ne.2 hta
          clear HRA hta
          go_wp2_with fail
          go_quiet (fail)
          have hownq : (W.drewN nq).ownsRow B 52 4 (.slice (some ⟨g2, 0, none⟩) N c) N F := hownW
          have hpoq : (W.drewN nq).heap[po]? = some (.cells #[.slice (some ⟨g2, 0, none⟩) N c] 44 (0, 0)) := hpoW
          have hfrq : Fr K po w (W.drewN nq) := hfrW.trans (Fr.ofBelow (below_drewN (Below.refl W.heap.size W) nq) (fun k hk => by have := HKL.out k hk; omega) (by omega))
          have hrowq : (W.drewN nq).heap[w1.heap.size]? = some (.cells #[.int .i64 a, .int .i64 b, .int .i64 s, .int .i64 r] 52 (0, 0)) := hrow
          have c0s : (W.drewN nq).cell? ⟨g2, (N - 1) * 4, none⟩ = some (.int .i64 q.f) := c0
          obtain ⟨V, hV⟩ : ∃ V, V = W.drewN nq := ⟨_, rfl⟩
          have hVW := hV
          rw [← hV] at hownq hpoq hfrq hrowq ⊢
          clear hV x0 x1 x2 x3 p0 pf hownW hpoW hfrW hrow c0 c1 c2' c3'
          have hpoV : po < V.heap.size := (Array.getElem?_eq_some_iff.1 hpoq).1
          have hbxV : w1.heap.size < V.heap.size := (Array.getElem?_eq_some_iff.1 hrowq).1
          have p0 : V.cell? ⟨po, 0, none⟩ = some (.slice (some ⟨g2, 0, none⟩) N c) := by rw [cell_of_row V po 0 _ _ _ hpoq]; rfl
          have x0 : V.cell? ⟨w1.heap.size, 0, none⟩ = some (.int .i64 a) := by rw [cell_of_row V _ 0 _ _ _ hrowq]; rfl
          have x1 : V.cell? ⟨w1.heap.size, 1, none⟩ = some (.int .i64 b) := by rw [cell_of_row V _ 1 _ _ _ hrowq]; rfl
          have x2 : V.cell? ⟨w1.heap.size, 2, none⟩ = some (.int .i64 s) := by rw [cell_of_row V _ 2 _ _ _ hrowq]; rfl
          have x3 : V.cell? ⟨w1.heap.size, 3, none⟩ = some (.int .i64 r) := by rw [cell_of_row V _ 3 _ _ _ hrowq]; rfl
          clear hVW c0s
          have hno := own_ne hownq hpoq (by decide)
          clear hwN
          go_wp2_with (at_builtin; go_loud (refine wpList_append_rd (by rfl) (.tmp 68) (.tmp 70) 44 (by rfl) B 52 i0 _ 4 32 Try.underlying44 hi0 hz0 hz1 hz2 rfl (by omega) _ N F (by rfl) (hownq.alloc _) (V.heap.size + 1) (some ⟨V.heap.size, 0, none⟩) 1 1 [.int .i64 a, .int .i64 b, .int .i64 s, .int .i64 r] (by rfl) (Rd.built (heap_alloc_new V _) (by omega) rfl) (by intro u hu; simp at hu; rcases hu with rfl | rfl | rfl | rfl <;> rfl) (by unfold maxLen; omega) (by omega) (by simp; omega) ?_); intro v4 w4 hown4 hg4 hat4
                       obtain ⟨A4, c4, rfl, hnc4, hcm4, hA4⟩ := own_form hown4
                       have hpo4 := (hg4.block po (by simp; omega) (fun e => hno e.symm)).trans ((Below.heap_alloc _ _ _ (by omega)).trans hpoq)
                       have d4 : w4.cell? ⟨po, 0, none⟩ = some (.slice (some ⟨g2, 0, none⟩) N c) := by rw [cell_of_row w4 po 0 _ _ _ hpo4]; rfl
                       have f4 := frozen_of_row w4 po 0 _ _ hpo4)
          have hfr4 : Fr K po V w4 := ⟨((Below.refl po V).alloc (by omega) _).grown hg4 (by simp; omega) (fun g e => by have := (hownq.lt g e).1; omega), fun k h1 h2 => (hg4.block k (by have := HKL.out k h2; simp; omega) (fun e => HKO.out k h2 e.symm)).trans (Below.heap_alloc _ _ _ (by have := HKL.out k h2; omega))⟩
          have hno4 := own_ne hown4 hpo4 (by decide)
          go_end0
          refine ⟨rfl, ?_, (hfrq.trans hfr4).setPo 0 _⟩
          first | rw [HR2.out] | rw [List.concat_eq_append, HR2.out]
          refine ⟨A4, c4, ?_, ?_⟩
          · rw [HLN.out]
            exact heap_setCell_same w4 po 0 _ _ (.slice A4 (N + 1) c4) hpo4
          · rw [HLN.out, HFL.out]
            exact ownsRow_setCell_ne (p := ⟨po, 0, none⟩) hown4 hno4 _
    · have hres : resA C O a b = O := by unfold resA; rw [if_neg hab]
      have HRES := Lib.hid hres
      clear hres hm
      have hab2 : decide (b ≤ a) = true := by simp; omega
      go_wp2_with fail
      refine bodyPost_ret (results_none rfl _ _ _) rfl ?_
      exact ⟨rfl, by rw [HRES.out]; exact ⟨A, c, (Below.heap_alloc _ _ _ (by omega)).trans hpo2, hown1.alloc _⟩, hfr1.trans (Fr.ofBelow ((Below.refl w1.heap.size w1).alloc (Nat.le_refl _) _) (fun k hk => Nat.lt_of_lt_of_le (HKL.out k hk) hz1') (by omega))⟩
end Go.Proofs.Ytkncfhdfobcjeaa
