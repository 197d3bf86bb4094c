/- The bytes of a valid fact: the reference. -/
import Derived.Test.YtbogmkhoppffgaaFcD
import Derived.Test.YtbogmkhoppffgaaFcE
namespace Go.Proofs.Ytbogmkhoppffgaa
open Go.RowKit

theorem RetBy.open {w w' : World} {base : Nat} {zs : List Int} {e : Ending} (h : RetBy w base zs e w') : ∃ (ys : List Int) (n : Nat) (A : Option Addr) (c : Nat), Hid (ys = zs) ∧ Hid (ys.length = n) ∧ e = .returned (.slice A n c) ∧ w'.ownsRow base 5 1 (.slice A n c) n (bys ys) ∧ Below base w w' := by
  obtain ⟨A, c, he, ho, hb⟩ := h
  exact ⟨zs, _, A, c, rfl, rfl, he, ho, hb⟩
theorem mem_ite {c : Prop} [Decidable c] {a b : List UInt8} {l : UInt8} {S : UInt8 → Prop} (ha : ∀ l ∈ a, S l) (hb : l ∈ b → S l) : l ∈ (if c then a else b) → S l := by
  by_cases h : c
  · rw [if_pos h]; exact ha l
  · rw [if_neg h]; exact hb
theorem useL_mem (k : Int) (l : UInt8) (h : l ∈ useL k) : l = 83 ∨ l = 80 ∨ l = 84 ∨ l = 72 ∨ l = 67 ∨ l = 65 ∨ l = 82 := by
  revert h
  unfold useL
  iterate 14 (refine mem_ite (S := fun l => l = 83 ∨ l = 80 ∨ l = 84 ∨ l = 72 ∨ l = 67 ∨ l = 65 ∨ l = 82) (by decide) ?_)
  intro h
  cases h
/-- The bytes of a valid fact, in a row of the call's own. -/
def RetF (w : World) (x : Fc) (e : Ending) (w' : World) : Prop := ∃ A n c, e = .returned (.slice A n c) ∧ n = (bysL x).length ∧ n ≤ 100 ∧ w'.ownsRow w.heap.size 5 1 (.slice A n c) n (bys (bysL x)) ∧ Below w.heap.size w w'
theorem big_to {A : Option Addr} {c n : Nat} {zs : List Int} {x M : Int} (m : Nat) {base : Nat} {w : World} (hM : (m : Int) = M) (h : w.ownsRow base 5 1 (.slice A n c) n (bys zs)) (hn : zs.length = n) (hz : n ≤ 1000) (h0 : 0 ≤ x) (h1 : x ≤ 4611686018427387904) (hm : m ≤ 8) (hbase : base ≤ w.heap.size) :
    Calls Try.prog 49 #[.slice A n c, .int .i64 x, .int .i64 M] w (RetBy w base (zs ++ beL x m)) := by
  subst hM
  exact big_any h hn hz h0 h1 hm hbase
theorem own_drewF {w : World} {base e sz n : Nat} {v : Value} {xs : List Value} (h : w.ownsRow base e sz v n xs) : w.drew.ownsRow base e sz v n xs := h
theorem own_underF {w w' : World} {base e sz n : Nat} {v : Value} {xs : List Value} (h : w.ownsRow base e sz v n xs) (hb : Below w.heap.size w w') : w'.ownsRow base e sz v n xs :=
  h.kept (row := none) (grownBy_of_below hb none) (Classical.em _)
theorem head_eq (x : Fc) (g : Int) (hg : (if x.g = true then (1 : Int) else 0) = g) : ((((([] ++ beL x.i 1) ++ beL x.n 2) ++ beL x.v 1) ++ beL g 1) ++ beL x.p 1) ++ beL x.k 1 = headL x := by rw [← hg]; rfl

set_option maxRecDepth 100000 in
set_option maxHeartbeats 8000000 in
theorem rbytesF {x : Fc} (hv : Vld x) (w : World) : Calls Try.prog 33 #[x.agg] w (RetF w x) := by
  have HV := Lib.hid hv
  obtain ⟨hi1, hi2⟩ := hv.i
  obtain ⟨hn1, hn2⟩ := hv.n
  obtain ⟨hv1, hv2⟩ := hv.v
  obtain ⟨hp1, hp2⟩ := hv.p
  obtain ⟨hk1, hk2⟩ := hv.k
  obtain ⟨hf0, hft, ht1⟩ := hv.sp
  obtain ⟨⟨s1, s2⟩, ⟨e1, e2⟩, ⟨h1, h2⟩, ⟨k1, k2⟩, ⟨a1, a2⟩, ⟨r1, r2⟩⟩ := hv.small
  clear hv
  go_enter Try.func33, Try.ntmps33
  unfold Fc.agg
  go_wp2_with fail
  refine (rvalidF HV.out _).mono ?_
  rintro e w1 ⟨rfl, hb1⟩
  have hrow0 := heap_alloc_new w (.cells x.cells.toArray 40)
  have hbA := (Below.refl w.heap.size w).alloc (Nat.le_refl _) (.cells x.cells.toArray 40)
  have hrow := (hb1.block w.heap.size (by simp)).trans hrow0
  have hb := hbA.trans (hb1.mono (by simp))
  have hbl : w.heap.size < w1.heap.size := (Array.getElem?_eq_some_iff.1 hrow).1
  have hz1 := hb.size
  clear hb1 hbA hrow0
  obtain ⟨c0, c1, c2, c3, c4, c5, _, _, _, _, _, _, _, _⟩ := fcAt_row hrow
  rw [Nat.zero_add] at c1 c2 c3 c4 c5
  obtain ⟨gn, hgn⟩ : ∃ g : Int, (if x.g = true then (1 : Int) else 0) = g := ⟨_, rfl⟩
  have hgb : 0 ≤ gn ∧ gn ≤ 1 := by rw [← hgn]; split <;> omega
  have HG := Lib.hid (head_eq x gn hgn)
  have hnil : w1.ownsRow w1.heap.size 5 1 (.slice none 0 0) 0 (bys []) := World.ownsRow_nil _ _ _ _
  obtain ⟨B, hB⟩ : ∃ B, B = w1.heap.size := ⟨_, rfl⟩
  have hBB : B ≤ w1.heap.size := by omega
  rw [← hB] at hnil
  have hwB : w.heap.size < B := by omega
  clear hB
  obtain ⟨b, hbg⟩ : ∃ b, x.g = b := ⟨_, rfl⟩
  rw [hbg] at c3
  have HBG := Lib.hid hbg
  cases b
  · have hgv := hgn
    rw [hbg] at hgv
    simp only [Bool.false_eq_true, if_false] at hgv
    subst hgv
    clear hgn hbg
    go_upto_region 6 with (fail)
    have hBB2 : B ≤ w1.drew.heap.size := hBB
    go_region_held3 (fun w' => w'.cell? ⟨w.heap.size, 0, none⟩ = some (.int .i64 x.i) ∧ w'.cell? ⟨w.heap.size, 1, none⟩ = some (.int .i64 x.n) ∧ w'.cell? ⟨w.heap.size, 2, none⟩ = some (.int .i64 x.v) ∧ w'.cell? ⟨w.heap.size, 4, none⟩ = some (.int .i64 x.p) ∧ w'.cell? ⟨w.heap.size, 5, none⟩ = some (.int .i64 x.k)) (go_keep)
      (first
        | (go_at_call 49; ((with_reducible refine (big_to (x := x.i) (M := 1) 1 rfl (own_drewF hnil) rfl (by omega) (by omega) (by omega) (by omega) hBB2).mono ?_)); intro e u0 hr0; obtain ⟨ys0, n0, A0, k0', HY0, HN0, rfl, own0, bw0⟩ := hr0.open
           clear hr0
           have hn0' : n0 ≤ 1 := by rw [← HN0.out, HY0.out, List.length_append, beL_length]; simp
           have hz0' := bw0.size
           have d00 := (bw0.cell (p := ⟨w.heap.size, 0, none⟩) hwB).trans c0
           have d01 := (bw0.cell (p := ⟨w.heap.size, 1, none⟩) hwB).trans c1
           have d02 := (bw0.cell (p := ⟨w.heap.size, 2, none⟩) hwB).trans c2
           have d04 := (bw0.cell (p := ⟨w.heap.size, 4, none⟩) hwB).trans c4
           have d05 := (bw0.cell (p := ⟨w.heap.size, 5, none⟩) hwB).trans c5)
        | (go_at_call 49; ((with_reducible refine (big_to (x := x.n) (M := 2) 2 rfl own0 HN0.out (by omega) (by omega) (by omega) (by omega) (by omega)).mono ?_)); intro e u1 hr1; obtain ⟨ys1, n1, A1, k1', HY1, HN1, rfl, own1, bw1⟩ := hr1.open
           clear hr1
           have hn1' : n1 ≤ 3 := by rw [← HN1.out, HY1.out, List.length_append, beL_length]; rw [HN0.out]; omega
           have hz1' := bw1.size
           have d10 := (bw1.cell (p := ⟨w.heap.size, 0, none⟩) hwB).trans d00
           have d11 := (bw1.cell (p := ⟨w.heap.size, 1, none⟩) hwB).trans d01
           have d12 := (bw1.cell (p := ⟨w.heap.size, 2, none⟩) hwB).trans d02
           have d14 := (bw1.cell (p := ⟨w.heap.size, 4, none⟩) hwB).trans d04
           have d15 := (bw1.cell (p := ⟨w.heap.size, 5, none⟩) hwB).trans d05)
        | (go_at_call 49; ((with_reducible refine (big_to (x := x.v) (M := 1) 1 rfl own1 HN1.out (by omega) (by omega) (by omega) (by omega) (by omega)).mono ?_)); intro e u2 hr2; obtain ⟨ys2, n2, A2, k2', HY2, HN2, rfl, own2, bw2⟩ := hr2.open
           clear hr2
           have hn2' : n2 ≤ 4 := by rw [← HN2.out, HY2.out, List.length_append, beL_length]; rw [HN1.out]; omega
           have hz2' := bw2.size
           have d20 := (bw2.cell (p := ⟨w.heap.size, 0, none⟩) hwB).trans d10
           have d21 := (bw2.cell (p := ⟨w.heap.size, 1, none⟩) hwB).trans d11
           have d22 := (bw2.cell (p := ⟨w.heap.size, 2, none⟩) hwB).trans d12
           have d24 := (bw2.cell (p := ⟨w.heap.size, 4, none⟩) hwB).trans d14
           have d25 := (bw2.cell (p := ⟨w.heap.size, 5, none⟩) hwB).trans d15)
        | (go_at_call 49; ((with_reducible refine (big_to (x := 0) (M := 1) 1 rfl own2 HN2.out (by omega) (by omega) (by omega) (by omega) (by omega)).mono ?_)); intro e u3 hr3; obtain ⟨ys3, n3, A3, k3', HY3, HN3, rfl, own3, bw3⟩ := hr3.open
           clear hr3
           have hn3' : n3 ≤ 5 := by rw [← HN3.out, HY3.out, List.length_append, beL_length]; rw [HN2.out]; omega
           have hz3' := bw3.size
           have d30 := (bw3.cell (p := ⟨w.heap.size, 0, none⟩) hwB).trans d20
           have d31 := (bw3.cell (p := ⟨w.heap.size, 1, none⟩) hwB).trans d21
           have d32 := (bw3.cell (p := ⟨w.heap.size, 2, none⟩) hwB).trans d22
           have d34 := (bw3.cell (p := ⟨w.heap.size, 4, none⟩) hwB).trans d24
           have d35 := (bw3.cell (p := ⟨w.heap.size, 5, none⟩) hwB).trans d25)
        | (go_at_call 49; ((with_reducible refine (big_to (x := x.p) (M := 1) 1 rfl own3 HN3.out (by omega) (by omega) (by omega) (by omega) (by omega)).mono ?_)); intro e u4 hr4; obtain ⟨ys4, n4, A4, k4', HY4, HN4, rfl, own4, bw4⟩ := hr4.open
           clear hr4
           have hn4' : n4 ≤ 6 := by rw [← HN4.out, HY4.out, List.length_append, beL_length]; rw [HN3.out]; omega
           have hz4' := bw4.size
           have d40 := (bw4.cell (p := ⟨w.heap.size, 0, none⟩) hwB).trans d30
           have d41 := (bw4.cell (p := ⟨w.heap.size, 1, none⟩) hwB).trans d31
           have d42 := (bw4.cell (p := ⟨w.heap.size, 2, none⟩) hwB).trans d32
           have d44 := (bw4.cell (p := ⟨w.heap.size, 4, none⟩) hwB).trans d34
           have d45 := (bw4.cell (p := ⟨w.heap.size, 5, none⟩) hwB).trans d35)
        | (go_at_call 49; ((with_reducible refine (big_to (x := x.k) (M := 1) 1 rfl own4 HN4.out (by omega) (by omega) (by omega) (by omega) (by omega)).mono ?_)); intro e u5 hr5; obtain ⟨ys5, n5, A5, k5', HY5, HN5, rfl, own5, bw5⟩ := hr5.open
           clear hr5
           have hn5' : n5 ≤ 7 := by rw [← HN5.out, HY5.out, List.length_append, beL_length]; rw [HN4.out]; omega
           have hz5' := bw5.size
           have d50 := (bw5.cell (p := ⟨w.heap.size, 0, none⟩) hwB).trans d40
           have d51 := (bw5.cell (p := ⟨w.heap.size, 1, none⟩) hwB).trans d41
           have d52 := (bw5.cell (p := ⟨w.heap.size, 2, none⟩) hwB).trans d42
           have d54 := (bw5.cell (p := ⟨w.heap.size, 4, none⟩) hwB).trans d44
           have d55 := (bw5.cell (p := ⟨w.heap.size, 5, none⟩) hwB).trans d45))
    have hbB := (Below.refl B w1).drew.trans (bw0.trans (bw1.trans (bw2.trans (bw3.trans (bw4.trans bw5)))))
    have hys : ys5 = headL x := by rw [HY5.out, HY4.out, HY3.out, HY2.out, HY1.out, HY0.out]; exact HG.out
    subst hys
    have hrow5 := (hbB.block w.heap.size hwB).trans hrow
    clear hrow HG HY0 HY1 HY2 HY3 HY4 HY5 HN0 HN1 HN2 HN3 HN4 own0 own1 own2 own3 own4 hnil bw0 bw1 bw2 bw3 bw4 bw5 c0 c1 c2 c3 c4 c5 d00 d01 d02 d04 d05 d10 d11 d12 d14 d15 d20 d21 d22 d24 d25 d30 d31 d32 d34 d35 d40 d41 d42 d44 d45 d50 d51 d52 d54 hn0' hn1' hn2' hn3' hn4'
    go_wp2_with fail
    refine (ruses_any x.k _ hk1 hk2).mono ?_
    rintro e w7 ⟨rfl, hb7⟩
    have hbB7 := hbB.trans (hb7.mono (by omega))
    have own7 := own_underF own5 hb7
    have hrow7 := (hb7.block w.heap.size (by omega)).trans hrow5
    have HZ := Lib.hid (useS_size x.k)
    have hul := useL_length x.k
    have hkk := Lib.hid (And.intro hk1 hk2)
    clear d55 own5 hbB hb7 hrow5 hk1 hk2 hi1 hi2 hn1 hn2 hv1 hv2 hp1 hp2 hz0' hz1' hz2' hz3' hz4' hz5'
    go_wp2_with fail
    go_loopw [4, 6] (fun v i wn => ∃ (j n8 : Nat) (A8 : Option Addr) (c8 : Nat) (ys : List Int), j ≤ (useS x.k).size ∧ v = .slice A8 n8 c8 ∧ i = .int .i64 (j : Int) ∧ ys = headL x ++ bodyL x ((useL x.k).take j) ∧ ys.length = n8 ∧ n8 ≤ 7 + 6 * j ∧ wn.ownsRow B 5 1 (.slice A8 n8 c8) n8 (bys ys) ∧ Below B w1 wn) (fun _ i _ => (useS x.k).size - (intOf i).toNat)
    case atStart => exact ⟨0, _, _, _, headL x, by omega, rfl, rfl, by simp [bodyL], HN5.out, by omega, own7, hbB7⟩
    case round =>
      obtain ⟨wo, rfl⟩ : ∃ wo : World, wo = w7 := ⟨_, rfl⟩
      have hrow := (hbB7.block w.heap.size hwB).symm.trans hrow7
      clear own7 hbB7 hrow7
      obtain ⟨j, n8, A8, c8, ys, hj, rfl, rfl, hys, hyl, hn8, own8, hb8⟩ := hrel
      have HYS := Lib.hid hys
      have HYL := Lib.hid hyl
      have hz8 := hb8.size
      clear hys hyl
      have hsz : (useS x.k).size ≤ 6 := by rw [HZ.out]; exact hul
      by_cases hlt : j < (useS x.k).size
      · obtain ⟨l, hl, hs⟩ := useS_at hlt
        have hlm := useL_mem x.k l (List.mem_of_getElem? hl)
        have HL := Lib.hid hl
        have HS := Lib.hid hs
        have hrow8 := (hb8.block w.heap.size hwB).trans hrow
        obtain ⟨_, _, _, _, _, _, c6, c7, c8', c9, c10, c11, c12, c13⟩ := fcAt_row hrow8
        rw [Nat.zero_add] at c6 c7 c8' c9 c10 c11 c12 c13
        clear hl hs hrow8 hrow
        rcases hlm with rfl | rfl | rfl | rfl | rfl | rfl | rfl
        · have hq : ((useS x.k)[j].toNat : Int) = 83 := by rw [HS.out]; rfl
          have HB : Hid (ys ++ beL x.s 1 = headL x ++ bodyL x ((useL x.k).take (j + 1))) := Lib.hid (by rw [bodyL_take x HL.out, ← List.append_assoc, ← HYS.out]; rfl)
          clear c7 c8' c9 c10 c11 c12 c13
          go_wp2_with fail
          refine (big_to (x := x.s) (M := 1) 1 rfl own8 HYL.out (by omega) (by omega) (by omega) (by omega) (by omega)).mono ?_
          intro e w9 hr9
          obtain ⟨ys9, n9, A9, c9', HY9, HN9, rfl, own9, bw9⟩ := hr9.open
          clear hr9
          have hn9 : n9 ≤ n8 + 1 := by rw [← HN9.out, HY9.out, List.length_append, beL_length, HYL.out]; omega
          have HT : Hid (ys9 = headL x ++ bodyL x ((useL x.k).take (j + 1))) := Lib.hid (by rw [HY9.out, HB.out])
          go_wp2_with fail
          go_roundw
          case rel => exact ⟨j + 1, n9, A9, c9', ys9, by omega, rfl, by go_num, HT.out, HN9.out, by omega, own9, hb8.trans bw9⟩
          case measure => simp [intOf]; omega
        · have hq : ((useS x.k)[j].toNat : Int) = 80 := by rw [HS.out]; rfl
          have HB : Hid ((ys ++ beL x.f 3) ++ beL x.t 3 = headL x ++ bodyL x ((useL x.k).take (j + 1))) := Lib.hid (by rw [bodyL_take x HL.out, ← List.append_assoc, ← HYS.out, List.append_assoc]; rfl)
          clear c6 c9 c10 c11 c12 c13
          go_upto_region 15 with (fail)
          have hBd := hb8.drew.size
          go_region_held3 (fun w' => w'.cell? ⟨w.heap.size, 7, none⟩ = some (.int .i64 x.f) ∧ w'.cell? ⟨w.heap.size, 8, none⟩ = some (.int .i64 x.t)) (go_keep)
            (first
              | (go_at_call 49; ((with_reducible refine (big_to (x := x.f) (M := 3) 3 rfl (own_drewF own8) HYL.out (by omega) (by omega) (by omega) (by omega) (by omega)).mono ?_)); intro e u9 hr9; obtain ⟨ys9, n9, A9, c9', HY9, HN9, rfl, own9, bw9⟩ := hr9.open
                 clear hr9
                 have hn9 : n9 ≤ n8 + 3 := by rw [← HN9.out, HY9.out, List.length_append, beL_length, HYL.out]; omega
                 have hz9 := bw9.size
                 have d7 := (bw9.cell (p := ⟨w.heap.size, 7, none⟩) hwB).trans c7
                 have d8 := (bw9.cell (p := ⟨w.heap.size, 8, none⟩) hwB).trans c8')
              | (go_at_call 49; ((with_reducible refine (big_to (x := x.t) (M := 3) 3 rfl own9 HN9.out (by omega) (by omega) (by omega) (by omega) (by omega)).mono ?_)); intro e u10 hr10; obtain ⟨ys10, n10, A10, c10', HY10, HN10, rfl, own10, bw10⟩ := hr10.open
                 clear hr10
                 have hn10 : n10 ≤ n9 + 3 := by rw [← HN10.out, HY10.out, List.length_append, beL_length, HN9.out]; omega
                 have d77 := (bw10.cell (p := ⟨w.heap.size, 7, none⟩) hwB).trans d7
                 have d88 := (bw10.cell (p := ⟨w.heap.size, 8, none⟩) hwB).trans d8))
          have HT : Hid (ys10 = headL x ++ bodyL x ((useL x.k).take (j + 1))) := Lib.hid (by rw [HY10.out, HY9.out, HB.out])
          go_wp2_with fail
          go_roundw
          case rel => exact ⟨j + 1, n10, A10, c10', ys10, by omega, rfl, by go_num, HT.out, HN10.out, by omega, own10, hb8.drew.trans (bw9.trans bw10)⟩
          case measure => simp [intOf]; omega
        · have hq : ((useS x.k)[j].toNat : Int) = 84 := by rw [HS.out]; rfl
          have HB : Hid (ys ++ beL x.e 1 = headL x ++ bodyL x ((useL x.k).take (j + 1))) := Lib.hid (by rw [bodyL_take x HL.out, ← List.append_assoc, ← HYS.out]; rfl)
          clear c6 c7 c8' c10 c11 c12 c13
          go_wp2_with fail
          refine (big_to (x := x.e) (M := 1) 1 rfl own8 HYL.out (by omega) (by omega) (by omega) (by omega) (by omega)).mono ?_
          intro e w9 hr9
          obtain ⟨ys9, n9, A9, c9', HY9, HN9, rfl, own9, bw9⟩ := hr9.open
          clear hr9
          have hn9 : n9 ≤ n8 + 1 := by rw [← HN9.out, HY9.out, List.length_append, beL_length, HYL.out]; omega
          have HT : Hid (ys9 = headL x ++ bodyL x ((useL x.k).take (j + 1))) := Lib.hid (by rw [HY9.out, HB.out])
          go_wp2_with fail
          go_roundw
          case rel => exact ⟨j + 1, n9, A9, c9', ys9, by omega, rfl, by go_num, HT.out, HN9.out, by omega, own9, hb8.trans bw9⟩
          case measure => simp [intOf]; omega
        · have hq : ((useS x.k)[j].toNat : Int) = 72 := by rw [HS.out]; rfl
          have HB : Hid (ys ++ beL x.h 1 = headL x ++ bodyL x ((useL x.k).take (j + 1))) := Lib.hid (by rw [bodyL_take x HL.out, ← List.append_assoc, ← HYS.out]; rfl)
          clear c6 c7 c8' c9 c11 c12 c13
          go_wp2_with fail
          refine (big_to (x := x.h) (M := 1) 1 rfl own8 HYL.out (by omega) (by omega) (by omega) (by omega) (by omega)).mono ?_
          intro e w9 hr9
          obtain ⟨ys9, n9, A9, c9', HY9, HN9, rfl, own9, bw9⟩ := hr9.open
          clear hr9
          have hn9 : n9 ≤ n8 + 1 := by rw [← HN9.out, HY9.out, List.length_append, beL_length, HYL.out]; omega
          have HT : Hid (ys9 = headL x ++ bodyL x ((useL x.k).take (j + 1))) := Lib.hid (by rw [HY9.out, HB.out])
          go_wp2_with fail
          go_roundw
          case rel => exact ⟨j + 1, n9, A9, c9', ys9, by omega, rfl, by go_num, HT.out, HN9.out, by omega, own9, hb8.trans bw9⟩
          case measure => simp [intOf]; omega
        · have hq : ((useS x.k)[j].toNat : Int) = 67 := by rw [HS.out]; rfl
          have HB : Hid (ys ++ beL x.c 2 = headL x ++ bodyL x ((useL x.k).take (j + 1))) := Lib.hid (by rw [bodyL_take x HL.out, ← List.append_assoc, ← HYS.out]; rfl)
          clear c6 c7 c8' c9 c10 c12 c13
          go_wp2_with fail
          refine (big_to (x := x.c) (M := 2) 2 rfl own8 HYL.out (by omega) (by omega) (by omega) (by omega) (by omega)).mono ?_
          intro e w9 hr9
          obtain ⟨ys9, n9, A9, c9', HY9, HN9, rfl, own9, bw9⟩ := hr9.open
          clear hr9
          have hn9 : n9 ≤ n8 + 2 := by rw [← HN9.out, HY9.out, List.length_append, beL_length, HYL.out]; omega
          have HT : Hid (ys9 = headL x ++ bodyL x ((useL x.k).take (j + 1))) := Lib.hid (by rw [HY9.out, HB.out])
          go_wp2_with fail
          go_roundw
          case rel => exact ⟨j + 1, n9, A9, c9', ys9, by omega, rfl, by go_num, HT.out, HN9.out, by omega, own9, hb8.trans bw9⟩
          case measure => simp [intOf]; omega
        · have hq : ((useS x.k)[j].toNat : Int) = 65 := by rw [HS.out]; rfl
          have HB : Hid (ys ++ beL x.a 4 = headL x ++ bodyL x ((useL x.k).take (j + 1))) := Lib.hid (by rw [bodyL_take x HL.out, ← List.append_assoc, ← HYS.out]; rfl)
          clear c6 c7 c8' c9 c10 c11 c13
          go_wp2_with fail
          refine (big_to (x := x.a) (M := 4) 4 rfl own8 HYL.out (by omega) (by omega) (by omega) (by omega) (by omega)).mono ?_
          intro e w9 hr9
          obtain ⟨ys9, n9, A9, c9', HY9, HN9, rfl, own9, bw9⟩ := hr9.open
          clear hr9
          have hn9 : n9 ≤ n8 + 4 := by rw [← HN9.out, HY9.out, List.length_append, beL_length, HYL.out]; omega
          have HT : Hid (ys9 = headL x ++ bodyL x ((useL x.k).take (j + 1))) := Lib.hid (by rw [HY9.out, HB.out])
          go_wp2_with fail
          go_roundw
          case rel => exact ⟨j + 1, n9, A9, c9', ys9, by omega, rfl, by go_num, HT.out, HN9.out, by omega, own9, hb8.trans bw9⟩
          case measure => simp [intOf]; omega
        · have hq : ((useS x.k)[j].toNat : Int) = 82 := by rw [HS.out]; rfl
          have HB : Hid (ys ++ beL x.r 1 = headL x ++ bodyL x ((useL x.k).take (j + 1))) := Lib.hid (by rw [bodyL_take x HL.out, ← List.append_assoc, ← HYS.out]; rfl)
          clear c6 c7 c8' c9 c10 c11 c12
          go_wp2_with fail
          refine (big_to (x := x.r) (M := 1) 1 rfl own8 HYL.out (by omega) (by omega) (by omega) (by omega) (by omega)).mono ?_
          intro e w9 hr9
          obtain ⟨ys9, n9, A9, c9', HY9, HN9, rfl, own9, bw9⟩ := hr9.open
          clear hr9
          have hn9 : n9 ≤ n8 + 1 := by rw [← HN9.out, HY9.out, List.length_append, beL_length, HYL.out]; omega
          have HT : Hid (ys9 = headL x ++ bodyL x ((useL x.k).take (j + 1))) := Lib.hid (by rw [HY9.out, HB.out])
          go_wp2_with fail
          go_roundw
          case rel => exact ⟨j + 1, n9, A9, c9', ys9, by omega, rfl, by go_num, HT.out, HN9.out, by omega, own9, hb8.trans bw9⟩
          case measure => simp [intOf]; omega
      · have HE : Hid (ys = bysL x) := Lib.hid (by
          have := HYS.out
          rwa [List.take_of_length_le (by rw [← HZ.out]; omega)] at this)
        go_wp2_with fail
        go_ret
        refine ⟨A8, n8, c8, rfl, ?_, by omega, ?_, (hb.trans (hb8.mono (by omega)))⟩
        · rw [← HYL.out, HE.out]
        · rw [← HE.out]; exact ownsRow_base own8 (by omega)
  · have hgv := hgn
    rw [hbg] at hgv
    simp only [if_true] at hgv
    subst hgv
    clear hgn hbg
    go_upto_region 6 with (fail)
    have hBB2 : B ≤ w1.drew.heap.size := hBB
    go_region_held3 (fun w' => w'.cell? ⟨w.heap.size, 0, none⟩ = some (.int .i64 x.i) ∧ w'.cell? ⟨w.heap.size, 1, none⟩ = some (.int .i64 x.n) ∧ w'.cell? ⟨w.heap.size, 2, none⟩ = some (.int .i64 x.v) ∧ w'.cell? ⟨w.heap.size, 4, none⟩ = some (.int .i64 x.p) ∧ w'.cell? ⟨w.heap.size, 5, none⟩ = some (.int .i64 x.k)) (go_keep)
      (first
        | (go_at_call 49; ((with_reducible refine (big_to (x := x.i) (M := 1) 1 rfl (own_drewF hnil) rfl (by omega) (by omega) (by omega) (by omega) hBB2).mono ?_)); intro e u0 hr0; obtain ⟨ys0, n0, A0, k0', HY0, HN0, rfl, own0, bw0⟩ := hr0.open
           clear hr0
           have hn0' : n0 ≤ 1 := by rw [← HN0.out, HY0.out, List.length_append, beL_length]; simp
           have hz0' := bw0.size
           have d00 := (bw0.cell (p := ⟨w.heap.size, 0, none⟩) hwB).trans c0
           have d01 := (bw0.cell (p := ⟨w.heap.size, 1, none⟩) hwB).trans c1
           have d02 := (bw0.cell (p := ⟨w.heap.size, 2, none⟩) hwB).trans c2
           have d04 := (bw0.cell (p := ⟨w.heap.size, 4, none⟩) hwB).trans c4
           have d05 := (bw0.cell (p := ⟨w.heap.size, 5, none⟩) hwB).trans c5)
        | (go_at_call 49; ((with_reducible refine (big_to (x := x.n) (M := 2) 2 rfl own0 HN0.out (by omega) (by omega) (by omega) (by omega) (by omega)).mono ?_)); intro e u1 hr1; obtain ⟨ys1, n1, A1, k1', HY1, HN1, rfl, own1, bw1⟩ := hr1.open
           clear hr1
           have hn1' : n1 ≤ 3 := by rw [← HN1.out, HY1.out, List.length_append, beL_length]; rw [HN0.out]; omega
           have hz1' := bw1.size
           have d10 := (bw1.cell (p := ⟨w.heap.size, 0, none⟩) hwB).trans d00
           have d11 := (bw1.cell (p := ⟨w.heap.size, 1, none⟩) hwB).trans d01
           have d12 := (bw1.cell (p := ⟨w.heap.size, 2, none⟩) hwB).trans d02
           have d14 := (bw1.cell (p := ⟨w.heap.size, 4, none⟩) hwB).trans d04
           have d15 := (bw1.cell (p := ⟨w.heap.size, 5, none⟩) hwB).trans d05)
        | (go_at_call 49; ((with_reducible refine (big_to (x := x.v) (M := 1) 1 rfl own1 HN1.out (by omega) (by omega) (by omega) (by omega) (by omega)).mono ?_)); intro e u2 hr2; obtain ⟨ys2, n2, A2, k2', HY2, HN2, rfl, own2, bw2⟩ := hr2.open
           clear hr2
           have hn2' : n2 ≤ 4 := by rw [← HN2.out, HY2.out, List.length_append, beL_length]; rw [HN1.out]; omega
           have hz2' := bw2.size
           have d20 := (bw2.cell (p := ⟨w.heap.size, 0, none⟩) hwB).trans d10
           have d21 := (bw2.cell (p := ⟨w.heap.size, 1, none⟩) hwB).trans d11
           have d22 := (bw2.cell (p := ⟨w.heap.size, 2, none⟩) hwB).trans d12
           have d24 := (bw2.cell (p := ⟨w.heap.size, 4, none⟩) hwB).trans d14
           have d25 := (bw2.cell (p := ⟨w.heap.size, 5, none⟩) hwB).trans d15)
        | (go_at_call 49; ((with_reducible refine (big_to (x := 1) (M := 1) 1 rfl own2 HN2.out (by omega) (by omega) (by omega) (by omega) (by omega)).mono ?_)); intro e u3 hr3; obtain ⟨ys3, n3, A3, k3', HY3, HN3, rfl, own3, bw3⟩ := hr3.open
           clear hr3
           have hn3' : n3 ≤ 5 := by rw [← HN3.out, HY3.out, List.length_append, beL_length]; rw [HN2.out]; omega
           have hz3' := bw3.size
           have d30 := (bw3.cell (p := ⟨w.heap.size, 0, none⟩) hwB).trans d20
           have d31 := (bw3.cell (p := ⟨w.heap.size, 1, none⟩) hwB).trans d21
           have d32 := (bw3.cell (p := ⟨w.heap.size, 2, none⟩) hwB).trans d22
           have d34 := (bw3.cell (p := ⟨w.heap.size, 4, none⟩) hwB).trans d24
           have d35 := (bw3.cell (p := ⟨w.heap.size, 5, none⟩) hwB).trans d25)
        | (go_at_call 49; ((with_reducible refine (big_to (x := x.p) (M := 1) 1 rfl own3 HN3.out (by omega) (by omega) (by omega) (by omega) (by omega)).mono ?_)); intro e u4 hr4; obtain ⟨ys4, n4, A4, k4', HY4, HN4, rfl, own4, bw4⟩ := hr4.open
           clear hr4
           have hn4' : n4 ≤ 6 := by rw [← HN4.out, HY4.out, List.length_append, beL_length]; rw [HN3.out]; omega
           have hz4' := bw4.size
           have d40 := (bw4.cell (p := ⟨w.heap.size, 0, none⟩) hwB).trans d30
           have d41 := (bw4.cell (p := ⟨w.heap.size, 1, none⟩) hwB).trans d31
           have d42 := (bw4.cell (p := ⟨w.heap.size, 2, none⟩) hwB).trans d32
           have d44 := (bw4.cell (p := ⟨w.heap.size, 4, none⟩) hwB).trans d34
           have d45 := (bw4.cell (p := ⟨w.heap.size, 5, none⟩) hwB).trans d35)
        | (go_at_call 49; ((with_reducible refine (big_to (x := x.k) (M := 1) 1 rfl own4 HN4.out (by omega) (by omega) (by omega) (by omega) (by omega)).mono ?_)); intro e u5 hr5; obtain ⟨ys5, n5, A5, k5', HY5, HN5, rfl, own5, bw5⟩ := hr5.open
           clear hr5
           have hn5' : n5 ≤ 7 := by rw [← HN5.out, HY5.out, List.length_append, beL_length]; rw [HN4.out]; omega
           have hz5' := bw5.size
           have d50 := (bw5.cell (p := ⟨w.heap.size, 0, none⟩) hwB).trans d40
           have d51 := (bw5.cell (p := ⟨w.heap.size, 1, none⟩) hwB).trans d41
           have d52 := (bw5.cell (p := ⟨w.heap.size, 2, none⟩) hwB).trans d42
           have d54 := (bw5.cell (p := ⟨w.heap.size, 4, none⟩) hwB).trans d44
           have d55 := (bw5.cell (p := ⟨w.heap.size, 5, none⟩) hwB).trans d45))
    have hbB := (Below.refl B w1).drew.trans (bw0.trans (bw1.trans (bw2.trans (bw3.trans (bw4.trans bw5)))))
    have hys : ys5 = headL x := by rw [HY5.out, HY4.out, HY3.out, HY2.out, HY1.out, HY0.out]; exact HG.out
    subst hys
    have hrow5 := (hbB.block w.heap.size hwB).trans hrow
    clear hrow HG HY0 HY1 HY2 HY3 HY4 HY5 HN0 HN1 HN2 HN3 HN4 own0 own1 own2 own3 own4 hnil bw0 bw1 bw2 bw3 bw4 bw5 c0 c1 c2 c3 c4 c5 d00 d01 d02 d04 d05 d10 d11 d12 d14 d15 d20 d21 d22 d24 d25 d30 d31 d32 d34 d35 d40 d41 d42 d44 d45 d50 d51 d52 d54 hn0' hn1' hn2' hn3' hn4'
    go_wp2_with fail
    refine (ruses_any x.k _ hk1 hk2).mono ?_
    rintro e w7 ⟨rfl, hb7⟩
    have hbB7 := hbB.trans (hb7.mono (by omega))
    have own7 := own_underF own5 hb7
    have hrow7 := (hb7.block w.heap.size (by omega)).trans hrow5
    have HZ := Lib.hid (useS_size x.k)
    have hul := useL_length x.k
    have hkk := Lib.hid (And.intro hk1 hk2)
    clear d55 own5 hbB hb7 hrow5 hk1 hk2 hi1 hi2 hn1 hn2 hv1 hv2 hp1 hp2 hz0' hz1' hz2' hz3' hz4' hz5'
    go_wp2_with fail
    go_loopw [4, 6] (fun v i wn => ∃ (j n8 : Nat) (A8 : Option Addr) (c8 : Nat) (ys : List Int), j ≤ (useS x.k).size ∧ v = .slice A8 n8 c8 ∧ i = .int .i64 (j : Int) ∧ ys = headL x ++ bodyL x ((useL x.k).take j) ∧ ys.length = n8 ∧ n8 ≤ 7 + 6 * j ∧ wn.ownsRow B 5 1 (.slice A8 n8 c8) n8 (bys ys) ∧ Below B w1 wn) (fun _ i _ => (useS x.k).size - (intOf i).toNat)
    case atStart => exact ⟨0, _, _, _, headL x, by omega, rfl, rfl, by simp [bodyL], HN5.out, by omega, own7, hbB7⟩
    case round =>
      obtain ⟨wo, rfl⟩ : ∃ wo : World, wo = w7 := ⟨_, rfl⟩
      have hrow := (hbB7.block w.heap.size hwB).symm.trans hrow7
      clear own7 hbB7 hrow7
      obtain ⟨j, n8, A8, c8, ys, hj, rfl, rfl, hys, hyl, hn8, own8, hb8⟩ := hrel
      have HYS := Lib.hid hys
      have HYL := Lib.hid hyl
      have hz8 := hb8.size
      clear hys hyl
      have hsz : (useS x.k).size ≤ 6 := by rw [HZ.out]; exact hul
      by_cases hlt : j < (useS x.k).size
      · obtain ⟨l, hl, hs⟩ := useS_at hlt
        have hlm := useL_mem x.k l (List.mem_of_getElem? hl)
        have HL := Lib.hid hl
        have HS := Lib.hid hs
        have hrow8 := (hb8.block w.heap.size hwB).trans hrow
        obtain ⟨_, _, _, _, _, _, c6, c7, c8', c9, c10, c11, c12, c13⟩ := fcAt_row hrow8
        rw [Nat.zero_add] at c6 c7 c8' c9 c10 c11 c12 c13
        clear hl hs hrow8 hrow
        rcases hlm with rfl | rfl | rfl | rfl | rfl | rfl | rfl
        · have hq : ((useS x.k)[j].toNat : Int) = 83 := by rw [HS.out]; rfl
          have HB : Hid (ys ++ beL x.s 1 = headL x ++ bodyL x ((useL x.k).take (j + 1))) := Lib.hid (by rw [bodyL_take x HL.out, ← List.append_assoc, ← HYS.out]; rfl)
          clear c7 c8' c9 c10 c11 c12 c13
          go_wp2_with fail
          refine (big_to (x := x.s) (M := 1) 1 rfl own8 HYL.out (by omega) (by omega) (by omega) (by omega) (by omega)).mono ?_
          intro e w9 hr9
          obtain ⟨ys9, n9, A9, c9', HY9, HN9, rfl, own9, bw9⟩ := hr9.open
          clear hr9
          have hn9 : n9 ≤ n8 + 1 := by rw [← HN9.out, HY9.out, List.length_append, beL_length, HYL.out]; omega
          have HT : Hid (ys9 = headL x ++ bodyL x ((useL x.k).take (j + 1))) := Lib.hid (by rw [HY9.out, HB.out])
          go_wp2_with fail
          go_roundw
          case rel => exact ⟨j + 1, n9, A9, c9', ys9, by omega, rfl, by go_num, HT.out, HN9.out, by omega, own9, hb8.trans bw9⟩
          case measure => simp [intOf]; omega
        · have hq : ((useS x.k)[j].toNat : Int) = 80 := by rw [HS.out]; rfl
          have HB : Hid ((ys ++ beL x.f 3) ++ beL x.t 3 = headL x ++ bodyL x ((useL x.k).take (j + 1))) := Lib.hid (by rw [bodyL_take x HL.out, ← List.append_assoc, ← HYS.out, List.append_assoc]; rfl)
          clear c6 c9 c10 c11 c12 c13
          go_upto_region 15 with (fail)
          have hBd := hb8.drew.size
          go_region_held3 (fun w' => w'.cell? ⟨w.heap.size, 7, none⟩ = some (.int .i64 x.f) ∧ w'.cell? ⟨w.heap.size, 8, none⟩ = some (.int .i64 x.t)) (go_keep)
            (first
              | (go_at_call 49; ((with_reducible refine (big_to (x := x.f) (M := 3) 3 rfl (own_drewF own8) HYL.out (by omega) (by omega) (by omega) (by omega) (by omega)).mono ?_)); intro e u9 hr9; obtain ⟨ys9, n9, A9, c9', HY9, HN9, rfl, own9, bw9⟩ := hr9.open
                 clear hr9
                 have hn9 : n9 ≤ n8 + 3 := by rw [← HN9.out, HY9.out, List.length_append, beL_length, HYL.out]; omega
                 have hz9 := bw9.size
                 have d7 := (bw9.cell (p := ⟨w.heap.size, 7, none⟩) hwB).trans c7
                 have d8 := (bw9.cell (p := ⟨w.heap.size, 8, none⟩) hwB).trans c8')
              | (go_at_call 49; ((with_reducible refine (big_to (x := x.t) (M := 3) 3 rfl own9 HN9.out (by omega) (by omega) (by omega) (by omega) (by omega)).mono ?_)); intro e u10 hr10; obtain ⟨ys10, n10, A10, c10', HY10, HN10, rfl, own10, bw10⟩ := hr10.open
                 clear hr10
                 have hn10 : n10 ≤ n9 + 3 := by rw [← HN10.out, HY10.out, List.length_append, beL_length, HN9.out]; omega
                 have d77 := (bw10.cell (p := ⟨w.heap.size, 7, none⟩) hwB).trans d7
                 have d88 := (bw10.cell (p := ⟨w.heap.size, 8, none⟩) hwB).trans d8))
          have HT : Hid (ys10 = headL x ++ bodyL x ((useL x.k).take (j + 1))) := Lib.hid (by rw [HY10.out, HY9.out, HB.out])
          go_wp2_with fail
          go_roundw
          case rel => exact ⟨j + 1, n10, A10, c10', ys10, by omega, rfl, by go_num, HT.out, HN10.out, by omega, own10, hb8.drew.trans (bw9.trans bw10)⟩
          case measure => simp [intOf]; omega
        · have hq : ((useS x.k)[j].toNat : Int) = 84 := by rw [HS.out]; rfl
          have HB : Hid (ys ++ beL x.e 1 = headL x ++ bodyL x ((useL x.k).take (j + 1))) := Lib.hid (by rw [bodyL_take x HL.out, ← List.append_assoc, ← HYS.out]; rfl)
          clear c6 c7 c8' c10 c11 c12 c13
          go_wp2_with fail
          refine (big_to (x := x.e) (M := 1) 1 rfl own8 HYL.out (by omega) (by omega) (by omega) (by omega) (by omega)).mono ?_
          intro e w9 hr9
          obtain ⟨ys9, n9, A9, c9', HY9, HN9, rfl, own9, bw9⟩ := hr9.open
          clear hr9
          have hn9 : n9 ≤ n8 + 1 := by rw [← HN9.out, HY9.out, List.length_append, beL_length, HYL.out]; omega
          have HT : Hid (ys9 = headL x ++ bodyL x ((useL x.k).take (j + 1))) := Lib.hid (by rw [HY9.out, HB.out])
          go_wp2_with fail
          go_roundw
          case rel => exact ⟨j + 1, n9, A9, c9', ys9, by omega, rfl, by go_num, HT.out, HN9.out, by omega, own9, hb8.trans bw9⟩
          case measure => simp [intOf]; omega
        · have hq : ((useS x.k)[j].toNat : Int) = 72 := by rw [HS.out]; rfl
          have HB : Hid (ys ++ beL x.h 1 = headL x ++ bodyL x ((useL x.k).take (j + 1))) := Lib.hid (by rw [bodyL_take x HL.out, ← List.append_assoc, ← HYS.out]; rfl)
          clear c6 c7 c8' c9 c11 c12 c13
          go_wp2_with fail
          refine (big_to (x := x.h) (M := 1) 1 rfl own8 HYL.out (by omega) (by omega) (by omega) (by omega) (by omega)).mono ?_
          intro e w9 hr9
          obtain ⟨ys9, n9, A9, c9', HY9, HN9, rfl, own9, bw9⟩ := hr9.open
          clear hr9
          have hn9 : n9 ≤ n8 + 1 := by rw [← HN9.out, HY9.out, List.length_append, beL_length, HYL.out]; omega
          have HT : Hid (ys9 = headL x ++ bodyL x ((useL x.k).take (j + 1))) := Lib.hid (by rw [HY9.out, HB.out])
          go_wp2_with fail
          go_roundw
          case rel => exact ⟨j + 1, n9, A9, c9', ys9, by omega, rfl, by go_num, HT.out, HN9.out, by omega, own9, hb8.trans bw9⟩
          case measure => simp [intOf]; omega
        · have hq : ((useS x.k)[j].toNat : Int) = 67 := by rw [HS.out]; rfl
          have HB : Hid (ys ++ beL x.c 2 = headL x ++ bodyL x ((useL x.k).take (j + 1))) := Lib.hid (by rw [bodyL_take x HL.out, ← List.append_assoc, ← HYS.out]; rfl)
          clear c6 c7 c8' c9 c10 c12 c13
          go_wp2_with fail
          refine (big_to (x := x.c) (M := 2) 2 rfl own8 HYL.out (by omega) (by omega) (by omega) (by omega) (by omega)).mono ?_
          intro e w9 hr9
          obtain ⟨ys9, n9, A9, c9', HY9, HN9, rfl, own9, bw9⟩ := hr9.open
          clear hr9
          have hn9 : n9 ≤ n8 + 2 := by rw [← HN9.out, HY9.out, List.length_append, beL_length, HYL.out]; omega
          have HT : Hid (ys9 = headL x ++ bodyL x ((useL x.k).take (j + 1))) := Lib.hid (by rw [HY9.out, HB.out])
          go_wp2_with fail
          go_roundw
          case rel => exact ⟨j + 1, n9, A9, c9', ys9, by omega, rfl, by go_num, HT.out, HN9.out, by omega, own9, hb8.trans bw9⟩
          case measure => simp [intOf]; omega
        · have hq : ((useS x.k)[j].toNat : Int) = 65 := by rw [HS.out]; rfl
          have HB : Hid (ys ++ beL x.a 4 = headL x ++ bodyL x ((useL x.k).take (j + 1))) := Lib.hid (by rw [bodyL_take x HL.out, ← List.append_assoc, ← HYS.out]; rfl)
          clear c6 c7 c8' c9 c10 c11 c13
          go_wp2_with fail
          refine (big_to (x := x.a) (M := 4) 4 rfl own8 HYL.out (by omega) (by omega) (by omega) (by omega) (by omega)).mono ?_
          intro e w9 hr9
          obtain ⟨ys9, n9, A9, c9', HY9, HN9, rfl, own9, bw9⟩ := hr9.open
          clear hr9
          have hn9 : n9 ≤ n8 + 4 := by rw [← HN9.out, HY9.out, List.length_append, beL_length, HYL.out]; omega
          have HT : Hid (ys9 = headL x ++ bodyL x ((useL x.k).take (j + 1))) := Lib.hid (by rw [HY9.out, HB.out])
          go_wp2_with fail
          go_roundw
          case rel => exact ⟨j + 1, n9, A9, c9', ys9, by omega, rfl, by go_num, HT.out, HN9.out, by omega, own9, hb8.trans bw9⟩
          case measure => simp [intOf]; omega
        · have hq : ((useS x.k)[j].toNat : Int) = 82 := by rw [HS.out]; rfl
          have HB : Hid (ys ++ beL x.r 1 = headL x ++ bodyL x ((useL x.k).take (j + 1))) := Lib.hid (by rw [bodyL_take x HL.out, ← List.append_assoc, ← HYS.out]; rfl)
          clear c6 c7 c8' c9 c10 c11 c12
          go_wp2_with fail
          refine (big_to (x := x.r) (M := 1) 1 rfl own8 HYL.out (by omega) (by omega) (by omega) (by omega) (by omega)).mono ?_
          intro e w9 hr9
          obtain ⟨ys9, n9, A9, c9', HY9, HN9, rfl, own9, bw9⟩ := hr9.open
          clear hr9
          have hn9 : n9 ≤ n8 + 1 := by rw [← HN9.out, HY9.out, List.length_append, beL_length, HYL.out]; omega
          have HT : Hid (ys9 = headL x ++ bodyL x ((useL x.k).take (j + 1))) := Lib.hid (by rw [HY9.out, HB.out])
          go_wp2_with fail
          go_roundw
          case rel => exact ⟨j + 1, n9, A9, c9', ys9, by omega, rfl, by go_num, HT.out, HN9.out, by omega, own9, hb8.trans bw9⟩
          case measure => simp [intOf]; omega
      · have HE : Hid (ys = bysL x) := Lib.hid (by
          have := HYS.out
          rwa [List.take_of_length_le (by rw [← HZ.out]; omega)] at this)
        go_wp2_with fail
        go_ret
        refine ⟨A8, n8, c8, rfl, ?_, by omega, ?_, (hb.trans (hb8.mono (by omega)))⟩
        · rw [← HYL.out, HE.out]
        · rw [← HE.out]; exact ownsRow_base own8 (by omega)
end Go.Proofs.Ytbogmkhoppffgaa
