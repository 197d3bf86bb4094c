/- The bytes of a valid fact: the program. -/
import Derived.Test.YtbogmkhoppffgaaFcF
import Derived.Lib.OthersKept
namespace Go.Proofs.Ytbogmkhoppffgaa
open Go.RowKit

theorem own_iter_ne {w : World} {base e sz n k pos : Nat} {v : Value} {xs : List Value} {s : ByteArray} (h : w.ownsRow base e sz v n xs) (hk : w.heap[k]? = some (.stringIter s pos)) : v.ownBlock ≠ some k := by
  rcases h.2 with ⟨rfl, _⟩ | ⟨g, cap, cur, rfl, _, hg, _⟩
  · simp [Value.ownBlock]
  · intro e2
    have e3 : g = k := by simpa [Value.ownBlock] using e2
    rw [e3, hk] at hg
    cases hg
theorem own_iter {w : World} {base e sz n k pos : Nat} {v : Value} {xs : List Value} {s : ByteArray} (h : w.ownsRow base e sz v n xs) (hk : w.heap[k]? = some (.stringIter s pos)) (pos' : Nat) : (w.iterAt k s pos').ownsRow base e sz v n xs :=
  h.kept (row := some k) ⟨rfl, rfl, rfl, by rw [Lib.iterAt_size]; exact Nat.le_refl _, fun i _ hne => Lib.iterAt_other w k i s pos' (fun e => hne (by rw [e]))⟩ (.inr (own_iter_ne h hk))
/-- Bytes appended are returned; what else stands. -/
def RetBn (W : World) (base : Nat) (b : Option Nat) (zs : List Int) (e : Ending) (w' : World) : Prop :=
  ∃ (ys : List Int) (n : Nat) (A : Option Addr) (c : Nat), Hid (ys = zs) ∧ Hid (ys.length = n) ∧ e = .returned (.slice A n c) ∧ w'.ownsRow base 5 1 (.slice A n c) n (bys ys) ∧ Below base W w' ∧ W.grownBy w' b
theorem appn_to {A : Option Addr} {c n q : Nat} {zs : List Int} {M : Int} (m : Nat) (cs : Array Value) (xs : List Int) {base : Nat} {W : World} (hM : (m : Int) = M) (hcs : cs.toList = ints xs) (hq : xs.length = q) (h : W.ownsRow base 5 1 (.slice A n c) n (bys zs)) (hn : zs.length = n) (hz : n ≤ 1000) (hq8 : q ≤ 8) (h01 : ∀ x ∈ xs, 0 ≤ x ∧ x ≤ 4611686018427387904) (hm : m ≤ 8) (hbase : base ≤ W.heap.size) :
    Calls Try.prog 85 #[.slice A n c, .int .i64 M, .slice (some ⟨W.heap.size, 0, none⟩) q q] (W.alloc (.cells cs 3)) (RetBn W base (Value.slice A n c).ownBlock (zs ++ xs.flatMap fun x => beL x m)) := by
  subst hM
  have hsz : cs.size = q * 1 := by
    have := congrArg List.length hcs
    rw [ints_length] at this
    simp at this
    omega
  have hrd := Rd.built (B := (W.alloc (.cells cs 3)).heap.size) (heap_alloc_new W (.cells cs 3)) (by simp) hsz
  rw [hcs] at hrd
  refine (appn_any (h.alloc (.cells cs 3)) hn hz hrd (fun g o e e2 => ?_) hq8 h01 hm (by simp; omega)).mono ?_
  · injection e with e
    injection e with e
    have := (h.lt g e2).2
    omega
  · rintro e w' ⟨A', c', he, ho, hb, hg⟩
    exact ⟨_, _, A', c', rfl, rfl, he, ho, ((Below.refl _ _).alloc hbase _).trans hb, grownBy_trans (World.grownBy_alloc W _ _) hg.1⟩

set_option maxRecDepth 100000 in
set_option maxHeartbeats 8000000 in
theorem tbytesF {x : Fc} (hv : Vld x) (w : World) : Calls Try.prog 70 #[x.agg] w (RetF w x) := by
  have HV := Lib.hid hv
  obtain ⟨hi1, hi2⟩ := hv.i
  obtain ⟨hn1, hn2⟩ := hv.n
  obtain ⟨hv1, hv2⟩ := hv.v
  obtain ⟨hp1, hp2⟩ := hv.p
  obtain ⟨hk1, hk2⟩ := hv.k
  obtain ⟨hf0, hft, ht1⟩ := hv.sp
  obtain ⟨⟨s1, s2⟩, ⟨e1, e2⟩, ⟨h1, h2⟩, ⟨k1, k2⟩, ⟨a1, a2⟩, ⟨r1, r2⟩⟩ := hv.small
  clear hv
  go_enter Try.func70, Try.ntmps70
  unfold Fc.agg
  go_wp2_with fail
  refine (tvalidF HV.out _).mono ?_
  rintro e w1 ⟨rfl, hb1⟩
  have hrow0 := heap_alloc_new w (.cells x.cells.toArray 40)
  have hbA := (Below.refl w.heap.size w).alloc (Nat.le_refl _) (.cells x.cells.toArray 40)
  have hrow := (hb1.block w.heap.size (by simp)).trans hrow0
  have hb := hbA.trans (hb1.mono (by simp))
  have hbl : w.heap.size < w1.heap.size := (Array.getElem?_eq_some_iff.1 hrow).1
  have hz1 := hb.size
  clear hb1 hbA hrow0
  obtain ⟨c0, c1, c2, c3, c4, c5, _, _, _, _, _, _, _, _⟩ := fcAt_row hrow
  rw [Nat.zero_add] at c1 c2 c3 c4 c5
  obtain ⟨gn, hgn⟩ : ∃ g : Int, (if x.g = true then (1 : Int) else 0) = g := ⟨_, rfl⟩
  have hnil : w1.ownsRow w1.heap.size 5 1 (.slice none 0 0) 0 (bys []) := World.ownsRow_nil _ _ _ _
  obtain ⟨B, hB⟩ : ∃ B, B = w1.heap.size := ⟨_, rfl⟩
  have hBB : B ≤ w1.heap.size := by omega
  rw [← hB] at hnil
  have hwB : w.heap.size < B := by omega
  have hw1B : w1.heap.size ≤ B := by omega
  clear hB
  obtain ⟨b, hbg⟩ : ∃ b, x.g = b := ⟨_, rfl⟩
  rw [hbg] at c3
  cases b
  · have hgv := hgn
    rw [hbg] at hgv
    simp only [Bool.false_eq_true, if_false] at hgv
    have HG : Hid ((if x.g = true then (1 : Int) else 0) = 0) := Lib.hid (by rw [hgn, ← hgv])
    clear hgn hgv hbg
    go_wp2_with fail
    refine (appn_to (q := 1) (M := 1) 1 #[.int .i64 x.i] [x.i] rfl rfl rfl hnil rfl (by omega) (by omega) (by intro y hy; simp at hy; omega) (by omega) (by omega)).mono ?_
    rintro e u0 ⟨ys0, n0, A0, q0, HY0, HN0, rfl, own0, bw0, -⟩
    have hn0' : n0 ≤ 1 := by rw [← HN0.out, HY0.out, List.length_append]; simp [beL_length]
    have hz0' := bw0.size
    have bb0 := (Below.refl B w1).trans bw0
    have rw0 := (bb0.block w.heap.size hwB).trans hrow
    obtain ⟨d00, d01, d02, d03, d04, d05, _, _, _, _, _, _, _, _⟩ := fcAt_row rw0
    rw [Nat.zero_add] at d01 d02 d03 d04 d05
    clear rw0 d03
    go_wp2_with fail
    refine (appn_to (q := 1) (M := 2) 2 #[.int .i64 x.n] [x.n] rfl rfl rfl own0 HN0.out (by omega) (by omega) (by intro y hy; simp at hy; omega) (by omega) (by omega)).mono ?_
    rintro e u1 ⟨ys1, n1, A1, q1, HY1, HN1, rfl, own1, bw1, -⟩
    have hn1' : n1 ≤ 3 := by rw [← HN1.out, HY1.out, List.length_append]; simp [beL_length]; have := HN0.out; omega
    have hz1' := bw1.size
    have bb1 := bb0.trans bw1
    have rw1 := (bb1.block w.heap.size hwB).trans hrow
    obtain ⟨d10, d11, d12, d13, d14, d15, _, _, _, _, _, _, _, _⟩ := fcAt_row rw1
    rw [Nat.zero_add] at d11 d12 d13 d14 d15
    clear rw1 d13
    go_wp2_with fail
    refine (appn_to (q := 4) (M := 1) 1 #[.int .i64 x.v, .int .i64 0, .int .i64 x.p, .int .i64 x.k] [x.v, 0, x.p, x.k] rfl rfl rfl own1 HN1.out (by omega) (by omega) (by intro y hy; simp at hy; omega) (by omega) (by omega)).mono ?_
    rintro e u2 ⟨ys2, n2, A2, q2, HY2, HN2, rfl, own2, bw2, -⟩
    have hn2' : n2 ≤ 7 := by rw [← HN2.out, HY2.out, List.length_append]; simp [beL_length]; have := HN1.out; omega
    have hz2' := bw2.size
    have bb2 := bb1.trans bw2
    have rw2 := (bb2.block w.heap.size hwB).trans hrow
    obtain ⟨d20, d21, d22, d23, d24, d25, _, _, _, _, _, _, _, _⟩ := fcAt_row rw2
    rw [Nat.zero_add] at d21 d22 d23 d24 d25
    clear rw2 d23
    go_wp2_with fail
    refine (tuses_any x.k _ hk1 hk2).mono ?_
    rintro e _ ⟨rfl, rfl⟩
    have hys : ys2 = headL x := by rw [HY2.out, HY1.out, HY0.out]; unfold headL; rw [HG.out]; simp [List.flatMap_cons]
    subst hys
    have hrou2 := (bb2.block w.heap.size hwB).trans hrow
    have HZ := Lib.hid (useS_size x.k)
    have hul := useL_length x.k
    have hkk := Lib.hid (And.intro hk1 hk2)
    have hki := World.iter_heap u2 (useS x.k) 0
    have own7 := own2.alloc (.stringIter (useS x.k) 0)
    have bb7 := bb2.alloc (by omega) (.stringIter (useS x.k) 0)
    have hKB : B ≤ u2.heap.size := by omega
    obtain ⟨K, hK⟩ : ∃ K, K = u2.heap.size := ⟨_, rfl⟩
    have hzi : K < (u2.iter (useS x.k) 0).heap.size := by rw [hK]; exact (Array.getElem?_eq_some_iff.1 hki).1
    rw [← hK] at hki hKB
    have HROW := Lib.hid hrow
    clear hrow HG HY0 HY1 HY2 HN0 HN1 own0 own1 own2 hnil bw0 bw1 bw2 bb0 bb1 bb2 c0 c1 c2 c4 c5 d00 d01 d02 d04 d05 d10 d11 d12 d14 d15 d20 d21 d22 d24 d25 hn0' hn1' hk1 hk2 hi1 hi2 hn1 hn2 hv1 hv2 hp1 hp2 hz0' hz1' hz2'
    go_wp2_with fail
    rw [← hK]
    clear hK
    go_loopw [4] (fun v wn => ∃ (pos n8 : Nat) (A8 : Option Addr) (c8 : Nat) (ys : List Int), pos ≤ (useS x.k).size ∧ v = .slice A8 n8 c8 ∧ ys = headL x ++ bodyL x ((useL x.k).take pos) ∧ ys.length = n8 ∧ n8 ≤ 7 + 6 * pos ∧ wn.heap[K]? = some (.stringIter (useS x.k) pos) ∧ wn.ownsRow B 5 1 (.slice A8 n8 c8) n8 (bys ys) ∧ Below B w1 wn) (fun _ wn => (useS x.k).size - wn.iterPos K)
    case atStart => exact ⟨0, _, _, _, headL x, by omega, rfl, by simp [bodyL], HN2.out, by omega, hki, own7, bb7⟩
    case round =>
      clear hki own7 bb7
      obtain ⟨pos, n8, A8, c8, ys, hps, rfl, hys, hyl, hn8, hk, own8, hb8⟩ := hrel
      have HYS := Lib.hid hys
      have HYL := Lib.hid hyl
      have hz8 := hb8.size
      clear hys hyl
      have hsz : (useS x.k).size ≤ 6 := by rw [HZ.out]; exact hul
      have hmu : wr.iterPos K = pos := by simp [World.iterPos, hk]
      by_cases hlt : pos < (useS x.k).size
      · obtain ⟨l, hl, hs⟩ := useS_at hlt
        have hlm := useL_mem x.k l (List.mem_of_getElem? hl)
        have h128 : ((useS x.k)[pos]'hlt).toNat < 128 := by rw [hs]; rcases hlm with rfl | rfl | rfl | rfl | rfl | rfl | rfl <;> decide
        have hnext : ∀ ty, (Instr.next (.pointer (some ⟨K, 0, none⟩)) true ty).run Try.prog wr = _ := fun ty => Lib.run_next_ascii_at wr K (useS x.k) pos ty hk hlt h128
        have own9 := own_iter own8 hk (pos + 1)
        have hk1 := Lib.iterAt_heap wr K (useS x.k) pos (pos + 1) hk
        have hb9 := Lib.below_iterAt hb8 hKB (useS x.k) (pos + 1)
        obtain ⟨W1, hW1⟩ : ∃ W1, W1 = wr.iterAt K (useS x.k) (pos + 1) := ⟨_, rfl⟩
        rw [← hW1] at hnext own9 hk1 hb9
        clear hW1 own8 hk hb8 hz8
        have hKW : K < W1.heap.size := (Array.getElem?_eq_some_iff.1 hk1).1
        have hz9 := hb9.size
        have HL := Lib.hid hl
        have HS := Lib.hid hs
        have hrow8 := (hb9.block w.heap.size hwB).trans HROW.out
        obtain ⟨_, _, _, _, _, _, c6, c7, c8', c9, c10, c11, c12, c13⟩ := fcAt_row hrow8
        rw [Nat.zero_add] at c6 c7 c8' c9 c10 c11 c12 c13
        clear hl hs hrow8 h128
        rcases hlm with rfl | rfl | rfl | rfl | rfl | rfl | rfl
        · have hq : ((useS x.k)[pos].toNat : Int) = 83 := by rw [HS.out]; rfl
          have HB : Hid (ys ++ ([x.s]).flatMap (fun y => beL y 1) = headL x ++ bodyL x ((useL x.k).take (pos + 1))) := Lib.hid (by
            have he : encL x 83 = beL x.s 1 := rfl
            rw [bodyL_take x HL.out, ← List.append_assoc, ← HYS.out, he]
            simp [List.flatMap_cons])
          clear c7 c8' c9 c10 c11 c12 c13
          go_wp2_with fail
          refine (appn_to (q := 1) (M := 1) 1 #[.int .i64 x.s] [x.s] rfl rfl rfl own9 HYL.out (by omega) (by omega) (by intro y hy; simp at hy; omega) (by omega) (by omega)).mono ?_
          rintro e u9 ⟨ys9, n9, A9, q9, HY9, HN9, rfl, own10, bw9, hg9⟩
          have hn9 : n9 ≤ n8 + 1 := by
            have h3 := HYL.out
            rw [← HN9.out, HY9.out, List.length_append]
            simp [beL_length]
            omega
          have hk2 := (hg9.block K hKW (own_iter_ne own9 hk1).symm).trans hk1
          have HT : Hid (ys9 = headL x ++ bodyL x ((useL x.k).take (pos + 1))) := Lib.hid (by rw [HY9.out, HB.out])
          have hb10 := hb9.trans bw9
          clear hg9 own9 hk1 bw9 hnext
          go_wp2_with fail
          go_roundw
          case rel => exact ⟨pos + 1, n9, A9, q9, ys9, by omega, rfl, HT.out, HN9.out, by omega, hk2, own10, hb10⟩
          case measure =>
            have hmu2 : u9.iterPos K = pos + 1 := by simp [World.iterPos, hk2]
            rw [hmu, hmu2]
            omega
        · have hq : ((useS x.k)[pos].toNat : Int) = 80 := by rw [HS.out]; rfl
          have HB : Hid (ys ++ ([x.f, x.t]).flatMap (fun y => beL y 3) = headL x ++ bodyL x ((useL x.k).take (pos + 1))) := Lib.hid (by
            have he : encL x 80 = beL x.f 3 ++ beL x.t 3 := rfl
            rw [bodyL_take x HL.out, ← List.append_assoc, ← HYS.out, he]
            simp [List.flatMap_cons])
          clear c6 c9 c10 c11 c12 c13
          go_wp2_with fail
          refine (appn_to (q := 2) (M := 3) 3 #[.int .i64 x.f, .int .i64 x.t] [x.f, x.t] rfl rfl rfl own9 HYL.out (by omega) (by omega) (by intro y hy; simp at hy; omega) (by omega) (by omega)).mono ?_
          rintro e u9 ⟨ys9, n9, A9, q9, HY9, HN9, rfl, own10, bw9, hg9⟩
          have hn9 : n9 ≤ n8 + 6 := by
            have h3 := HYL.out
            rw [← HN9.out, HY9.out, List.length_append]
            simp [beL_length]
            omega
          have hk2 := (hg9.block K hKW (own_iter_ne own9 hk1).symm).trans hk1
          have HT : Hid (ys9 = headL x ++ bodyL x ((useL x.k).take (pos + 1))) := Lib.hid (by rw [HY9.out, HB.out])
          have hb10 := hb9.trans bw9
          clear hg9 own9 hk1 bw9 hnext
          go_wp2_with fail
          go_roundw
          case rel => exact ⟨pos + 1, n9, A9, q9, ys9, by omega, rfl, HT.out, HN9.out, by omega, hk2, own10, hb10⟩
          case measure =>
            have hmu2 : u9.iterPos K = pos + 1 := by simp [World.iterPos, hk2]
            rw [hmu, hmu2]
            omega
        · have hq : ((useS x.k)[pos].toNat : Int) = 84 := by rw [HS.out]; rfl
          have HB : Hid (ys ++ ([x.e]).flatMap (fun y => beL y 1) = headL x ++ bodyL x ((useL x.k).take (pos + 1))) := Lib.hid (by
            have he : encL x 84 = beL x.e 1 := rfl
            rw [bodyL_take x HL.out, ← List.append_assoc, ← HYS.out, he]
            simp [List.flatMap_cons])
          clear c6 c7 c8' c10 c11 c12 c13
          go_wp2_with fail
          refine (appn_to (q := 1) (M := 1) 1 #[.int .i64 x.e] [x.e] rfl rfl rfl own9 HYL.out (by omega) (by omega) (by intro y hy; simp at hy; omega) (by omega) (by omega)).mono ?_
          rintro e u9 ⟨ys9, n9, A9, q9, HY9, HN9, rfl, own10, bw9, hg9⟩
          have hn9 : n9 ≤ n8 + 1 := by
            have h3 := HYL.out
            rw [← HN9.out, HY9.out, List.length_append]
            simp [beL_length]
            omega
          have hk2 := (hg9.block K hKW (own_iter_ne own9 hk1).symm).trans hk1
          have HT : Hid (ys9 = headL x ++ bodyL x ((useL x.k).take (pos + 1))) := Lib.hid (by rw [HY9.out, HB.out])
          have hb10 := hb9.trans bw9
          clear hg9 own9 hk1 bw9 hnext
          go_wp2_with fail
          go_roundw
          case rel => exact ⟨pos + 1, n9, A9, q9, ys9, by omega, rfl, HT.out, HN9.out, by omega, hk2, own10, hb10⟩
          case measure =>
            have hmu2 : u9.iterPos K = pos + 1 := by simp [World.iterPos, hk2]
            rw [hmu, hmu2]
            omega
        · have hq : ((useS x.k)[pos].toNat : Int) = 72 := by rw [HS.out]; rfl
          have HB : Hid (ys ++ ([x.h]).flatMap (fun y => beL y 1) = headL x ++ bodyL x ((useL x.k).take (pos + 1))) := Lib.hid (by
            have he : encL x 72 = beL x.h 1 := rfl
            rw [bodyL_take x HL.out, ← List.append_assoc, ← HYS.out, he]
            simp [List.flatMap_cons])
          clear c6 c7 c8' c9 c11 c12 c13
          go_wp2_with fail
          refine (appn_to (q := 1) (M := 1) 1 #[.int .i64 x.h] [x.h] rfl rfl rfl own9 HYL.out (by omega) (by omega) (by intro y hy; simp at hy; omega) (by omega) (by omega)).mono ?_
          rintro e u9 ⟨ys9, n9, A9, q9, HY9, HN9, rfl, own10, bw9, hg9⟩
          have hn9 : n9 ≤ n8 + 1 := by
            have h3 := HYL.out
            rw [← HN9.out, HY9.out, List.length_append]
            simp [beL_length]
            omega
          have hk2 := (hg9.block K hKW (own_iter_ne own9 hk1).symm).trans hk1
          have HT : Hid (ys9 = headL x ++ bodyL x ((useL x.k).take (pos + 1))) := Lib.hid (by rw [HY9.out, HB.out])
          have hb10 := hb9.trans bw9
          clear hg9 own9 hk1 bw9 hnext
          go_wp2_with fail
          go_roundw
          case rel => exact ⟨pos + 1, n9, A9, q9, ys9, by omega, rfl, HT.out, HN9.out, by omega, hk2, own10, hb10⟩
          case measure =>
            have hmu2 : u9.iterPos K = pos + 1 := by simp [World.iterPos, hk2]
            rw [hmu, hmu2]
            omega
        · have hq : ((useS x.k)[pos].toNat : Int) = 67 := by rw [HS.out]; rfl
          have HB : Hid (ys ++ ([x.c]).flatMap (fun y => beL y 2) = headL x ++ bodyL x ((useL x.k).take (pos + 1))) := Lib.hid (by
            have he : encL x 67 = beL x.c 2 := rfl
            rw [bodyL_take x HL.out, ← List.append_assoc, ← HYS.out, he]
            simp [List.flatMap_cons])
          clear c6 c7 c8' c9 c10 c12 c13
          go_wp2_with fail
          refine (appn_to (q := 1) (M := 2) 2 #[.int .i64 x.c] [x.c] rfl rfl rfl own9 HYL.out (by omega) (by omega) (by intro y hy; simp at hy; omega) (by omega) (by omega)).mono ?_
          rintro e u9 ⟨ys9, n9, A9, q9, HY9, HN9, rfl, own10, bw9, hg9⟩
          have hn9 : n9 ≤ n8 + 2 := by
            have h3 := HYL.out
            rw [← HN9.out, HY9.out, List.length_append]
            simp [beL_length]
            omega
          have hk2 := (hg9.block K hKW (own_iter_ne own9 hk1).symm).trans hk1
          have HT : Hid (ys9 = headL x ++ bodyL x ((useL x.k).take (pos + 1))) := Lib.hid (by rw [HY9.out, HB.out])
          have hb10 := hb9.trans bw9
          clear hg9 own9 hk1 bw9 hnext
          go_wp2_with fail
          go_roundw
          case rel => exact ⟨pos + 1, n9, A9, q9, ys9, by omega, rfl, HT.out, HN9.out, by omega, hk2, own10, hb10⟩
          case measure =>
            have hmu2 : u9.iterPos K = pos + 1 := by simp [World.iterPos, hk2]
            rw [hmu, hmu2]
            omega
        · have hq : ((useS x.k)[pos].toNat : Int) = 65 := by rw [HS.out]; rfl
          have HB : Hid (ys ++ ([x.a]).flatMap (fun y => beL y 4) = headL x ++ bodyL x ((useL x.k).take (pos + 1))) := Lib.hid (by
            have he : encL x 65 = beL x.a 4 := rfl
            rw [bodyL_take x HL.out, ← List.append_assoc, ← HYS.out, he]
            simp [List.flatMap_cons])
          clear c6 c7 c8' c9 c10 c11 c13
          go_wp2_with fail
          refine (appn_to (q := 1) (M := 4) 4 #[.int .i64 x.a] [x.a] rfl rfl rfl own9 HYL.out (by omega) (by omega) (by intro y hy; simp at hy; omega) (by omega) (by omega)).mono ?_
          rintro e u9 ⟨ys9, n9, A9, q9, HY9, HN9, rfl, own10, bw9, hg9⟩
          have hn9 : n9 ≤ n8 + 4 := by
            have h3 := HYL.out
            rw [← HN9.out, HY9.out, List.length_append]
            simp [beL_length]
            omega
          have hk2 := (hg9.block K hKW (own_iter_ne own9 hk1).symm).trans hk1
          have HT : Hid (ys9 = headL x ++ bodyL x ((useL x.k).take (pos + 1))) := Lib.hid (by rw [HY9.out, HB.out])
          have hb10 := hb9.trans bw9
          clear hg9 own9 hk1 bw9 hnext
          go_wp2_with fail
          go_roundw
          case rel => exact ⟨pos + 1, n9, A9, q9, ys9, by omega, rfl, HT.out, HN9.out, by omega, hk2, own10, hb10⟩
          case measure =>
            have hmu2 : u9.iterPos K = pos + 1 := by simp [World.iterPos, hk2]
            rw [hmu, hmu2]
            omega
        · have hq : ((useS x.k)[pos].toNat : Int) = 82 := by rw [HS.out]; rfl
          have HB : Hid (ys ++ ([x.r]).flatMap (fun y => beL y 1) = headL x ++ bodyL x ((useL x.k).take (pos + 1))) := Lib.hid (by
            have he : encL x 82 = beL x.r 1 := rfl
            rw [bodyL_take x HL.out, ← List.append_assoc, ← HYS.out, he]
            simp [List.flatMap_cons])
          clear c6 c7 c8' c9 c10 c11 c12
          go_wp2_with fail
          refine (appn_to (q := 1) (M := 1) 1 #[.int .i64 x.r] [x.r] rfl rfl rfl own9 HYL.out (by omega) (by omega) (by intro y hy; simp at hy; omega) (by omega) (by omega)).mono ?_
          rintro e u9 ⟨ys9, n9, A9, q9, HY9, HN9, rfl, own10, bw9, hg9⟩
          have hn9 : n9 ≤ n8 + 1 := by
            have h3 := HYL.out
            rw [← HN9.out, HY9.out, List.length_append]
            simp [beL_length]
            omega
          have hk2 := (hg9.block K hKW (own_iter_ne own9 hk1).symm).trans hk1
          have HT : Hid (ys9 = headL x ++ bodyL x ((useL x.k).take (pos + 1))) := Lib.hid (by rw [HY9.out, HB.out])
          have hb10 := hb9.trans bw9
          clear hg9 own9 hk1 bw9 hnext
          go_wp2_with fail
          go_roundw
          case rel => exact ⟨pos + 1, n9, A9, q9, ys9, by omega, rfl, HT.out, HN9.out, by omega, hk2, own10, hb10⟩
          case measure =>
            have hmu2 : u9.iterPos K = pos + 1 := by simp [World.iterPos, hk2]
            rw [hmu, hmu2]
            omega
      · have HE : Hid (ys = bysL x) := Lib.hid (by
          have := HYS.out
          rwa [List.take_of_length_le (by rw [← HZ.out]; omega)] at this)
        have hnext : ∀ ty, (Instr.next (.pointer (some ⟨K, 0, none⟩)) true ty).run Try.prog wr = _ := fun ty => Lib.run_next_end_at wr K (useS x.k) pos ty hk hlt
        go_wp2_with fail
        go_ret
        refine ⟨A8, n8, c8, rfl, ?_, by omega, ?_, (hb.trans (hb8.mono (by omega)))⟩
        · rw [← HYL.out, HE.out]
        · rw [← HE.out]; exact ownsRow_base own8 (by omega)

  · have hgv := hgn
    rw [hbg] at hgv
    simp only [if_true] at hgv
    have HG : Hid ((if x.g = true then (1 : Int) else 0) = 1) := Lib.hid (by rw [hgn, ← hgv])
    clear hgn hgv hbg
    go_wp2_with fail
    refine (appn_to (q := 1) (M := 1) 1 #[.int .i64 x.i] [x.i] rfl rfl rfl hnil rfl (by omega) (by omega) (by intro y hy; simp at hy; omega) (by omega) (by omega)).mono ?_
    rintro e u0 ⟨ys0, n0, A0, q0, HY0, HN0, rfl, own0, bw0, -⟩
    have hn0' : n0 ≤ 1 := by rw [← HN0.out, HY0.out, List.length_append]; simp [beL_length]
    have hz0' := bw0.size
    have bb0 := (Below.refl B w1).trans bw0
    have rw0 := (bb0.block w.heap.size hwB).trans hrow
    obtain ⟨d00, d01, d02, d03, d04, d05, _, _, _, _, _, _, _, _⟩ := fcAt_row rw0
    rw [Nat.zero_add] at d01 d02 d03 d04 d05
    clear rw0 d03
    go_wp2_with fail
    refine (appn_to (q := 1) (M := 2) 2 #[.int .i64 x.n] [x.n] rfl rfl rfl own0 HN0.out (by omega) (by omega) (by intro y hy; simp at hy; omega) (by omega) (by omega)).mono ?_
    rintro e u1 ⟨ys1, n1, A1, q1, HY1, HN1, rfl, own1, bw1, -⟩
    have hn1' : n1 ≤ 3 := by rw [← HN1.out, HY1.out, List.length_append]; simp [beL_length]; have := HN0.out; omega
    have hz1' := bw1.size
    have bb1 := bb0.trans bw1
    have rw1 := (bb1.block w.heap.size hwB).trans hrow
    obtain ⟨d10, d11, d12, d13, d14, d15, _, _, _, _, _, _, _, _⟩ := fcAt_row rw1
    rw [Nat.zero_add] at d11 d12 d13 d14 d15
    clear rw1 d13
    go_wp2_with fail
    refine (appn_to (q := 4) (M := 1) 1 #[.int .i64 x.v, .int .i64 1, .int .i64 x.p, .int .i64 x.k] [x.v, 1, x.p, x.k] rfl rfl rfl own1 HN1.out (by omega) (by omega) (by intro y hy; simp at hy; omega) (by omega) (by omega)).mono ?_
    rintro e u2 ⟨ys2, n2, A2, q2, HY2, HN2, rfl, own2, bw2, -⟩
    have hn2' : n2 ≤ 7 := by rw [← HN2.out, HY2.out, List.length_append]; simp [beL_length]; have := HN1.out; omega
    have hz2' := bw2.size
    have bb2 := bb1.trans bw2
    have rw2 := (bb2.block w.heap.size hwB).trans hrow
    obtain ⟨d20, d21, d22, d23, d24, d25, _, _, _, _, _, _, _, _⟩ := fcAt_row rw2
    rw [Nat.zero_add] at d21 d22 d23 d24 d25
    clear rw2 d23
    go_wp2_with fail
    refine (tuses_any x.k _ hk1 hk2).mono ?_
    rintro e _ ⟨rfl, rfl⟩
    have hys : ys2 = headL x := by rw [HY2.out, HY1.out, HY0.out]; unfold headL; rw [HG.out]; simp [List.flatMap_cons]
    subst hys
    have hrou2 := (bb2.block w.heap.size hwB).trans hrow
    have HZ := Lib.hid (useS_size x.k)
    have hul := useL_length x.k
    have hkk := Lib.hid (And.intro hk1 hk2)
    have hki := World.iter_heap u2 (useS x.k) 0
    have own7 := own2.alloc (.stringIter (useS x.k) 0)
    have bb7 := bb2.alloc (by omega) (.stringIter (useS x.k) 0)
    have hKB : B ≤ u2.heap.size := by omega
    obtain ⟨K, hK⟩ : ∃ K, K = u2.heap.size := ⟨_, rfl⟩
    have hzi : K < (u2.iter (useS x.k) 0).heap.size := by rw [hK]; exact (Array.getElem?_eq_some_iff.1 hki).1
    rw [← hK] at hki hKB
    have HROW := Lib.hid hrow
    clear hrow HG HY0 HY1 HY2 HN0 HN1 own0 own1 own2 hnil bw0 bw1 bw2 bb0 bb1 bb2 c0 c1 c2 c4 c5 d00 d01 d02 d04 d05 d10 d11 d12 d14 d15 d20 d21 d22 d24 d25 hn0' hn1' hk1 hk2 hi1 hi2 hn1 hn2 hv1 hv2 hp1 hp2 hz0' hz1' hz2'
    go_wp2_with fail
    rw [← hK]
    clear hK
    go_loopw [4] (fun v wn => ∃ (pos n8 : Nat) (A8 : Option Addr) (c8 : Nat) (ys : List Int), pos ≤ (useS x.k).size ∧ v = .slice A8 n8 c8 ∧ ys = headL x ++ bodyL x ((useL x.k).take pos) ∧ ys.length = n8 ∧ n8 ≤ 7 + 6 * pos ∧ wn.heap[K]? = some (.stringIter (useS x.k) pos) ∧ wn.ownsRow B 5 1 (.slice A8 n8 c8) n8 (bys ys) ∧ Below B w1 wn) (fun _ wn => (useS x.k).size - wn.iterPos K)
    case atStart => exact ⟨0, _, _, _, headL x, by omega, rfl, by simp [bodyL], HN2.out, by omega, hki, own7, bb7⟩
    case round =>
      clear hki own7 bb7
      obtain ⟨pos, n8, A8, c8, ys, hps, rfl, hys, hyl, hn8, hk, own8, hb8⟩ := hrel
      have HYS := Lib.hid hys
      have HYL := Lib.hid hyl
      have hz8 := hb8.size
      clear hys hyl
      have hsz : (useS x.k).size ≤ 6 := by rw [HZ.out]; exact hul
      have hmu : wr.iterPos K = pos := by simp [World.iterPos, hk]
      by_cases hlt : pos < (useS x.k).size
      · obtain ⟨l, hl, hs⟩ := useS_at hlt
        have hlm := useL_mem x.k l (List.mem_of_getElem? hl)
        have h128 : ((useS x.k)[pos]'hlt).toNat < 128 := by rw [hs]; rcases hlm with rfl | rfl | rfl | rfl | rfl | rfl | rfl <;> decide
        have hnext : ∀ ty, (Instr.next (.pointer (some ⟨K, 0, none⟩)) true ty).run Try.prog wr = _ := fun ty => Lib.run_next_ascii_at wr K (useS x.k) pos ty hk hlt h128
        have own9 := own_iter own8 hk (pos + 1)
        have hk1 := Lib.iterAt_heap wr K (useS x.k) pos (pos + 1) hk
        have hb9 := Lib.below_iterAt hb8 hKB (useS x.k) (pos + 1)
        obtain ⟨W1, hW1⟩ : ∃ W1, W1 = wr.iterAt K (useS x.k) (pos + 1) := ⟨_, rfl⟩
        rw [← hW1] at hnext own9 hk1 hb9
        clear hW1 own8 hk hb8 hz8
        have hKW : K < W1.heap.size := (Array.getElem?_eq_some_iff.1 hk1).1
        have hz9 := hb9.size
        have HL := Lib.hid hl
        have HS := Lib.hid hs
        have hrow8 := (hb9.block w.heap.size hwB).trans HROW.out
        obtain ⟨_, _, _, _, _, _, c6, c7, c8', c9, c10, c11, c12, c13⟩ := fcAt_row hrow8
        rw [Nat.zero_add] at c6 c7 c8' c9 c10 c11 c12 c13
        clear hl hs hrow8 h128
        rcases hlm with rfl | rfl | rfl | rfl | rfl | rfl | rfl
        · have hq : ((useS x.k)[pos].toNat : Int) = 83 := by rw [HS.out]; rfl
          have HB : Hid (ys ++ ([x.s]).flatMap (fun y => beL y 1) = headL x ++ bodyL x ((useL x.k).take (pos + 1))) := Lib.hid (by
            have he : encL x 83 = beL x.s 1 := rfl
            rw [bodyL_take x HL.out, ← List.append_assoc, ← HYS.out, he]
            simp [List.flatMap_cons])
          clear c7 c8' c9 c10 c11 c12 c13
          go_wp2_with fail
          refine (appn_to (q := 1) (M := 1) 1 #[.int .i64 x.s] [x.s] rfl rfl rfl own9 HYL.out (by omega) (by omega) (by intro y hy; simp at hy; omega) (by omega) (by omega)).mono ?_
          rintro e u9 ⟨ys9, n9, A9, q9, HY9, HN9, rfl, own10, bw9, hg9⟩
          have hn9 : n9 ≤ n8 + 1 := by
            have h3 := HYL.out
            rw [← HN9.out, HY9.out, List.length_append]
            simp [beL_length]
            omega
          have hk2 := (hg9.block K hKW (own_iter_ne own9 hk1).symm).trans hk1
          have HT : Hid (ys9 = headL x ++ bodyL x ((useL x.k).take (pos + 1))) := Lib.hid (by rw [HY9.out, HB.out])
          have hb10 := hb9.trans bw9
          clear hg9 own9 hk1 bw9 hnext
          go_wp2_with fail
          go_roundw
          case rel => exact ⟨pos + 1, n9, A9, q9, ys9, by omega, rfl, HT.out, HN9.out, by omega, hk2, own10, hb10⟩
          case measure =>
            have hmu2 : u9.iterPos K = pos + 1 := by simp [World.iterPos, hk2]
            rw [hmu, hmu2]
            omega
        · have hq : ((useS x.k)[pos].toNat : Int) = 80 := by rw [HS.out]; rfl
          have HB : Hid (ys ++ ([x.f, x.t]).flatMap (fun y => beL y 3) = headL x ++ bodyL x ((useL x.k).take (pos + 1))) := Lib.hid (by
            have he : encL x 80 = beL x.f 3 ++ beL x.t 3 := rfl
            rw [bodyL_take x HL.out, ← List.append_assoc, ← HYS.out, he]
            simp [List.flatMap_cons])
          clear c6 c9 c10 c11 c12 c13
          go_wp2_with fail
          refine (appn_to (q := 2) (M := 3) 3 #[.int .i64 x.f, .int .i64 x.t] [x.f, x.t] rfl rfl rfl own9 HYL.out (by omega) (by omega) (by intro y hy; simp at hy; omega) (by omega) (by omega)).mono ?_
          rintro e u9 ⟨ys9, n9, A9, q9, HY9, HN9, rfl, own10, bw9, hg9⟩
          have hn9 : n9 ≤ n8 + 6 := by
            have h3 := HYL.out
            rw [← HN9.out, HY9.out, List.length_append]
            simp [beL_length]
            omega
          have hk2 := (hg9.block K hKW (own_iter_ne own9 hk1).symm).trans hk1
          have HT : Hid (ys9 = headL x ++ bodyL x ((useL x.k).take (pos + 1))) := Lib.hid (by rw [HY9.out, HB.out])
          have hb10 := hb9.trans bw9
          clear hg9 own9 hk1 bw9 hnext
          go_wp2_with fail
          go_roundw
          case rel => exact ⟨pos + 1, n9, A9, q9, ys9, by omega, rfl, HT.out, HN9.out, by omega, hk2, own10, hb10⟩
          case measure =>
            have hmu2 : u9.iterPos K = pos + 1 := by simp [World.iterPos, hk2]
            rw [hmu, hmu2]
            omega
        · have hq : ((useS x.k)[pos].toNat : Int) = 84 := by rw [HS.out]; rfl
          have HB : Hid (ys ++ ([x.e]).flatMap (fun y => beL y 1) = headL x ++ bodyL x ((useL x.k).take (pos + 1))) := Lib.hid (by
            have he : encL x 84 = beL x.e 1 := rfl
            rw [bodyL_take x HL.out, ← List.append_assoc, ← HYS.out, he]
            simp [List.flatMap_cons])
          clear c6 c7 c8' c10 c11 c12 c13
          go_wp2_with fail
          refine (appn_to (q := 1) (M := 1) 1 #[.int .i64 x.e] [x.e] rfl rfl rfl own9 HYL.out (by omega) (by omega) (by intro y hy; simp at hy; omega) (by omega) (by omega)).mono ?_
          rintro e u9 ⟨ys9, n9, A9, q9, HY9, HN9, rfl, own10, bw9, hg9⟩
          have hn9 : n9 ≤ n8 + 1 := by
            have h3 := HYL.out
            rw [← HN9.out, HY9.out, List.length_append]
            simp [beL_length]
            omega
          have hk2 := (hg9.block K hKW (own_iter_ne own9 hk1).symm).trans hk1
          have HT : Hid (ys9 = headL x ++ bodyL x ((useL x.k).take (pos + 1))) := Lib.hid (by rw [HY9.out, HB.out])
          have hb10 := hb9.trans bw9
          clear hg9 own9 hk1 bw9 hnext
          go_wp2_with fail
          go_roundw
          case rel => exact ⟨pos + 1, n9, A9, q9, ys9, by omega, rfl, HT.out, HN9.out, by omega, hk2, own10, hb10⟩
          case measure =>
            have hmu2 : u9.iterPos K = pos + 1 := by simp [World.iterPos, hk2]
            rw [hmu, hmu2]
            omega
        · have hq : ((useS x.k)[pos].toNat : Int) = 72 := by rw [HS.out]; rfl
          have HB : Hid (ys ++ ([x.h]).flatMap (fun y => beL y 1) = headL x ++ bodyL x ((useL x.k).take (pos + 1))) := Lib.hid (by
            have he : encL x 72 = beL x.h 1 := rfl
            rw [bodyL_take x HL.out, ← List.append_assoc, ← HYS.out, he]
            simp [List.flatMap_cons])
          clear c6 c7 c8' c9 c11 c12 c13
          go_wp2_with fail
          refine (appn_to (q := 1) (M := 1) 1 #[.int .i64 x.h] [x.h] rfl rfl rfl own9 HYL.out (by omega) (by omega) (by intro y hy; simp at hy; omega) (by omega) (by omega)).mono ?_
          rintro e u9 ⟨ys9, n9, A9, q9, HY9, HN9, rfl, own10, bw9, hg9⟩
          have hn9 : n9 ≤ n8 + 1 := by
            have h3 := HYL.out
            rw [← HN9.out, HY9.out, List.length_append]
            simp [beL_length]
            omega
          have hk2 := (hg9.block K hKW (own_iter_ne own9 hk1).symm).trans hk1
          have HT : Hid (ys9 = headL x ++ bodyL x ((useL x.k).take (pos + 1))) := Lib.hid (by rw [HY9.out, HB.out])
          have hb10 := hb9.trans bw9
          clear hg9 own9 hk1 bw9 hnext
          go_wp2_with fail
          go_roundw
          case rel => exact ⟨pos + 1, n9, A9, q9, ys9, by omega, rfl, HT.out, HN9.out, by omega, hk2, own10, hb10⟩
          case measure =>
            have hmu2 : u9.iterPos K = pos + 1 := by simp [World.iterPos, hk2]
            rw [hmu, hmu2]
            omega
        · have hq : ((useS x.k)[pos].toNat : Int) = 67 := by rw [HS.out]; rfl
          have HB : Hid (ys ++ ([x.c]).flatMap (fun y => beL y 2) = headL x ++ bodyL x ((useL x.k).take (pos + 1))) := Lib.hid (by
            have he : encL x 67 = beL x.c 2 := rfl
            rw [bodyL_take x HL.out, ← List.append_assoc, ← HYS.out, he]
            simp [List.flatMap_cons])
          clear c6 c7 c8' c9 c10 c12 c13
          go_wp2_with fail
          refine (appn_to (q := 1) (M := 2) 2 #[.int .i64 x.c] [x.c] rfl rfl rfl own9 HYL.out (by omega) (by omega) (by intro y hy; simp at hy; omega) (by omega) (by omega)).mono ?_
          rintro e u9 ⟨ys9, n9, A9, q9, HY9, HN9, rfl, own10, bw9, hg9⟩
          have hn9 : n9 ≤ n8 + 2 := by
            have h3 := HYL.out
            rw [← HN9.out, HY9.out, List.length_append]
            simp [beL_length]
            omega
          have hk2 := (hg9.block K hKW (own_iter_ne own9 hk1).symm).trans hk1
          have HT : Hid (ys9 = headL x ++ bodyL x ((useL x.k).take (pos + 1))) := Lib.hid (by rw [HY9.out, HB.out])
          have hb10 := hb9.trans bw9
          clear hg9 own9 hk1 bw9 hnext
          go_wp2_with fail
          go_roundw
          case rel => exact ⟨pos + 1, n9, A9, q9, ys9, by omega, rfl, HT.out, HN9.out, by omega, hk2, own10, hb10⟩
          case measure =>
            have hmu2 : u9.iterPos K = pos + 1 := by simp [World.iterPos, hk2]
            rw [hmu, hmu2]
            omega
        · have hq : ((useS x.k)[pos].toNat : Int) = 65 := by rw [HS.out]; rfl
          have HB : Hid (ys ++ ([x.a]).flatMap (fun y => beL y 4) = headL x ++ bodyL x ((useL x.k).take (pos + 1))) := Lib.hid (by
            have he : encL x 65 = beL x.a 4 := rfl
            rw [bodyL_take x HL.out, ← List.append_assoc, ← HYS.out, he]
            simp [List.flatMap_cons])
          clear c6 c7 c8' c9 c10 c11 c13
          go_wp2_with fail
          refine (appn_to (q := 1) (M := 4) 4 #[.int .i64 x.a] [x.a] rfl rfl rfl own9 HYL.out (by omega) (by omega) (by intro y hy; simp at hy; omega) (by omega) (by omega)).mono ?_
          rintro e u9 ⟨ys9, n9, A9, q9, HY9, HN9, rfl, own10, bw9, hg9⟩
          have hn9 : n9 ≤ n8 + 4 := by
            have h3 := HYL.out
            rw [← HN9.out, HY9.out, List.length_append]
            simp [beL_length]
            omega
          have hk2 := (hg9.block K hKW (own_iter_ne own9 hk1).symm).trans hk1
          have HT : Hid (ys9 = headL x ++ bodyL x ((useL x.k).take (pos + 1))) := Lib.hid (by rw [HY9.out, HB.out])
          have hb10 := hb9.trans bw9
          clear hg9 own9 hk1 bw9 hnext
          go_wp2_with fail
          go_roundw
          case rel => exact ⟨pos + 1, n9, A9, q9, ys9, by omega, rfl, HT.out, HN9.out, by omega, hk2, own10, hb10⟩
          case measure =>
            have hmu2 : u9.iterPos K = pos + 1 := by simp [World.iterPos, hk2]
            rw [hmu, hmu2]
            omega
        · have hq : ((useS x.k)[pos].toNat : Int) = 82 := by rw [HS.out]; rfl
          have HB : Hid (ys ++ ([x.r]).flatMap (fun y => beL y 1) = headL x ++ bodyL x ((useL x.k).take (pos + 1))) := Lib.hid (by
            have he : encL x 82 = beL x.r 1 := rfl
            rw [bodyL_take x HL.out, ← List.append_assoc, ← HYS.out, he]
            simp [List.flatMap_cons])
          clear c6 c7 c8' c9 c10 c11 c12
          go_wp2_with fail
          refine (appn_to (q := 1) (M := 1) 1 #[.int .i64 x.r] [x.r] rfl rfl rfl own9 HYL.out (by omega) (by omega) (by intro y hy; simp at hy; omega) (by omega) (by omega)).mono ?_
          rintro e u9 ⟨ys9, n9, A9, q9, HY9, HN9, rfl, own10, bw9, hg9⟩
          have hn9 : n9 ≤ n8 + 1 := by
            have h3 := HYL.out
            rw [← HN9.out, HY9.out, List.length_append]
            simp [beL_length]
            omega
          have hk2 := (hg9.block K hKW (own_iter_ne own9 hk1).symm).trans hk1
          have HT : Hid (ys9 = headL x ++ bodyL x ((useL x.k).take (pos + 1))) := Lib.hid (by rw [HY9.out, HB.out])
          have hb10 := hb9.trans bw9
          clear hg9 own9 hk1 bw9 hnext
          go_wp2_with fail
          go_roundw
          case rel => exact ⟨pos + 1, n9, A9, q9, ys9, by omega, rfl, HT.out, HN9.out, by omega, hk2, own10, hb10⟩
          case measure =>
            have hmu2 : u9.iterPos K = pos + 1 := by simp [World.iterPos, hk2]
            rw [hmu, hmu2]
            omega
      · have HE : Hid (ys = bysL x) := Lib.hid (by
          have := HYS.out
          rwa [List.take_of_length_le (by rw [← HZ.out]; omega)] at this)
        have hnext : ∀ ty, (Instr.next (.pointer (some ⟨K, 0, none⟩)) true ty).run Try.prog wr = _ := fun ty => Lib.run_next_end_at wr K (useS x.k) pos ty hk hlt
        go_wp2_with fail
        go_ret
        refine ⟨A8, n8, c8, rfl, ?_, by omega, ?_, (hb.trans (hb8.mono (by omega)))⟩
        · rw [← HYL.out, HE.out]
        · rw [← HE.out]; exact ownsRow_base own8 (by omega)

end Go.Proofs.Ytbogmkhoppffgaa
