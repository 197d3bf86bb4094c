/- Two ascending lists of facts merged: the program. -/
import Derived.Test.YtbogmkhoppffgaaFcK
namespace Go.Proofs.Ytbogmkhoppffgaa
open Go.RowKit

/-- Facts in a row of the call's own are returned. -/
def RetFs (w : World) (L : List Fc) (e : Ending) (w' : World) : Prop := ∃ A n c, e = .returned (.slice A n c) ∧ L.length = n ∧ w'.ownsRow w.heap.size 40 14 (.slice A n c) n (flat Fc.cells L) ∧ Below w.heap.size w w'
theorem RetFs.open {w w' : World} {L : List Fc} {e : Ending} (h : RetFs w L e w') : ∃ A n c, Hid (L.length = n) ∧ e = .returned (.slice A n c) ∧ n ≤ c ∧ c ≤ maxLen ∧ w'.ownsRow w.heap.size 40 14 (.slice A n c) n (flat Fc.cells L) ∧ Below w.heap.size w w' := by
  obtain ⟨A, n, c, he, hl, ho, hb⟩ := h
  obtain ⟨A2, c2, e2, h1, h2, _⟩ := own_form ho
  injection e2 with _ _ e3
  subst e3
  exact ⟨A, n, c, hl, he, h1, h2, ho, hb⟩
theorem mergeF_fuel : ∀ (m k : Nat) (a b : List Fc), a.length + b.length ≤ m → a.length + b.length ≤ k → mergeF m a b = mergeF k a b
  | 0, k, [], [], _, _ => by cases k <;> rfl
  | 0, _, x :: a, b, h, _ => by simp at h
  | 0, _, [], y :: b, h, _ => by simp at h
  | m + 1, 0, [], [], _, _ => rfl
  | m + 1, 0, x :: a, b, _, h => by simp at h
  | m + 1, 0, [], y :: b, _, h => by simp at h
  | m + 1, k + 1, [], b, _, _ => rfl
  | m + 1, k + 1, x :: a, [], _, _ => rfl
  | m + 1, k + 1, x :: a, y :: b, h, h2 => by
    simp only [List.length_cons] at h h2
    unfold mergeF
    rw [mergeF_fuel m k a (y :: b) (by simp only [List.length_cons]; omega) (by simp only [List.length_cons]; omega), mergeF_fuel m k (x :: a) b (by simp only [List.length_cons]; omega) (by simp only [List.length_cons]; omega), mergeF_fuel m k a b (by omega) (by omega)]
/-- The merge with as much fuel as it needs. -/
def mgF (a b : List Fc) : List Fc := mergeF (a.length + b.length) a b
theorem mgF_nil (b : List Fc) : mgF [] b = b := by
  unfold mgF
  cases h : [].length + b.length with
  | zero => rfl
  | succ m => rfl
theorem mgF_nil2 (a : List Fc) : mgF a [] = a := mergeF_nil _ _
theorem mgF_cons (x y : Fc) (a b : List Fc) : mgF (x :: a) (y :: b) = if cmpF x y < 0 then x :: mgF a (y :: b) else if 0 < cmpF x y then y :: mgF (x :: a) b else grF x y :: mgF a b := by
  unfold mgF
  have e : (x :: a).length + (y :: b).length = (a.length + b.length + 1) + 1 := by simp only [List.length_cons]; omega
  rw [e]
  show (if cmpF x y < 0 then x :: mergeF (a.length + b.length + 1) a (y :: b) else if 0 < cmpF x y then y :: mergeF (a.length + b.length + 1) (x :: a) b else grF x y :: mergeF (a.length + b.length + 1) a b) = _
  rw [mergeF_fuel (a.length + b.length + 1) (a.length + (y :: b).length) a (y :: b) (by simp only [List.length_cons]; omega) (Nat.le_refl _), mergeF_fuel (a.length + b.length + 1) ((x :: a).length + b.length) (x :: a) b (by simp only [List.length_cons]; omega) (Nat.le_refl _), mergeF_fuel (a.length + b.length + 1) (a.length + b.length) a b (by omega) (Nat.le_refl _)]
theorem mgF_one (a : List Fc) (f : Fc) : mgF a [f] = insF f a := mergeF_one _ a f (by simp)
theorem greater_to {x y G : Fc} (hx : Vld x) (hy : Vld y) (hG : grF x y = G) (w : World) : Calls Try.prog 46 #[.agg #[.int .i64 x.i, .int .i64 x.n, .int .i64 x.v, .bool x.g, .int .i64 x.p, .int .i64 x.k, .int .i64 x.s, .int .i64 x.f, .int .i64 x.t, .int .i64 x.e, .int .i64 x.h, .int .i64 x.c, .int .i64 x.a, .int .i64 x.r], .agg #[.int .i64 y.i, .int .i64 y.n, .int .i64 y.v, .bool y.g, .int .i64 y.p, .int .i64 y.k, .int .i64 y.s, .int .i64 y.f, .int .i64 y.t, .int .i64 y.e, .int .i64 y.h, .int .i64 y.c, .int .i64 y.a, .int .i64 y.r]] w fun e w' => e = .returned (.agg #[.int .i64 G.i, .int .i64 G.n, .int .i64 G.v, .bool G.g, .int .i64 G.p, .int .i64 G.k, .int .i64 G.s, .int .i64 G.f, .int .i64 G.t, .int .i64 G.e, .int .i64 G.h, .int .i64 G.c, .int .i64 G.a, .int .i64 G.r]) ∧ Below w.heap.size w w' := by
  subst hG
  exact greater_any hx hy w
theorem cells_oneF (L : List Fc) : ∀ u ∈ flat Fc.cells L, u.oneCell' = true := by
  intro u hu
  obtain ⟨x, _, hx⟩ := List.mem_flatMap.1 hu
  simp only [Fc.cells, List.mem_cons, List.not_mem_nil, or_false] at hx
  rcases hx with rfl | rfl | rfl | rfl | rfl | rfl | rfl | rfl | rfl | rfl | rfl | rfl | rfl | rfl <;> rfl
def slen : Value → Nat
  | .slice _ n _ => n
  | _ => 0
/-- The rest of a slice. -/
theorem Rd.tail {w : World} {B b o n : Nat} {x : Fc} {X : List Fc} (h : Rd w B 14 (some ⟨b, o, none⟩) n (flat Fc.cells (x :: X))) : Rd w B 14 (some ⟨b, o + 14, none⟩) (n - 1) (flat Fc.cells X) := by
  have hl := h.1
  rw [flat_cons, List.length_append, fc_len, fc_flen] at hl
  refine ⟨by rw [fc_flen]; omega, fun hn => ?_⟩
  obtain ⟨b', o', e, hb, hc⟩ := h.2 (by omega)
  injection e with e
  injection e with e1 e2
  subst e1 e2
  refine ⟨b, o + 14, rfl, hb, fun j u hu => ?_⟩
  have := hc (14 + j) u (by rw [flat_cons, List.getElem?_append_right (by rw [fc_len]; omega), fc_len, show 14 + j - 14 = j by omega]; exact hu)
  rwa [← Nat.add_assoc] at this
theorem Rd.tail1 {w : World} {B b o n : Nat} {x : Fc} {X : List Fc} (h : Rd w B 14 (some ⟨b, o, none⟩) n (flat Fc.cells (x :: X))) (hn : n ≤ 1) (A : Option Addr) : Rd w B 14 A (n - 1) (flat Fc.cells X) := by
  have hl := h.1
  rw [flat_cons, List.length_append, fc_len, fc_flen] at hl
  have h0 : X = [] := List.eq_nil_of_length_eq_zero (by omega)
  subst h0
  rw [show n - 1 = 0 by omega]
  exact Rd.zero _ _ _ _
theorem FcAt.grown {w w' : World} {b o : Nat} {x : Fc} {row : Option Nat} (h : FcAt w b o x) (hg : w.grownBy w' row) (hne : some b ≠ row) : FcAt w' b o x := by
  obtain ⟨h0, h1, h2, h3, h4, h5, h6, h7, h8, h9, h10, h11, h12, h13⟩ := h
  exact ⟨hg.cell h0 hne, hg.cell h1 hne, hg.cell h2 hne, hg.cell h3 hne, hg.cell h4 hne, hg.cell h5 hne, hg.cell h6 hne, hg.cell h7 hne, hg.cell h8 hne, hg.cell h9 hne, hg.cell h10 hne, hg.cell h11 hne, hg.cell h12 hne, hg.cell h13 hne⟩
theorem fc_at0 {w : World} {B n : Nat} {A : Option Addr} {x : Fc} {X : List Fc} (h : Rd w B 14 A n (flat Fc.cells (x :: X))) : ∃ b o, A = some ⟨b, o, none⟩ ∧ b < B ∧ FcAt w b o x := by
  obtain ⟨_, b, o, e, hb, f⟩ := fc_cells h (k := 0) rfl
  rw [Nat.zero_mul, Nat.add_zero] at f
  exact ⟨b, o, e, hb, f⟩

set_option maxRecDepth 100000 in
set_option maxHeartbeats 16000000 in
theorem merge_any {A B : Option Addr} {n c m d : Nat} {X Y : List Fc} {w : World} (hX : Rd w w.heap.size 14 A n (flat Fc.cells X)) (hY : Rd w w.heap.size 14 B m (flat Fc.cells Y)) (hXl : X.length = n) (hYl : Y.length = m) (hvx : ∀ x ∈ X, Vld x) (hvy : ∀ y ∈ Y, Vld y) (hnc : n ≤ c) (hmd : m ≤ d) (hc : c ≤ maxLen) (hd : d ≤ maxLen) (hn : n ≤ 1000) (hm : m ≤ 1000) :
    Calls Try.prog 43 #[.slice A n c, .slice B m d, .func (.func 45) #[] #[], .func (.func 46) #[] #[]] w (RetFs w (mgF X Y)) := by
  obtain ⟨i0, hi0, hz0, hz1, hz2⟩ := info_parts info_fact
  go_enter Try.func43, Try.ntmps43
  go_wp2_with fail
  go_loopw [0, 1, 9] (fun a b v wr => ∃ (X' Y' O : List Fc) (A' B' A9 : Option Addr) (n' c' m' d' n9 c9 : Nat), a = .slice A' n' c' ∧ b = .slice B' m' d' ∧ v = .slice A9 n9 c9 ∧ X'.length = n' ∧ Y'.length = m' ∧ O.length = n9 ∧ n' ≤ c' ∧ m' ≤ d' ∧ c' ≤ maxLen ∧ d' ≤ maxLen ∧ n' ≤ 1000 ∧ m' ≤ 1000 ∧ n9 + n' + m' ≤ 2000 ∧ O ++ mgF X' Y' = mgF X Y ∧
      Rd w w.heap.size 14 A' n' (flat Fc.cells X') ∧ Rd w w.heap.size 14 B' m' (flat Fc.cells Y') ∧ (∀ x ∈ X', Vld x) ∧ (∀ y ∈ Y', Vld y) ∧ wr.ownsRow w.heap.size 40 14 (.slice A9 n9 c9) n9 (flat Fc.cells O) ∧ Below w.heap.size w wr) (fun a b _ _ => slen a + slen b)
  case atStart => exact ⟨X, Y, [], A, B, none, n, c, m, d, 0, 0, rfl, rfl, rfl, hXl, hYl, rfl, hnc, hmd, hc, hd, hn, hm, by omega, rfl, hX, hY, hvx, hvy, World.ownsRow_nil _ _ _ _, Below.refl _ _⟩
  case round =>
    clear hX hY hXl hYl hvx hvy hnc hmd hc hd hn hm
    obtain ⟨X', Y', O, A', B', A9, n', c', m', d', n9, c9, rfl, rfl, rfl, hXl, hYl, hOl, hnc, hmd, hc, hd, hn, hm, hs, hM, hX, hY, hvx, hvy, hown, hb⟩ := hrel
    have hwz := hb.size
    have HXL := Lib.hid hXl
    have HYL := Lib.hid hYl
    have HOL := Lib.hid hOl
    have HM := Lib.hid hM
    have HCM := Lib.hid (And.intro hc hd)
    unfold maxLen at hc hd
    clear hXl hYl hOl hM
    by_cases h0 : 0 < n' ∧ 0 < m'
    · obtain ⟨hn0, hm0⟩ := h0
      obtain ⟨x, X2, rfl⟩ : ∃ x X2, X' = x :: X2 := by
        cases X' with
        | nil => exfalso; have := HXL.out; simp at this; omega
        | cons x X2 => exact ⟨x, X2, rfl⟩
      obtain ⟨y, Y2, rfl⟩ : ∃ y Y2, Y' = y :: Y2 := by
        cases Y' with
        | nil => exfalso; have := HYL.out; simp at this; omega
        | cons y Y2 => exact ⟨y, Y2, rfl⟩
      obtain ⟨bx, ox, rfl, hbx, fx0⟩ := fc_at0 hX
      obtain ⟨by', oy, rfl, hby, fy0⟩ := fc_at0 hY
      have HVX := Lib.hid (hvx x (by simp))
      have HVY := Lib.hid (hvy y (by simp))
      have HVX2 : Hid (∀ z ∈ X2, Vld z) := Lib.hid fun z hz => hvx z (by simp [hz])
      have HVY2 : Hid (∀ z ∈ Y2, Vld z) := Lib.hid fun z hz => hvy z (by simp [hz])
      have HVXA := Lib.hid hvx
      have HVYA := Lib.hid hvy
      have fx := fx0.below hb hbx
      have fy := fy0.below hb hby
      have HMC := Lib.hid (mgF_cons x y X2 Y2)
      have hi1 : (0 : Int) < (n' : Int) := by omega
      have hi2 : (0 : Int) < (m' : Int) := by omega
      have hi3 : (1 : Int) ≤ (n' : Int) := by omega
      have hi4 : (1 : Int) ≤ (m' : Int) := by omega
      have hn1 : 1 ≤ n' := by omega
      have hm1 : 1 ≤ m' := by omega
      have hbxr : bx < wr.heap.size := by omega
      have hbyr : by' < wr.heap.size := by omega
      clear hvx hvy fx0 fy0
      have fxd : FcAt wr.drew bx ox x := fx
      have fyd : FcAt wr.drew by' oy y := fy
      obtain ⟨p0, p1, p2, p3, p4, p5, p6, p7, p8, p9, p10, p11, p12, p13⟩ := fx
      obtain ⟨q0, q1, q2, q3, q4, q5, q6, q7, q8, q9, q10, q11, q12, q13⟩ := fy
      go_upto_region 3 with (fail)
      have hbxd : bx < wr.drew.heap.size := hbxr
      have hbyd : by' < wr.drew.heap.size := hbyr
      go_region_held3 (fun w' => (w'.cell? ⟨bx, ox, none⟩ = some (.int .i64 x.i) ∧ w'.cell? ⟨bx, ox + 1, none⟩ = some (.int .i64 x.n) ∧ w'.cell? ⟨bx, ox + 2, none⟩ = some (.int .i64 x.v) ∧ w'.cell? ⟨bx, ox + 3, none⟩ = some (.bool x.g) ∧ w'.cell? ⟨bx, ox + 4, none⟩ = some (.int .i64 x.p) ∧ w'.cell? ⟨bx, ox + 5, none⟩ = some (.int .i64 x.k) ∧ w'.cell? ⟨bx, ox + 6, none⟩ = some (.int .i64 x.s) ∧ w'.cell? ⟨bx, ox + 7, none⟩ = some (.int .i64 x.f) ∧ w'.cell? ⟨bx, ox + 8, none⟩ = some (.int .i64 x.t) ∧ w'.cell? ⟨bx, ox + 9, none⟩ = some (.int .i64 x.e) ∧ w'.cell? ⟨bx, ox + 10, none⟩ = some (.int .i64 x.h) ∧ w'.cell? ⟨bx, ox + 11, none⟩ = some (.int .i64 x.c) ∧ w'.cell? ⟨bx, ox + 12, none⟩ = some (.int .i64 x.a) ∧ w'.cell? ⟨bx, ox + 13, none⟩ = some (.int .i64 x.r)) ∧ (w'.cell? ⟨by', oy, none⟩ = some (.int .i64 y.i) ∧ w'.cell? ⟨by', oy + 1, none⟩ = some (.int .i64 y.n) ∧ w'.cell? ⟨by', oy + 2, none⟩ = some (.int .i64 y.v) ∧ w'.cell? ⟨by', oy + 3, none⟩ = some (.bool y.g) ∧ w'.cell? ⟨by', oy + 4, none⟩ = some (.int .i64 y.p) ∧ w'.cell? ⟨by', oy + 5, none⟩ = some (.int .i64 y.k) ∧ w'.cell? ⟨by', oy + 6, none⟩ = some (.int .i64 y.s) ∧ w'.cell? ⟨by', oy + 7, none⟩ = some (.int .i64 y.f) ∧ w'.cell? ⟨by', oy + 8, none⟩ = some (.int .i64 y.t) ∧ w'.cell? ⟨by', oy + 9, none⟩ = some (.int .i64 y.e) ∧ w'.cell? ⟨by', oy + 10, none⟩ = some (.int .i64 y.h) ∧ w'.cell? ⟨by', oy + 11, none⟩ = some (.int .i64 y.c) ∧ w'.cell? ⟨by', oy + 12, none⟩ = some (.int .i64 y.a) ∧ w'.cell? ⟨by', oy + 13, none⟩ = some (.int .i64 y.r))) (go_keep)
        (first
          | (go_at_call 45; ((with_reducible refine (byid_any x y _).mono ?_)); rintro e w1 ⟨rfl, hb1⟩
             have fx1 := fxd.to hb1 hbxd
             have fy1 := fyd.to hb1 hbyd
             obtain ⟨s0, s1, s2, s3, s4, s5, s6, s7, s8, s9, s10, s11, s12, s13⟩ := fx1
             obtain ⟨t0, t1, t2, t3, t4, t5, t6, t7, t8, t9, t10, t11, t12, t13⟩ := fy1))
      have hbW := hb.drew.trans (hb1.mono hb.drew.size)
      have own1 := own_underF (own_drewF hown) hb1
      have hw1z := hbW.size
      have hbx1 : bx < w1.heap.size := by omega
      have hby1 : by' < w1.heap.size := by omega
      have fx1 : FcAt w1 bx ox x := fxd.to hb1 hbxd
      have fy1 : FcAt w1 by' oy y := fyd.to hb1 hbyd
      clear hb hb1 hown fxd fyd p0 q0 s0 t0 p1 q1 s1 t1 p2 q2 s2 t2 p3 q3 s3 t3 p4 q4 s4 t4 p5 q5 s5 t5 p6 q6 s6 t6 p7 q7 s7 t7 p8 q8 s8 t8 p9 q9 s9 t9 p10 q10 s10 t10 p11 q11 s11 t11 p12 q12 s12 t12 p13 q13 s13 t13
      obtain ⟨z, hz⟩ : ∃ z, cmpF x y = z := ⟨_, rfl⟩
      rw [hz]
      have HZ := Lib.hid hz
      clear hz
      have hzz : z < 0 ∨ 0 < z ∨ z = 0 := by omega
      rcases hzz with hzz | hzz | hzz
      · have HE2 : Hid ((O ++ [x]) ++ mgF X2 (y :: Y2) = mgF X Y) := Lib.hid (by rw [← HM.out, HMC.out, if_pos (by rw [HZ.out]; exact hzz), List.append_assoc]; rfl)
        have fxk := fx1
        obtain ⟨p0, p1, p2, p3, p4, p5, p6, p7, p8, p9, p10, p11, p12, p13⟩ := fx1
        by_cases hc1 : c' = 1
        · obtain rfl : n' = 1 := by omega
          subst hc1
          go_upto_region 6 with (fail)
          go_region_held3 (fun w' => w'.cell? ⟨bx, ox, none⟩ = some (.int .i64 x.i) ∧ w'.cell? ⟨bx, ox + 1, none⟩ = some (.int .i64 x.n) ∧ w'.cell? ⟨bx, ox + 2, none⟩ = some (.int .i64 x.v) ∧ w'.cell? ⟨bx, ox + 3, none⟩ = some (.bool x.g) ∧ w'.cell? ⟨bx, ox + 4, none⟩ = some (.int .i64 x.p) ∧ w'.cell? ⟨bx, ox + 5, none⟩ = some (.int .i64 x.k) ∧ w'.cell? ⟨bx, ox + 6, none⟩ = some (.int .i64 x.s) ∧ w'.cell? ⟨bx, ox + 7, none⟩ = some (.int .i64 x.f) ∧ w'.cell? ⟨bx, ox + 8, none⟩ = some (.int .i64 x.t) ∧ w'.cell? ⟨bx, ox + 9, none⟩ = some (.int .i64 x.e) ∧ w'.cell? ⟨bx, ox + 10, none⟩ = some (.int .i64 x.h) ∧ w'.cell? ⟨bx, ox + 11, none⟩ = some (.int .i64 x.c) ∧ w'.cell? ⟨bx, ox + 12, none⟩ = some (.int .i64 x.a) ∧ w'.cell? ⟨bx, ox + 13, none⟩ = some (.int .i64 x.r)) (go_keep)
            ((refine step_append_rd (by rfl) (.tmp 45) (.tmp 49) 24 (by rfl) w.heap.size 40 i0 _ 14 112 Try.underlying24 hi0 hz0 hz1 hz2 rfl (by omega) (.slice A9 n9 c9) n9 (flat Fc.cells O) (by rfl) (own1.alloc _) (w1.heap.size + 1) (some ⟨w1.heap.size, 0, none⟩) 1 1 x.cells (by rfl) (Rd.built (cs := x.cells.toArray) (heap_alloc_new w1 _) (by omega) rfl) (by intro u hu; simp only [Fc.cells, List.mem_cons, List.not_mem_nil, or_false] at hu; rcases hu with rfl | rfl | rfl | rfl | rfl | rfl | rfl | rfl | rfl | rfl | rfl | rfl | rfl | rfl <;> rfl) (by unfold maxLen; omega) (by omega) (by simp; omega) ?_; intro v4 w4 hown4 hg4 hat4
              have fx4 := FcAt.grown (show FcAt (w1.alloc (.cells x.cells.toArray 40)).drew bx ox x from fxk.below ((Below.refl w1.heap.size w1).alloc (Nat.le_refl _) (.cells x.cells.toArray 40)).drew hbx1) hg4 (fun e => by have := (own1.lt bx e.symm).1; omega)
              obtain ⟨r0, r1, r2, r3, r4, r5, r6, r7, r8, r9, r10, r11, r12, r13⟩ := fx4))
          obtain ⟨A4, c4, rfl, _, _, _⟩ := own_form hown4
          have hbf := (hbW.alloc hbW.size (.cells x.cells.toArray 40)).drew.grown hg4 (by simp; omega) (fun g e => (own1.lt g e).1)
          clear p0 r0 p1 r1 p2 r2 p3 r3 p4 r4 p5 r5 p6 r6 p7 r7 p8 r8 p9 r9 p10 r10 p11 r11 p12 r12 p13 r13
          go_wp2_with fail
          go_roundw
          case rel => exact ⟨X2, y :: Y2, O ++ [x], some ⟨bx, ox, none⟩, some ⟨by', oy, none⟩, A4, 0, 0, m', d', n9 + 1, c4, rfl, rfl, rfl, by have := HXL.out; rw [List.length_cons] at this; omega, HYL.out, by rw [List.length_append, HOL.out]; rfl, by omega, by omega, by unfold maxLen; omega, by unfold maxLen; omega, by omega, by omega, by omega, HE2.out, hX.tail1 (Nat.le_refl _) _, hY, HVX2.out, HVYA.out, by rw [flat_append, flat_one]; exact hown4, hbf⟩
          case measure => simp [slen] <;> omega
        · have hc2 : (1 : Int) < (c' : Int) := by omega
          have hc3 : 1 < c' := by omega
          go_upto_region 6 with (fail)
          go_region_held3 (fun w' => w'.cell? ⟨bx, ox, none⟩ = some (.int .i64 x.i) ∧ w'.cell? ⟨bx, ox + 1, none⟩ = some (.int .i64 x.n) ∧ w'.cell? ⟨bx, ox + 2, none⟩ = some (.int .i64 x.v) ∧ w'.cell? ⟨bx, ox + 3, none⟩ = some (.bool x.g) ∧ w'.cell? ⟨bx, ox + 4, none⟩ = some (.int .i64 x.p) ∧ w'.cell? ⟨bx, ox + 5, none⟩ = some (.int .i64 x.k) ∧ w'.cell? ⟨bx, ox + 6, none⟩ = some (.int .i64 x.s) ∧ w'.cell? ⟨bx, ox + 7, none⟩ = some (.int .i64 x.f) ∧ w'.cell? ⟨bx, ox + 8, none⟩ = some (.int .i64 x.t) ∧ w'.cell? ⟨bx, ox + 9, none⟩ = some (.int .i64 x.e) ∧ w'.cell? ⟨bx, ox + 10, none⟩ = some (.int .i64 x.h) ∧ w'.cell? ⟨bx, ox + 11, none⟩ = some (.int .i64 x.c) ∧ w'.cell? ⟨bx, ox + 12, none⟩ = some (.int .i64 x.a) ∧ w'.cell? ⟨bx, ox + 13, none⟩ = some (.int .i64 x.r)) (go_keep)
            ((refine step_append_rd (by rfl) (.tmp 45) (.tmp 49) 24 (by rfl) w.heap.size 40 i0 _ 14 112 Try.underlying24 hi0 hz0 hz1 hz2 rfl (by omega) (.slice A9 n9 c9) n9 (flat Fc.cells O) (by rfl) (own1.alloc _) (w1.heap.size + 1) (some ⟨w1.heap.size, 0, none⟩) 1 1 x.cells (by rfl) (Rd.built (cs := x.cells.toArray) (heap_alloc_new w1 _) (by omega) rfl) (by intro u hu; simp only [Fc.cells, List.mem_cons, List.not_mem_nil, or_false] at hu; rcases hu with rfl | rfl | rfl | rfl | rfl | rfl | rfl | rfl | rfl | rfl | rfl | rfl | rfl | rfl <;> rfl) (by unfold maxLen; omega) (by omega) (by simp; omega) ?_; intro v4 w4 hown4 hg4 hat4
              have fx4 := FcAt.grown (show FcAt (w1.alloc (.cells x.cells.toArray 40)).drew bx ox x from fxk.below ((Below.refl w1.heap.size w1).alloc (Nat.le_refl _) (.cells x.cells.toArray 40)).drew hbx1) hg4 (fun e => by have := (own1.lt bx e.symm).1; omega)
              obtain ⟨r0, r1, r2, r3, r4, r5, r6, r7, r8, r9, r10, r11, r12, r13⟩ := fx4))
          obtain ⟨A4, c4, rfl, _, _, _⟩ := own_form hown4
          have hbf := (hbW.alloc hbW.size (.cells x.cells.toArray 40)).drew.grown hg4 (by simp; omega) (fun g e => (own1.lt g e).1)
          clear p0 r0 p1 r1 p2 r2 p3 r3 p4 r4 p5 r5 p6 r6 p7 r7 p8 r8 p9 r9 p10 r10 p11 r11 p12 r12 p13 r13
          go_wp2_with fail
          go_roundw
          case rel => exact ⟨X2, y :: Y2, O ++ [x], some ⟨bx, ox + 14, none⟩, some ⟨by', oy, none⟩, A4, n' - 1, c' - 1, m', d', n9 + 1, c4, rfl, rfl, rfl, by have := HXL.out; rw [List.length_cons] at this; omega, HYL.out, by rw [List.length_append, HOL.out]; rfl, by omega, by omega, by unfold maxLen; omega, by unfold maxLen; omega, by omega, by omega, by omega, HE2.out, hX.tail, hY, HVX2.out, HVYA.out, by rw [flat_append, flat_one]; exact hown4, hbf⟩
          case measure => simp [slen] <;> omega
      · have HE2 : Hid ((O ++ [y]) ++ mgF (x :: X2) Y2 = mgF X Y) := Lib.hid (by rw [← HM.out, HMC.out, if_neg (by rw [HZ.out]; omega), if_pos (by rw [HZ.out]; exact hzz), List.append_assoc]; rfl)
        have hzn : ¬ z < 0 := by omega
        have fyk := fy1
        obtain ⟨p0, p1, p2, p3, p4, p5, p6, p7, p8, p9, p10, p11, p12, p13⟩ := fy1
        by_cases hc1 : d' = 1
        · obtain rfl : m' = 1 := by omega
          subst hc1
          go_upto_region 8 with (fail)
          go_region_held3 (fun w' => w'.cell? ⟨by', oy, none⟩ = some (.int .i64 y.i) ∧ w'.cell? ⟨by', oy + 1, none⟩ = some (.int .i64 y.n) ∧ w'.cell? ⟨by', oy + 2, none⟩ = some (.int .i64 y.v) ∧ w'.cell? ⟨by', oy + 3, none⟩ = some (.bool y.g) ∧ w'.cell? ⟨by', oy + 4, none⟩ = some (.int .i64 y.p) ∧ w'.cell? ⟨by', oy + 5, none⟩ = some (.int .i64 y.k) ∧ w'.cell? ⟨by', oy + 6, none⟩ = some (.int .i64 y.s) ∧ w'.cell? ⟨by', oy + 7, none⟩ = some (.int .i64 y.f) ∧ w'.cell? ⟨by', oy + 8, none⟩ = some (.int .i64 y.t) ∧ w'.cell? ⟨by', oy + 9, none⟩ = some (.int .i64 y.e) ∧ w'.cell? ⟨by', oy + 10, none⟩ = some (.int .i64 y.h) ∧ w'.cell? ⟨by', oy + 11, none⟩ = some (.int .i64 y.c) ∧ w'.cell? ⟨by', oy + 12, none⟩ = some (.int .i64 y.a) ∧ w'.cell? ⟨by', oy + 13, none⟩ = some (.int .i64 y.r)) (go_keep)
            ((refine step_append_rd (by rfl) (.tmp 56) (.tmp 60) 24 (by rfl) w.heap.size 40 i0 _ 14 112 Try.underlying24 hi0 hz0 hz1 hz2 rfl (by omega) (.slice A9 n9 c9) n9 (flat Fc.cells O) (by rfl) (own1.alloc _) (w1.heap.size + 1) (some ⟨w1.heap.size, 0, none⟩) 1 1 y.cells (by rfl) (Rd.built (cs := y.cells.toArray) (heap_alloc_new w1 _) (by omega) rfl) (by intro u hu; simp only [Fc.cells, List.mem_cons, List.not_mem_nil, or_false] at hu; rcases hu with rfl | rfl | rfl | rfl | rfl | rfl | rfl | rfl | rfl | rfl | rfl | rfl | rfl | rfl <;> rfl) (by unfold maxLen; omega) (by omega) (by simp; omega) ?_; intro v4 w4 hown4 hg4 hat4
              have fx4 := FcAt.grown (show FcAt (w1.alloc (.cells y.cells.toArray 40)).drew by' oy y from fyk.below ((Below.refl w1.heap.size w1).alloc (Nat.le_refl _) (.cells y.cells.toArray 40)).drew hby1) hg4 (fun e => by have := (own1.lt by' e.symm).1; omega)
              obtain ⟨r0, r1, r2, r3, r4, r5, r6, r7, r8, r9, r10, r11, r12, r13⟩ := fx4))
          obtain ⟨A4, c4, rfl, _, _, _⟩ := own_form hown4
          have hbf := (hbW.alloc hbW.size (.cells y.cells.toArray 40)).drew.grown hg4 (by simp; omega) (fun g e => (own1.lt g e).1)
          clear p0 r0 p1 r1 p2 r2 p3 r3 p4 r4 p5 r5 p6 r6 p7 r7 p8 r8 p9 r9 p10 r10 p11 r11 p12 r12 p13 r13
          go_wp2_with fail
          go_roundw
          case rel => exact ⟨x :: X2, Y2, O ++ [y], some ⟨bx, ox, none⟩, some ⟨by', oy, none⟩, A4, n', c', 0, 0, n9 + 1, c4, rfl, rfl, rfl, HXL.out, by have := HYL.out; rw [List.length_cons] at this; omega, by rw [List.length_append, HOL.out]; rfl, by omega, by omega, by unfold maxLen; omega, by unfold maxLen; omega, by omega, by omega, by omega, HE2.out, hX, hY.tail1 (Nat.le_refl _) _, HVXA.out, HVY2.out, by rw [flat_append, flat_one]; exact hown4, hbf⟩
          case measure => simp [slen] <;> omega
        · have hc2 : (1 : Int) < (d' : Int) := by omega
          have hc3 : 1 < d' := by omega
          go_upto_region 8 with (fail)
          go_region_held3 (fun w' => w'.cell? ⟨by', oy, none⟩ = some (.int .i64 y.i) ∧ w'.cell? ⟨by', oy + 1, none⟩ = some (.int .i64 y.n) ∧ w'.cell? ⟨by', oy + 2, none⟩ = some (.int .i64 y.v) ∧ w'.cell? ⟨by', oy + 3, none⟩ = some (.bool y.g) ∧ w'.cell? ⟨by', oy + 4, none⟩ = some (.int .i64 y.p) ∧ w'.cell? ⟨by', oy + 5, none⟩ = some (.int .i64 y.k) ∧ w'.cell? ⟨by', oy + 6, none⟩ = some (.int .i64 y.s) ∧ w'.cell? ⟨by', oy + 7, none⟩ = some (.int .i64 y.f) ∧ w'.cell? ⟨by', oy + 8, none⟩ = some (.int .i64 y.t) ∧ w'.cell? ⟨by', oy + 9, none⟩ = some (.int .i64 y.e) ∧ w'.cell? ⟨by', oy + 10, none⟩ = some (.int .i64 y.h) ∧ w'.cell? ⟨by', oy + 11, none⟩ = some (.int .i64 y.c) ∧ w'.cell? ⟨by', oy + 12, none⟩ = some (.int .i64 y.a) ∧ w'.cell? ⟨by', oy + 13, none⟩ = some (.int .i64 y.r)) (go_keep)
            ((refine step_append_rd (by rfl) (.tmp 56) (.tmp 60) 24 (by rfl) w.heap.size 40 i0 _ 14 112 Try.underlying24 hi0 hz0 hz1 hz2 rfl (by omega) (.slice A9 n9 c9) n9 (flat Fc.cells O) (by rfl) (own1.alloc _) (w1.heap.size + 1) (some ⟨w1.heap.size, 0, none⟩) 1 1 y.cells (by rfl) (Rd.built (cs := y.cells.toArray) (heap_alloc_new w1 _) (by omega) rfl) (by intro u hu; simp only [Fc.cells, List.mem_cons, List.not_mem_nil, or_false] at hu; rcases hu with rfl | rfl | rfl | rfl | rfl | rfl | rfl | rfl | rfl | rfl | rfl | rfl | rfl | rfl <;> rfl) (by unfold maxLen; omega) (by omega) (by simp; omega) ?_; intro v4 w4 hown4 hg4 hat4
              have fx4 := FcAt.grown (show FcAt (w1.alloc (.cells y.cells.toArray 40)).drew by' oy y from fyk.below ((Below.refl w1.heap.size w1).alloc (Nat.le_refl _) (.cells y.cells.toArray 40)).drew hby1) hg4 (fun e => by have := (own1.lt by' e.symm).1; omega)
              obtain ⟨r0, r1, r2, r3, r4, r5, r6, r7, r8, r9, r10, r11, r12, r13⟩ := fx4))
          obtain ⟨A4, c4, rfl, _, _, _⟩ := own_form hown4
          have hbf := (hbW.alloc hbW.size (.cells y.cells.toArray 40)).drew.grown hg4 (by simp; omega) (fun g e => (own1.lt g e).1)
          clear p0 r0 p1 r1 p2 r2 p3 r3 p4 r4 p5 r5 p6 r6 p7 r7 p8 r8 p9 r9 p10 r10 p11 r11 p12 r12 p13 r13
          go_wp2_with fail
          go_roundw
          case rel => exact ⟨x :: X2, Y2, O ++ [y], some ⟨bx, ox, none⟩, some ⟨by', oy + 14, none⟩, A4, n', c', m' - 1, d' - 1, n9 + 1, c4, rfl, rfl, rfl, HXL.out, by have := HYL.out; rw [List.length_cons] at this; omega, by rw [List.length_append, HOL.out]; rfl, by omega, by omega, by unfold maxLen; omega, by unfold maxLen; omega, by omega, by omega, by omega, HE2.out, hX, hY.tail, HVXA.out, HVY2.out, by rw [flat_append, flat_one]; exact hown4, hbf⟩
          case measure => simp [slen] <;> omega
      · obtain ⟨G, hG⟩ : ∃ G, grF x y = G := ⟨_, rfl⟩
        have HG := Lib.hid hG
        have HE2 : Hid ((O ++ [G]) ++ mgF X2 Y2 = mgF X Y) := Lib.hid (by rw [← HM.out, HMC.out, if_neg (by rw [HZ.out]; omega), if_neg (by rw [HZ.out]; omega), List.append_assoc, hG]; rfl)
        clear hG
        subst hzz
        have fxk := fx1
        have fyk := fy1
        obtain ⟨p0, p1, p2, p3, p4, p5, p6, p7, p8, p9, p10, p11, p12, p13⟩ := fx1
        obtain ⟨q0, q1, q2, q3, q4, q5, q6, q7, q8, q9, q10, q11, q12, q13⟩ := fy1
        by_cases hc1 : c' = 1
        · obtain rfl : n' = 1 := by omega
          subst hc1
          by_cases hd1 : d' = 1
          · obtain rfl : m' = 1 := by omega
            subst hd1
            go_upto_region 4 with (fail)
            have gx : FcAt w1.drew bx ox x := fxk
            have gy : FcAt w1.drew by' oy y := fyk
            have hbxd : bx < w1.drew.heap.size := hbx1
            have hbyd : by' < w1.drew.heap.size := hby1
            have own1d := own_drewF own1
            go_region_held3 (fun w' => (w'.cell? ⟨bx, ox, none⟩ = some (.int .i64 x.i) ∧ w'.cell? ⟨bx, ox + 1, none⟩ = some (.int .i64 x.n) ∧ w'.cell? ⟨bx, ox + 2, none⟩ = some (.int .i64 x.v) ∧ w'.cell? ⟨bx, ox + 3, none⟩ = some (.bool x.g) ∧ w'.cell? ⟨bx, ox + 4, none⟩ = some (.int .i64 x.p) ∧ w'.cell? ⟨bx, ox + 5, none⟩ = some (.int .i64 x.k) ∧ w'.cell? ⟨bx, ox + 6, none⟩ = some (.int .i64 x.s) ∧ w'.cell? ⟨bx, ox + 7, none⟩ = some (.int .i64 x.f) ∧ w'.cell? ⟨bx, ox + 8, none⟩ = some (.int .i64 x.t) ∧ w'.cell? ⟨bx, ox + 9, none⟩ = some (.int .i64 x.e) ∧ w'.cell? ⟨bx, ox + 10, none⟩ = some (.int .i64 x.h) ∧ w'.cell? ⟨bx, ox + 11, none⟩ = some (.int .i64 x.c) ∧ w'.cell? ⟨bx, ox + 12, none⟩ = some (.int .i64 x.a) ∧ w'.cell? ⟨bx, ox + 13, none⟩ = some (.int .i64 x.r)) ∧ (w'.cell? ⟨by', oy, none⟩ = some (.int .i64 y.i) ∧ w'.cell? ⟨by', oy + 1, none⟩ = some (.int .i64 y.n) ∧ w'.cell? ⟨by', oy + 2, none⟩ = some (.int .i64 y.v) ∧ w'.cell? ⟨by', oy + 3, none⟩ = some (.bool y.g) ∧ w'.cell? ⟨by', oy + 4, none⟩ = some (.int .i64 y.p) ∧ w'.cell? ⟨by', oy + 5, none⟩ = some (.int .i64 y.k) ∧ w'.cell? ⟨by', oy + 6, none⟩ = some (.int .i64 y.s) ∧ w'.cell? ⟨by', oy + 7, none⟩ = some (.int .i64 y.f) ∧ w'.cell? ⟨by', oy + 8, none⟩ = some (.int .i64 y.t) ∧ w'.cell? ⟨by', oy + 9, none⟩ = some (.int .i64 y.e) ∧ w'.cell? ⟨by', oy + 10, none⟩ = some (.int .i64 y.h) ∧ w'.cell? ⟨by', oy + 11, none⟩ = some (.int .i64 y.c) ∧ w'.cell? ⟨by', oy + 12, none⟩ = some (.int .i64 y.a) ∧ w'.cell? ⟨by', oy + 13, none⟩ = some (.int .i64 y.r))) (go_keep)
              (first
                | (go_at_call 46; ((with_reducible refine (greater_to HVX.out HVY.out HG.out _).mono ?_)); rintro e u ⟨rfl, hbu⟩
                   have fxu := gx.to hbu hbxd
                   have fyu := gy.to hbu hbyd
                   have ownu := own_underF own1d hbu
                   have hzu := hbu.size
                   have hzW : w.heap.size ≤ u.heap.size := Nat.le_trans hw1z hbu.size
                   have fxv := fxu
                   have fyv := fyu
                   have hbxu : bx < u.heap.size := by omega
                   have hbyu : by' < u.heap.size := by omega
                   obtain ⟨s0, s1, s2, s3, s4, s5, s6, s7, s8, s9, s10, s11, s12, s13⟩ := fxu
                   obtain ⟨t0, t1, t2, t3, t4, t5, t6, t7, t8, t9, t10, t11, t12, t13⟩ := fyu)
                | (refine step_append_rd (by rfl) (.tmp 27) (.tmp 36) 24 (by rfl) w.heap.size 40 i0 _ 14 112 Try.underlying24 hi0 hz0 hz1 hz2 rfl (by omega) (.slice A9 n9 c9) n9 (flat Fc.cells O) (by rfl) (ownu.alloc _) (u.heap.size + 1) (some ⟨u.heap.size, 0, none⟩) 1 1 G.cells (by rfl) (Rd.built (cs := G.cells.toArray) (heap_alloc_new u _) (by omega) rfl) (by intro u hu; simp only [Fc.cells, List.mem_cons, List.not_mem_nil, or_false] at hu; rcases hu with rfl | rfl | rfl | rfl | rfl | rfl | rfl | rfl | rfl | rfl | rfl | rfl | rfl | rfl <;> rfl) (by unfold maxLen; omega) (by omega) (by simp; omega) ?_; intro v4 w4 hown4 hg4 hat4
                   have fx4 := FcAt.grown (fxv.below ((Below.refl u.heap.size u).alloc (Nat.le_refl _) (.cells G.cells.toArray 40)) hbxu) hg4 (fun e => by have := (ownu.lt bx e.symm).1; omega)
                   have fy4 := FcAt.grown (fyv.below ((Below.refl u.heap.size u).alloc (Nat.le_refl _) (.cells G.cells.toArray 40)) hbyu) hg4 (fun e => by have := (ownu.lt by' e.symm).1; omega)
                   obtain ⟨r0, r1, r2, r3, r4, r5, r6, r7, r8, r9, r10, r11, r12, r13⟩ := fx4
                   obtain ⟨v0, v1, v2, v3, v4, v5, v6, v7, v8, v9, v10, v11, v12, v13⟩ := fy4))
            obtain ⟨A4, c4, rfl, _, _, _⟩ := own_form hown4
            have hbU := hbW.drew.trans (hbu.mono hbW.drew.size)
            have hbf := (hbU.alloc hbU.size (.cells G.cells.toArray 40)).grown hg4 (by simp; omega) (fun g e => (ownu.lt g e).1)
            clear p0 q0 s0 t0 r0 v0 p1 q1 s1 t1 r1 v1 p2 q2 s2 t2 r2 v2 p3 q3 s3 t3 r3 v3 p4 q4 s4 t4 r4 v4 p5 q5 s5 t5 r5 v5 p6 q6 s6 t6 r6 v6 p7 q7 s7 t7 r7 v7 p8 q8 s8 t8 r8 v8 p9 q9 s9 t9 r9 v9 p10 q10 s10 t10 r10 v10 p11 q11 s11 t11 r11 v11 p12 q12 s12 t12 r12 v12 p13 q13 s13 t13 r13 v13
            go_wp2_with fail
            go_roundw
            case rel => exact ⟨X2, Y2, O ++ [G], some ⟨bx, ox, none⟩, some ⟨by', oy, none⟩, A4, 0, 0, 0, 0, n9 + 1, c4, rfl, rfl, rfl, by have := HXL.out; rw [List.length_cons] at this; omega, by have := HYL.out; rw [List.length_cons] at this; omega, by rw [List.length_append, HOL.out]; rfl, by omega, by omega, by unfold maxLen; omega, by unfold maxLen; omega, by omega, by omega, by omega, HE2.out, hX.tail1 (Nat.le_refl _) _, hY.tail1 (Nat.le_refl _) _, HVX2.out, HVY2.out, by rw [flat_append, flat_one]; exact hown4, hbf⟩
            case measure => simp [slen] <;> omega
          · have hd2 : (1 : Int) < (d' : Int) := by omega
            have hd3 : 1 < d' := by omega
            go_upto_region 4 with (fail)
            have gx : FcAt w1.drew bx ox x := fxk
            have gy : FcAt w1.drew by' oy y := fyk
            have hbxd : bx < w1.drew.heap.size := hbx1
            have hbyd : by' < w1.drew.heap.size := hby1
            have own1d := own_drewF own1
            go_region_held3 (fun w' => (w'.cell? ⟨bx, ox, none⟩ = some (.int .i64 x.i) ∧ w'.cell? ⟨bx, ox + 1, none⟩ = some (.int .i64 x.n) ∧ w'.cell? ⟨bx, ox + 2, none⟩ = some (.int .i64 x.v) ∧ w'.cell? ⟨bx, ox + 3, none⟩ = some (.bool x.g) ∧ w'.cell? ⟨bx, ox + 4, none⟩ = some (.int .i64 x.p) ∧ w'.cell? ⟨bx, ox + 5, none⟩ = some (.int .i64 x.k) ∧ w'.cell? ⟨bx, ox + 6, none⟩ = some (.int .i64 x.s) ∧ w'.cell? ⟨bx, ox + 7, none⟩ = some (.int .i64 x.f) ∧ w'.cell? ⟨bx, ox + 8, none⟩ = some (.int .i64 x.t) ∧ w'.cell? ⟨bx, ox + 9, none⟩ = some (.int .i64 x.e) ∧ w'.cell? ⟨bx, ox + 10, none⟩ = some (.int .i64 x.h) ∧ w'.cell? ⟨bx, ox + 11, none⟩ = some (.int .i64 x.c) ∧ w'.cell? ⟨bx, ox + 12, none⟩ = some (.int .i64 x.a) ∧ w'.cell? ⟨bx, ox + 13, none⟩ = some (.int .i64 x.r)) ∧ (w'.cell? ⟨by', oy, none⟩ = some (.int .i64 y.i) ∧ w'.cell? ⟨by', oy + 1, none⟩ = some (.int .i64 y.n) ∧ w'.cell? ⟨by', oy + 2, none⟩ = some (.int .i64 y.v) ∧ w'.cell? ⟨by', oy + 3, none⟩ = some (.bool y.g) ∧ w'.cell? ⟨by', oy + 4, none⟩ = some (.int .i64 y.p) ∧ w'.cell? ⟨by', oy + 5, none⟩ = some (.int .i64 y.k) ∧ w'.cell? ⟨by', oy + 6, none⟩ = some (.int .i64 y.s) ∧ w'.cell? ⟨by', oy + 7, none⟩ = some (.int .i64 y.f) ∧ w'.cell? ⟨by', oy + 8, none⟩ = some (.int .i64 y.t) ∧ w'.cell? ⟨by', oy + 9, none⟩ = some (.int .i64 y.e) ∧ w'.cell? ⟨by', oy + 10, none⟩ = some (.int .i64 y.h) ∧ w'.cell? ⟨by', oy + 11, none⟩ = some (.int .i64 y.c) ∧ w'.cell? ⟨by', oy + 12, none⟩ = some (.int .i64 y.a) ∧ w'.cell? ⟨by', oy + 13, none⟩ = some (.int .i64 y.r))) (go_keep)
              (first
                | (go_at_call 46; ((with_reducible refine (greater_to HVX.out HVY.out HG.out _).mono ?_)); rintro e u ⟨rfl, hbu⟩
                   have fxu := gx.to hbu hbxd
                   have fyu := gy.to hbu hbyd
                   have ownu := own_underF own1d hbu
                   have hzu := hbu.size
                   have hzW : w.heap.size ≤ u.heap.size := Nat.le_trans hw1z hbu.size
                   have fxv := fxu
                   have fyv := fyu
                   have hbxu : bx < u.heap.size := by omega
                   have hbyu : by' < u.heap.size := by omega
                   obtain ⟨s0, s1, s2, s3, s4, s5, s6, s7, s8, s9, s10, s11, s12, s13⟩ := fxu
                   obtain ⟨t0, t1, t2, t3, t4, t5, t6, t7, t8, t9, t10, t11, t12, t13⟩ := fyu)
                | (refine step_append_rd (by rfl) (.tmp 27) (.tmp 36) 24 (by rfl) w.heap.size 40 i0 _ 14 112 Try.underlying24 hi0 hz0 hz1 hz2 rfl (by omega) (.slice A9 n9 c9) n9 (flat Fc.cells O) (by rfl) (ownu.alloc _) (u.heap.size + 1) (some ⟨u.heap.size, 0, none⟩) 1 1 G.cells (by rfl) (Rd.built (cs := G.cells.toArray) (heap_alloc_new u _) (by omega) rfl) (by intro u hu; simp only [Fc.cells, List.mem_cons, List.not_mem_nil, or_false] at hu; rcases hu with rfl | rfl | rfl | rfl | rfl | rfl | rfl | rfl | rfl | rfl | rfl | rfl | rfl | rfl <;> rfl) (by unfold maxLen; omega) (by omega) (by simp; omega) ?_; intro v4 w4 hown4 hg4 hat4
                   have fx4 := FcAt.grown (fxv.below ((Below.refl u.heap.size u).alloc (Nat.le_refl _) (.cells G.cells.toArray 40)) hbxu) hg4 (fun e => by have := (ownu.lt bx e.symm).1; omega)
                   have fy4 := FcAt.grown (fyv.below ((Below.refl u.heap.size u).alloc (Nat.le_refl _) (.cells G.cells.toArray 40)) hbyu) hg4 (fun e => by have := (ownu.lt by' e.symm).1; omega)
                   obtain ⟨r0, r1, r2, r3, r4, r5, r6, r7, r8, r9, r10, r11, r12, r13⟩ := fx4
                   obtain ⟨v0, v1, v2, v3, v4, v5, v6, v7, v8, v9, v10, v11, v12, v13⟩ := fy4))
            obtain ⟨A4, c4, rfl, _, _, _⟩ := own_form hown4
            have hbU := hbW.drew.trans (hbu.mono hbW.drew.size)
            have hbf := (hbU.alloc hbU.size (.cells G.cells.toArray 40)).grown hg4 (by simp; omega) (fun g e => (ownu.lt g e).1)
            clear p0 q0 s0 t0 r0 v0 p1 q1 s1 t1 r1 v1 p2 q2 s2 t2 r2 v2 p3 q3 s3 t3 r3 v3 p4 q4 s4 t4 r4 v4 p5 q5 s5 t5 r5 v5 p6 q6 s6 t6 r6 v6 p7 q7 s7 t7 r7 v7 p8 q8 s8 t8 r8 v8 p9 q9 s9 t9 r9 v9 p10 q10 s10 t10 r10 v10 p11 q11 s11 t11 r11 v11 p12 q12 s12 t12 r12 v12 p13 q13 s13 t13 r13 v13
            go_wp2_with fail
            go_roundw
            case rel => exact ⟨X2, Y2, O ++ [G], some ⟨bx, ox, none⟩, some ⟨by', oy + 14, none⟩, A4, 0, 0, m' - 1, d' - 1, n9 + 1, c4, rfl, rfl, rfl, by have := HXL.out; rw [List.length_cons] at this; omega, by have := HYL.out; rw [List.length_cons] at this; omega, by rw [List.length_append, HOL.out]; rfl, by omega, by omega, by unfold maxLen; omega, by unfold maxLen; omega, by omega, by omega, by omega, HE2.out, hX.tail1 (Nat.le_refl _) _, hY.tail, HVX2.out, HVY2.out, by rw [flat_append, flat_one]; exact hown4, hbf⟩
            case measure => simp [slen] <;> omega
        · have hc2 : (1 : Int) < (c' : Int) := by omega
          have hc3 : 1 < c' := by omega
          by_cases hd1 : d' = 1
          · obtain rfl : m' = 1 := by omega
            subst hd1
            go_upto_region 4 with (fail)
            have gx : FcAt w1.drew bx ox x := fxk
            have gy : FcAt w1.drew by' oy y := fyk
            have hbxd : bx < w1.drew.heap.size := hbx1
            have hbyd : by' < w1.drew.heap.size := hby1
            have own1d := own_drewF own1
            go_region_held3 (fun w' => (w'.cell? ⟨bx, ox, none⟩ = some (.int .i64 x.i) ∧ w'.cell? ⟨bx, ox + 1, none⟩ = some (.int .i64 x.n) ∧ w'.cell? ⟨bx, ox + 2, none⟩ = some (.int .i64 x.v) ∧ w'.cell? ⟨bx, ox + 3, none⟩ = some (.bool x.g) ∧ w'.cell? ⟨bx, ox + 4, none⟩ = some (.int .i64 x.p) ∧ w'.cell? ⟨bx, ox + 5, none⟩ = some (.int .i64 x.k) ∧ w'.cell? ⟨bx, ox + 6, none⟩ = some (.int .i64 x.s) ∧ w'.cell? ⟨bx, ox + 7, none⟩ = some (.int .i64 x.f) ∧ w'.cell? ⟨bx, ox + 8, none⟩ = some (.int .i64 x.t) ∧ w'.cell? ⟨bx, ox + 9, none⟩ = some (.int .i64 x.e) ∧ w'.cell? ⟨bx, ox + 10, none⟩ = some (.int .i64 x.h) ∧ w'.cell? ⟨bx, ox + 11, none⟩ = some (.int .i64 x.c) ∧ w'.cell? ⟨bx, ox + 12, none⟩ = some (.int .i64 x.a) ∧ w'.cell? ⟨bx, ox + 13, none⟩ = some (.int .i64 x.r)) ∧ (w'.cell? ⟨by', oy, none⟩ = some (.int .i64 y.i) ∧ w'.cell? ⟨by', oy + 1, none⟩ = some (.int .i64 y.n) ∧ w'.cell? ⟨by', oy + 2, none⟩ = some (.int .i64 y.v) ∧ w'.cell? ⟨by', oy + 3, none⟩ = some (.bool y.g) ∧ w'.cell? ⟨by', oy + 4, none⟩ = some (.int .i64 y.p) ∧ w'.cell? ⟨by', oy + 5, none⟩ = some (.int .i64 y.k) ∧ w'.cell? ⟨by', oy + 6, none⟩ = some (.int .i64 y.s) ∧ w'.cell? ⟨by', oy + 7, none⟩ = some (.int .i64 y.f) ∧ w'.cell? ⟨by', oy + 8, none⟩ = some (.int .i64 y.t) ∧ w'.cell? ⟨by', oy + 9, none⟩ = some (.int .i64 y.e) ∧ w'.cell? ⟨by', oy + 10, none⟩ = some (.int .i64 y.h) ∧ w'.cell? ⟨by', oy + 11, none⟩ = some (.int .i64 y.c) ∧ w'.cell? ⟨by', oy + 12, none⟩ = some (.int .i64 y.a) ∧ w'.cell? ⟨by', oy + 13, none⟩ = some (.int .i64 y.r))) (go_keep)
              (first
                | (go_at_call 46; ((with_reducible refine (greater_to HVX.out HVY.out HG.out _).mono ?_)); rintro e u ⟨rfl, hbu⟩
                   have fxu := gx.to hbu hbxd
                   have fyu := gy.to hbu hbyd
                   have ownu := own_underF own1d hbu
                   have hzu := hbu.size
                   have hzW : w.heap.size ≤ u.heap.size := Nat.le_trans hw1z hbu.size
                   have fxv := fxu
                   have fyv := fyu
                   have hbxu : bx < u.heap.size := by omega
                   have hbyu : by' < u.heap.size := by omega
                   obtain ⟨s0, s1, s2, s3, s4, s5, s6, s7, s8, s9, s10, s11, s12, s13⟩ := fxu
                   obtain ⟨t0, t1, t2, t3, t4, t5, t6, t7, t8, t9, t10, t11, t12, t13⟩ := fyu)
                | (refine step_append_rd (by rfl) (.tmp 27) (.tmp 36) 24 (by rfl) w.heap.size 40 i0 _ 14 112 Try.underlying24 hi0 hz0 hz1 hz2 rfl (by omega) (.slice A9 n9 c9) n9 (flat Fc.cells O) (by rfl) (ownu.alloc _) (u.heap.size + 1) (some ⟨u.heap.size, 0, none⟩) 1 1 G.cells (by rfl) (Rd.built (cs := G.cells.toArray) (heap_alloc_new u _) (by omega) rfl) (by intro u hu; simp only [Fc.cells, List.mem_cons, List.not_mem_nil, or_false] at hu; rcases hu with rfl | rfl | rfl | rfl | rfl | rfl | rfl | rfl | rfl | rfl | rfl | rfl | rfl | rfl <;> rfl) (by unfold maxLen; omega) (by omega) (by simp; omega) ?_; intro v4 w4 hown4 hg4 hat4
                   have fx4 := FcAt.grown (fxv.below ((Below.refl u.heap.size u).alloc (Nat.le_refl _) (.cells G.cells.toArray 40)) hbxu) hg4 (fun e => by have := (ownu.lt bx e.symm).1; omega)
                   have fy4 := FcAt.grown (fyv.below ((Below.refl u.heap.size u).alloc (Nat.le_refl _) (.cells G.cells.toArray 40)) hbyu) hg4 (fun e => by have := (ownu.lt by' e.symm).1; omega)
                   obtain ⟨r0, r1, r2, r3, r4, r5, r6, r7, r8, r9, r10, r11, r12, r13⟩ := fx4
                   obtain ⟨v0, v1, v2, v3, v4, v5, v6, v7, v8, v9, v10, v11, v12, v13⟩ := fy4))
            obtain ⟨A4, c4, rfl, _, _, _⟩ := own_form hown4
            have hbU := hbW.drew.trans (hbu.mono hbW.drew.size)
            have hbf := (hbU.alloc hbU.size (.cells G.cells.toArray 40)).grown hg4 (by simp; omega) (fun g e => (ownu.lt g e).1)
            clear p0 q0 s0 t0 r0 v0 p1 q1 s1 t1 r1 v1 p2 q2 s2 t2 r2 v2 p3 q3 s3 t3 r3 v3 p4 q4 s4 t4 r4 v4 p5 q5 s5 t5 r5 v5 p6 q6 s6 t6 r6 v6 p7 q7 s7 t7 r7 v7 p8 q8 s8 t8 r8 v8 p9 q9 s9 t9 r9 v9 p10 q10 s10 t10 r10 v10 p11 q11 s11 t11 r11 v11 p12 q12 s12 t12 r12 v12 p13 q13 s13 t13 r13 v13
            go_wp2_with fail
            go_roundw
            case rel => exact ⟨X2, Y2, O ++ [G], some ⟨bx, ox + 14, none⟩, some ⟨by', oy, none⟩, A4, n' - 1, c' - 1, 0, 0, n9 + 1, c4, rfl, rfl, rfl, by have := HXL.out; rw [List.length_cons] at this; omega, by have := HYL.out; rw [List.length_cons] at this; omega, by rw [List.length_append, HOL.out]; rfl, by omega, by omega, by unfold maxLen; omega, by unfold maxLen; omega, by omega, by omega, by omega, HE2.out, hX.tail, hY.tail1 (Nat.le_refl _) _, HVX2.out, HVY2.out, by rw [flat_append, flat_one]; exact hown4, hbf⟩
            case measure => simp [slen] <;> omega
          · have hd2 : (1 : Int) < (d' : Int) := by omega
            have hd3 : 1 < d' := by omega
            go_upto_region 4 with (fail)
            have gx : FcAt w1.drew bx ox x := fxk
            have gy : FcAt w1.drew by' oy y := fyk
            have hbxd : bx < w1.drew.heap.size := hbx1
            have hbyd : by' < w1.drew.heap.size := hby1
            have own1d := own_drewF own1
            go_region_held3 (fun w' => (w'.cell? ⟨bx, ox, none⟩ = some (.int .i64 x.i) ∧ w'.cell? ⟨bx, ox + 1, none⟩ = some (.int .i64 x.n) ∧ w'.cell? ⟨bx, ox + 2, none⟩ = some (.int .i64 x.v) ∧ w'.cell? ⟨bx, ox + 3, none⟩ = some (.bool x.g) ∧ w'.cell? ⟨bx, ox + 4, none⟩ = some (.int .i64 x.p) ∧ w'.cell? ⟨bx, ox + 5, none⟩ = some (.int .i64 x.k) ∧ w'.cell? ⟨bx, ox + 6, none⟩ = some (.int .i64 x.s) ∧ w'.cell? ⟨bx, ox + 7, none⟩ = some (.int .i64 x.f) ∧ w'.cell? ⟨bx, ox + 8, none⟩ = some (.int .i64 x.t) ∧ w'.cell? ⟨bx, ox + 9, none⟩ = some (.int .i64 x.e) ∧ w'.cell? ⟨bx, ox + 10, none⟩ = some (.int .i64 x.h) ∧ w'.cell? ⟨bx, ox + 11, none⟩ = some (.int .i64 x.c) ∧ w'.cell? ⟨bx, ox + 12, none⟩ = some (.int .i64 x.a) ∧ w'.cell? ⟨bx, ox + 13, none⟩ = some (.int .i64 x.r)) ∧ (w'.cell? ⟨by', oy, none⟩ = some (.int .i64 y.i) ∧ w'.cell? ⟨by', oy + 1, none⟩ = some (.int .i64 y.n) ∧ w'.cell? ⟨by', oy + 2, none⟩ = some (.int .i64 y.v) ∧ w'.cell? ⟨by', oy + 3, none⟩ = some (.bool y.g) ∧ w'.cell? ⟨by', oy + 4, none⟩ = some (.int .i64 y.p) ∧ w'.cell? ⟨by', oy + 5, none⟩ = some (.int .i64 y.k) ∧ w'.cell? ⟨by', oy + 6, none⟩ = some (.int .i64 y.s) ∧ w'.cell? ⟨by', oy + 7, none⟩ = some (.int .i64 y.f) ∧ w'.cell? ⟨by', oy + 8, none⟩ = some (.int .i64 y.t) ∧ w'.cell? ⟨by', oy + 9, none⟩ = some (.int .i64 y.e) ∧ w'.cell? ⟨by', oy + 10, none⟩ = some (.int .i64 y.h) ∧ w'.cell? ⟨by', oy + 11, none⟩ = some (.int .i64 y.c) ∧ w'.cell? ⟨by', oy + 12, none⟩ = some (.int .i64 y.a) ∧ w'.cell? ⟨by', oy + 13, none⟩ = some (.int .i64 y.r))) (go_keep)
              (first
                | (go_at_call 46; ((with_reducible refine (greater_to HVX.out HVY.out HG.out _).mono ?_)); rintro e u ⟨rfl, hbu⟩
                   have fxu := gx.to hbu hbxd
                   have fyu := gy.to hbu hbyd
                   have ownu := own_underF own1d hbu
                   have hzu := hbu.size
                   have hzW : w.heap.size ≤ u.heap.size := Nat.le_trans hw1z hbu.size
                   have fxv := fxu
                   have fyv := fyu
                   have hbxu : bx < u.heap.size := by omega
                   have hbyu : by' < u.heap.size := by omega
                   obtain ⟨s0, s1, s2, s3, s4, s5, s6, s7, s8, s9, s10, s11, s12, s13⟩ := fxu
                   obtain ⟨t0, t1, t2, t3, t4, t5, t6, t7, t8, t9, t10, t11, t12, t13⟩ := fyu)
                | (refine step_append_rd (by rfl) (.tmp 27) (.tmp 36) 24 (by rfl) w.heap.size 40 i0 _ 14 112 Try.underlying24 hi0 hz0 hz1 hz2 rfl (by omega) (.slice A9 n9 c9) n9 (flat Fc.cells O) (by rfl) (ownu.alloc _) (u.heap.size + 1) (some ⟨u.heap.size, 0, none⟩) 1 1 G.cells (by rfl) (Rd.built (cs := G.cells.toArray) (heap_alloc_new u _) (by omega) rfl) (by intro u hu; simp only [Fc.cells, List.mem_cons, List.not_mem_nil, or_false] at hu; rcases hu with rfl | rfl | rfl | rfl | rfl | rfl | rfl | rfl | rfl | rfl | rfl | rfl | rfl | rfl <;> rfl) (by unfold maxLen; omega) (by omega) (by simp; omega) ?_; intro v4 w4 hown4 hg4 hat4
                   have fx4 := FcAt.grown (fxv.below ((Below.refl u.heap.size u).alloc (Nat.le_refl _) (.cells G.cells.toArray 40)) hbxu) hg4 (fun e => by have := (ownu.lt bx e.symm).1; omega)
                   have fy4 := FcAt.grown (fyv.below ((Below.refl u.heap.size u).alloc (Nat.le_refl _) (.cells G.cells.toArray 40)) hbyu) hg4 (fun e => by have := (ownu.lt by' e.symm).1; omega)
                   obtain ⟨r0, r1, r2, r3, r4, r5, r6, r7, r8, r9, r10, r11, r12, r13⟩ := fx4
                   obtain ⟨v0, v1, v2, v3, v4, v5, v6, v7, v8, v9, v10, v11, v12, v13⟩ := fy4))
            obtain ⟨A4, c4, rfl, _, _, _⟩ := own_form hown4
            have hbU := hbW.drew.trans (hbu.mono hbW.drew.size)
            have hbf := (hbU.alloc hbU.size (.cells G.cells.toArray 40)).grown hg4 (by simp; omega) (fun g e => (ownu.lt g e).1)
            clear p0 q0 s0 t0 r0 v0 p1 q1 s1 t1 r1 v1 p2 q2 s2 t2 r2 v2 p3 q3 s3 t3 r3 v3 p4 q4 s4 t4 r4 v4 p5 q5 s5 t5 r5 v5 p6 q6 s6 t6 r6 v6 p7 q7 s7 t7 r7 v7 p8 q8 s8 t8 r8 v8 p9 q9 s9 t9 r9 v9 p10 q10 s10 t10 r10 v10 p11 q11 s11 t11 r11 v11 p12 q12 s12 t12 r12 v12 p13 q13 s13 t13 r13 v13
            go_wp2_with fail
            go_roundw
            case rel => exact ⟨X2, Y2, O ++ [G], some ⟨bx, ox + 14, none⟩, some ⟨by', oy + 14, none⟩, A4, n' - 1, c' - 1, m' - 1, d' - 1, n9 + 1, c4, rfl, rfl, rfl, by have := HXL.out; rw [List.length_cons] at this; omega, by have := HYL.out; rw [List.length_cons] at this; omega, by rw [List.length_append, HOL.out]; rfl, by omega, by omega, by unfold maxLen; omega, by unfold maxLen; omega, by omega, by omega, by omega, HE2.out, hX.tail, hY.tail, HVX2.out, HVY2.out, by rw [flat_append, flat_one]; exact hown4, hbf⟩
            case measure => simp [slen] <;> omega
    · have HE : Hid ((O ++ X') ++ Y' = mgF X Y) := Lib.hid (by
        rw [← HM.out, List.append_assoc]
        congr 1
        by_cases h1 : n' = 0
        · have e : X' = [] := List.eq_nil_of_length_eq_zero (by rw [HXL.out]; exact h1)
          rw [e, mgF_nil, List.nil_append]
        · have e : Y' = [] := List.eq_nil_of_length_eq_zero (by rw [HYL.out]; omega)
          rw [e, mgF_nil2, List.append_nil])
      have hXr := (hX.below hb).mono hwz
      have hYb := hY.below hb
      have hob := hown
      by_cases h1 : n' = 0
      all_goals
        have HN0 := Lib.hid h1
        go_wp2_with (at_builtin; first
          | (refine wpList_append_rd (by rfl) (.tmp 64) (.tmp 65) 24 (by rfl) w.heap.size 40 i0 _ 14 112 Try.underlying24 hi0 hz0 hz1 hz2 rfl (by omega) (.slice A9 n9 c9) n9 (flat Fc.cells O) (by rfl) hob wr.heap.size A' n' c' (flat Fc.cells X') (by rfl) hXr (cells_oneF X') (by unfold maxLen; omega) (by omega) hwz ?_; intro v4 w4 hown4 hg4 hat4
             have hb4 := hb.grown hg4 hwz (fun g e => (hob.lt g e).1)
             have hz4 := hb4.size
             have hY4 := hY.below hb4)
          | (refine wpList_append_rd (by rfl) (.tmp 66) (.tmp 67) 24 (by rfl) w.heap.size 40 i0 _ 14 112 Try.underlying24 hi0 hz0 hz1 hz2 rfl (by omega) v4 (n9 + n') (flat Fc.cells O ++ flat Fc.cells X') (by rfl) hown4 w.heap.size B' m' d' (flat Fc.cells Y') (by rfl) hY4 (cells_oneF Y') (by unfold maxLen; omega) (by omega) hz4 ?_; intro v5 w5 hown5 hg5 hat5))
        have hb5 := hb4.grown hg5 hz4 (fun g e => (hown4.lt g e).1)
        obtain ⟨A5, c5, rfl, _, _, _⟩ := own_form hown5
        go_ret
        refine ⟨A5, n9 + n' + m', c5, rfl, ?_, ?_, hb5⟩
        · rw [← HE.out, List.length_append, List.length_append, HOL.out, HXL.out, HYL.out]
        · rw [← HE.out, flat_append, flat_append]
          exact hown5
end Go.Proofs.Ytbogmkhoppffgaa
