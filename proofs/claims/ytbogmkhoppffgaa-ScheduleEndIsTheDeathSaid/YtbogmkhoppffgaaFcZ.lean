/- The hand's Facts and Lives: valid facts, few of them. -/
import Derived.Test.YtbogmkhoppffgaaFcY
namespace Go.Proofs.Ytbogmkhoppffgaa
open Go.RowKit

/-- Valid facts in a row of the call's own, at most m. -/
def RetVs (w : World) (m : Nat) (e : Ending) (w' : World) : Prop := ∃ A n c, ∃ L : List Fc, e = .returned (.slice A n c) ∧ L.length = n ∧ n ≤ m ∧ (∀ x ∈ L, Vld x) ∧ w'.ownsRow w.heap.size 40 14 (.slice A n c) n (flat Fc.cells L) ∧ Below w.heap.size w w'
theorem rf_cells {w : World} {B n : Nat} {A : Option Addr} {l : List Rf} (h : Rd w B 13 A n (flat Rf.cells l)) {k : Nat} {x : Rf} (hx : l[k]? = some x) : k < n ∧ ∃ b o, A = some ⟨b, o, none⟩ ∧ b < B ∧ RfAt w b (o + k * 13) x := by
  obtain ⟨hk, b, o, e, hb, hc⟩ := h.elem rf_len hx (by omega)
  exact ⟨hk, b, o, e, hb, rfAt_of hc⟩
theorem app_ok {O : List Fc} {x : Fc} (h : ∀ y ∈ O, Vld y) (hx : Vld x) : ∀ y ∈ O ++ [x], Vld y := by
  intro y hy
  rcases List.mem_append.1 hy with hy | hy
  · exact h y hy
  · obtain rfl : y = x := by simpa using hy
    exact hx
/-- Mod, for every modulus from 1 on. -/
theorem mod_max (n m : Int) (w : World) (h1 : 1 ≤ m) (h2 : m ≤ 9223372036854775807) :
    Calls Try.prog 6 #[.int .i64 n, .int .i64 m] w fun e w' => e = .returned (.int .i64 (n % m)) ∧ w = w' := by
  have g1 := Int.lt_tmod_of_pos n (show 0 < m by omega)
  have g2 := Int.tmod_lt_of_pos n (show 0 < m by omega)
  have hs := tmod_split n m
  have hm0 : (m == 0) = false := beq_eq_false_iff_ne.2 (by omega)
  by_cases hn : n.tmod m < 0
  · have hv : n % m = n.tmod m + m := by
      rw [hs, ← Int.add_emod_right, Int.emod_eq_of_lt (by omega) (by omega)]
    rw [hv]
    clear hs hv
    go_enter Try.func6, Try.ntmps6
    go_wp2
    go_ret
    exact ⟨rfl, rfl⟩
  · have hv : n % m = n.tmod m := by rw [hs, Int.emod_eq_of_lt (by omega) (by omega)]
    rw [hv]
    clear hs hv
    go_enter Try.func6, Try.ntmps6
    go_wp2
    go_ret
    exact ⟨rfl, rfl⟩
theorem mod_toM {n m z : Int} (h1 : 1 ≤ m) (h2 : m ≤ 9223372036854775807) (hz : n % m = z) (w : World) : Calls Try.prog 6 #[.int .i64 n, .int .i64 m] w fun e w' => e = .returned (.int .i64 z) ∧ w = w' := by
  subst hz
  exact mod_max n m w h1 h2
/-- A pick's value. -/
def pkV (l : List Int) (i : Int) : Int := if l.length = 0 then 0 else l.getD (i % (l.length : Int)).toNat 0
set_option maxRecDepth 100000 in
set_option maxHeartbeats 4000000 in
theorem pkd_any {A : Option Addr} {m c : Nat} {l : List Int} {w : World} (h : Rd w w.heap.size 1 A m (ints l)) (hm : m ≤ 9223372036854775807) (i : Int) : Calls Try.prog 13 #[.slice A m c, .int .i64 i] w fun e w' => e = .returned (.int .i64 (pkV l i)) ∧ w = w' := by
  have hl := h.len1
  by_cases h0 : m = 0
  · subst h0
    rw [show pkV l i = 0 by unfold pkV; rw [if_pos (by omega)]]
    go_enter Try.func13, Try.ntmps13
    go_wp2_with fail
    go_ret
    exact ⟨rfl, rfl⟩
  · obtain ⟨z, hz⟩ : ∃ z, i % (m : Int) = z := ⟨_, rfl⟩
    have hb := mod_bd i (m : Int) (by omega)
    rw [hz] at hb
    obtain ⟨k, rfl⟩ : ∃ k : Nat, z = (k : Int) := ⟨z.toNat, by omega⟩
    have hkl : k < l.length := by omega
    obtain ⟨x, hx⟩ : ∃ x, l[k]? = some x := ⟨_, List.getElem?_eq_getElem hkl⟩
    obtain ⟨_, b, o, rfl, hbl, hc⟩ := h.int hx
    rw [show pkV l i = x by unfold pkV; rw [if_neg (by omega), hl, hz, Int.toNat_natCast, List.getD_eq_getElem?_getD, hx]; rfl]
    have HZ := Lib.hid hz
    have g1 : (0 : Int) ≤ (k : Int) := by omega
    have g2 : (k : Int) < (m : Int) := by omega
    have hm0 : ((m : Int) == 0) = false := beq_eq_false_iff_ne.2 (by omega)
    clear hz hx hl
    go_enter Try.func13, Try.ntmps13
    go_wp2_with fail
    refine (mod_toM (by omega) (by omega) HZ.out _).mono ?_
    rintro e w1 ⟨rfl, rfl⟩
    go_wp2_with fail
    go_ret
    exact ⟨rfl, rfl⟩
theorem pk_to {A : Option Addr} {m c : Nat} {l : List Int} {w : World} (h : Rd w w.heap.size 1 A m (ints l)) (hm : m ≤ 9223372036854775807) {i v : Int} (hv : pkV l i = v) : Calls Try.prog 13 #[.slice A m c, .int .i64 i] w fun e w' => e = .returned (.int .i64 v) ∧ w = w' := by
  rw [← hv]
  exact pkd_any h hm i
theorem FldOk.yes {U : List UInt8} {l : UInt8} {x lo hi : Int} (h : lo ≤ x ∧ x ≤ hi) (hm : l ∈ U) : FldOk U l x lo hi := ⟨fun _ => h, fun e => (e hm).elim⟩
theorem FldOk.no {U : List UInt8} {l : UInt8} {x lo hi : Int} (h : x = 0) (hm : l ∉ U) : FldOk U l x lo hi := ⟨fun e => (hm e).elim, fun _ => h⟩

theorem vld_lit {i n v p k s f t e h c a r : Int} {g : Bool} (hi : 0 ≤ i ∧ i ≤ 5) (hn : 1 ≤ n ∧ n ≤ 999) (hv : 1 ≤ v ∧ v ≤ 99) (hp : 1 ≤ p ∧ p ≤ 99) (hk : 1 ≤ k ∧ k ≤ 14) (hsp : 0 ≤ f ∧ f < t ∧ t ≤ 73049)
    (hs : FldOk (useL k) 83 s 0 5) (he : FldOk (useL k) 84 e 0 5) (hh : FldOk (useL k) 72 h 1 100) (hc : FldOk (useL k) 67 c 1 999) (ha : FldOk (useL k) 65 a 0 1000000000) (hr : FldOk (useL k) 82 r 1 99)
    (h4 : k = 4 → s ≠ e) (h1 : k = 11 ∨ k = 12 → t = f + 1) (h2 : k = 10 ∨ k = 14 → r ≠ p) : Vld ⟨i, n, v, g, p, k, s, f, t, e, h, c, a, r⟩ :=
  ⟨hi, hn, hv, hp, hk, hsp, hs, he, hh, hc, ha, hr, h4, h1, h2⟩

set_option maxRecDepth 100000 in
set_option maxHeartbeats 4000000 in
theorem facts_any {A : Option Addr} {n c : Nat} {l : List Rf} {w : World} (h : Rd w w.heap.size 13 A n (flat Rf.cells l)) (hl : l.length = n) (hn : n ≤ 9223372036854775807) :
    Calls Try.prog 5 #[.slice A n c] w (RetVs w 12) := by
  obtain ⟨i0, hi0, hz0, hz1, hz2⟩ := info_parts info_fact
  have HL := Lib.hid hl
  clear hl
  go_enter Try.func5, Try.ntmps5
  go_wp2_with fail
  go_loopw [3, 4] (fun v i wr => ∃ (k c1 : Nat) (A1 : Option Addr) (O : List Fc), k ≤ n ∧ k ≤ 12 ∧ i = .int .i64 (k : Int) ∧ v = .slice A1 k c1 ∧ O.length = k ∧ (∀ x ∈ O, Vld x) ∧ wr.ownsRow w.heap.size 40 14 (.slice A1 k c1) k (flat Fc.cells O) ∧ Below w.heap.size w wr) (fun _ i _ => n - (intOf i).toNat)
  case atStart => exact ⟨0, 0, none, [], by omega, by omega, rfl, rfl, rfl, by simp, World.ownsRow_nil _ _ _ _, Below.refl _ _⟩
  case round =>
    obtain ⟨k, c1, A1, O, hk, hk12, rfl, rfl, hol, hov, hown, hb⟩ := hrel
    have hwsz := hb.size
    have HO := Lib.hid hol
    have HV := Lib.hid hov
    clear hol hov
    by_cases hlt : k < n
    · by_cases hlt2 : k < 12
      · have hkl : k < l.length := by rw [HL.out]; exact hlt
        obtain ⟨x, hx⟩ : ∃ x, l[k]? = some x := ⟨_, List.getElem?_eq_getElem hkl⟩
        obtain ⟨_, g, o2, rfl, hgb, f0⟩ := rf_cells (h.below hb) hx
        obtain ⟨p0, p1, p2, p3, p4, p5, p6, p7, p8, p9, p10, p11, p12⟩ := f0
        have hlo : (0 : Int) ≤ (k : Int) := by omega
        have hhi : (k : Int) < (n : Int) := by omega
        clear hx hkl
        go_wp2_with fail
        refine (make_any x _).mono ?_
        rintro e w1 ⟨y, rfl, hy, hb1⟩
        have hown1 := own_underF hown hb1
        have hbb := hb.trans (hb1.mono hwsz)
        have hzz := hbb.size
        have HY := Lib.hid hy
        clear hy hown hb1 p0 p1 p2 p3 p4 p5 p6 p7 p8 p9 p10 p11 p12
        unfold Fc.agg
        go_wp2_with (at_builtin; go_loud (refine wpList_append_rd (by rfl) (.tmp 15) (.tmp 21) 24 (by rfl) w.heap.size 40 i0 _ 14 112 Try.underlying24 hi0 hz0 hz1 hz2 rfl (by omega) (.slice A1 k c1) k (flat Fc.cells O) (by rfl) (hown1.alloc _) (w1.heap.size + 1) (some ⟨w1.heap.size, 0, none⟩) 1 1 y.cells (by rfl) (Rd.built (cs := y.cells.toArray) (heap_alloc_new w1 _) (by omega) rfl) (by intro u hu; simp only [Fc.cells, List.mem_cons, List.not_mem_nil, or_false] at hu; rcases hu with rfl | rfl | rfl | rfl | rfl | rfl | rfl | rfl | rfl | rfl | rfl | rfl | rfl | rfl <;> rfl) (by unfold maxLen; omega) (by omega) (by simp; omega) ?_); intro v4 w4 hown4 hg4 hat4)
        have hb4 := (hbb.alloc hzz (.cells y.cells.toArray 40)).grown hg4 (by simp; omega) (fun g e => (hown1.lt g e).1)
        obtain ⟨A4, c4, rfl, _, _, _⟩ := own_form hown4
        go_roundw
        case rel => exact ⟨k + 1, c4, A4, O ++ [y], by omega, by omega, by go_num, rfl, by rw [List.length_append, HO.out]; rfl, app_ok HV.out HY.out, by rw [flat_append, flat_one]; exact hown4, hb4⟩
        case measure => simp [intOf]; omega
      · obtain rfl : k = 12 := by omega
        have hd : ¬ ((12 : Nat) : Int) < 12 := by omega
        go_wp2_with fail
        go_ret
        exact ⟨A1, 12, c1, O, rfl, HO.out, by omega, HV.out, hown, hb⟩
    · go_wp2_with fail
      go_ret
      exact ⟨A1, k, c1, O, rfl, HO.out, by omega, HV.out, hown, hb⟩

set_option maxRecDepth 100000 in
set_option maxHeartbeats 8000000 in
theorem lives_any {A : Option Addr} {n c : Nat} {l : List Int} {w : World} (h : Rd w w.heap.size 1 A n (ints l)) (hn : n ≤ 9223372036854775807) :
    Calls Try.prog 4 #[.slice A n c] w (RetVs w 15) := by
  obtain ⟨i0, hi0, hz0, hz1, hz2⟩ := info_parts info_fact
  obtain ⟨dv, hdv⟩ : ∃ v, pkV l 17 = v := ⟨_, rfl⟩
  obtain ⟨dd, hdd⟩ : ∃ z, dv % 900 = z := ⟨_, rfl⟩
  have hddb : 0 ≤ dd ∧ dd < 900 := by omega
  have HDV := Lib.hid hdv
  have HDD := Lib.hid hdd
  clear hdv hdd
  go_enter Try.func4, Try.ntmps4
  go_wp2_with fail
  go_loopw [3, 4] (fun v i wr => ∃ (p : Int) (k c1 : Nat) (A1 : Option Addr) (O : List Fc), 1 ≤ p ∧ p ≤ 3 ∧ (k : Int) = 6 * (p - 1) ∧ i = .int .i64 p ∧ v = .slice A1 k c1 ∧ O.length = k ∧ (∀ x ∈ O, Vld x) ∧ wr.ownsRow w.heap.size 40 14 (.slice A1 k c1) k (flat Fc.cells O) ∧ Below w.heap.size w wr) (fun _ i _ => 3 - (intOf i).toNat)
  case atStart => exact ⟨1, 0, 0, none, [], by omega, by omega, by omega, rfl, rfl, rfl, by simp, World.ownsRow_nil _ _ _ _, Below.refl _ _⟩
  case round =>
    obtain ⟨p, k, c0, A0, O0, hp1, hp3, hkp, rfl, rfl, hol0, hov0, own0, hb0⟩ := hrel
    have hsz0 := hb0.size
    have HO0 := Lib.hid hol0
    have HV0 := Lib.hid hov0
    have hk12 : k ≤ 12 := by omega
    have HKP := Lib.hid hkp
    clear hol0 hov0 hkp
    have hA0 := own0
    obtain ⟨n0, hn0⟩ : ∃ n0, n0 = k := ⟨_, rfl⟩
    by_cases hp : p ≤ 2
    · have hn6 : k ≤ 6 := by have := HKP.out; omega
      clear hn0 n0
      go_wp2_with fail
      refine (pkd_any ((h.below hb0).mono hsz0) hn _).mono ?_
      rintro e q0 ⟨rfl, rfl⟩
      go_wp2_with fail
      refine (mod_any _ _ _ (by omega) (by omega)).mono ?_
      rintro e q500 ⟨rfl, rfl⟩
      generalize ha : (_ : Int) % (3 : Int) = a
      have hab : 0 ≤ a ∧ a < 3 := by omega
      clear ha
      go_wp2_with fail
      refine (pkd_any ((h.below hb0).mono hsz0) hn _).mono ?_
      rintro e q1 ⟨rfl, rfl⟩
      go_wp2_with fail
      refine (mod_any _ _ _ (by omega) (by omega)).mono ?_
      rintro e q501 ⟨rfl, rfl⟩
      generalize hb : (_ : Int) % (3 : Int) = b
      have hbb : 0 ≤ b ∧ b < 3 := by omega
      clear hb
      go_wp2_with fail
      refine (pkd_any ((h.below hb0).mono hsz0) hn _).mono ?_
      rintro e q2 ⟨rfl, rfl⟩
      go_wp2_with fail
      refine (mod_any _ _ _ (by omega) (by omega)).mono ?_
      rintro e q502 ⟨rfl, rfl⟩
      generalize hu : (_ : Int) % (6000 : Int) = u
      have hub : 0 ≤ u ∧ u < 6000 := by omega
      clear hu
      go_wp2_with fail
      refine (pkd_any ((h.below hb0).mono hsz0) hn _).mono ?_
      rintro e q3 ⟨rfl, rfl⟩
      go_wp2_with fail
      refine (mod_any _ _ _ (by omega) (by omega)).mono ?_
      rintro e q503 ⟨rfl, rfl⟩
      generalize ht : (_ : Int) % (3000 : Int) = t
      have htb : 0 ≤ t ∧ t < 3000 := by omega
      clear ht
      have HX1 : Hid (Vld ⟨a, 900 + p, 1, false, p, 11, 0, 13000 + t, 13000 + t + 1, 0, 0, 0, 0, 0⟩) := Lib.hid (vld_lit (by omega) (by omega) (by omega) (by omega) (by omega) (by omega) (.no rfl (by decide)) (.no rfl (by decide)) (.no rfl (by decide)) (.no rfl (by decide)) (.no rfl (by decide)) (.no rfl (by decide)) (fun h => absurd h (by decide)) (fun _ => by omega) (fun h => absurd h (by decide)))
      go_upto_region 9 with (at_builtin; go_loud (refine wpList_append_rd (by rfl) (.tmp 34) (.tmp 44) 24 (by rfl) w.heap.size 40 i0 _ 14 112 Try.underlying24 hi0 hz0 hz1 hz2 rfl (by omega) (.slice A0 (k) c0) (k) (flat Fc.cells O0) (by rfl) (own0.alloc _) (wr.heap.size + 1) (some ⟨wr.heap.size, 0, none⟩) 1 1 (Fc.cells ⟨a, 900 + p, 1, false, p, 11, 0, 13000 + t, 13000 + t + 1, 0, 0, 0, 0, 0⟩) (by rfl) (Rd.built (cs := (Fc.cells ⟨a, 900 + p, 1, false, p, 11, 0, 13000 + t, 13000 + t + 1, 0, 0, 0, 0, 0⟩).toArray) (heap_alloc_new wr _) (by omega) rfl) (by intro u hu; simp only [Fc.cells, List.mem_cons, List.not_mem_nil, or_false] at hu; rcases hu with rfl | rfl | rfl | rfl | rfl | rfl | rfl | rfl | rfl | rfl | rfl | rfl | rfl | rfl <;> rfl) (by unfold maxLen; omega) (by omega) (by simp; omega) ?_); intro v1 w1 hown hg hat)
      have hb1 := (hb0.alloc hsz0 (.cells (Fc.cells ⟨a, 900 + p, 1, false, p, 11, 0, 13000 + t, 13000 + t + 1, 0, 0, 0, 0, 0⟩).toArray 40)).grown hg (by simp; omega) (fun g e => (own0.lt g e).1)
      obtain ⟨A1, c1, rfl, _, _, _⟩ := own_form hown
      obtain ⟨O1, hO⟩ : ∃ O, O = O0 ++ [(⟨a, 900 + p, 1, false, p, 11, 0, 13000 + t, 13000 + t + 1, 0, 0, 0, 0, 0⟩ : Fc)] := ⟨_, rfl⟩
      have own1 : w1.ownsRow w.heap.size 40 14 (.slice A1 (k + 1) c1) (k + 1) (flat Fc.cells O1) := by rw [hO, flat_append, flat_one]; exact hown
      have HO1 : Hid (O1.length = k + 1) := Lib.hid (by rw [hO, List.length_append, HO0.out]; rfl)
      have HV1 : Hid (∀ x ∈ O1, Vld x) := Lib.hid (by rw [hO]; exact app_ok HV0.out HX1.out)
      have hsz1 := hb1.size
      clear hown hg hat hO own0 hb0 HO0 HV0 HX1
      have HX2 : Hid (Vld ⟨a, 910 + p, 1, false, p, 5, a, 20000, 60000, 0, 0, 0, 0, 0⟩) := Lib.hid (vld_lit (by omega) (by omega) (by omega) (by omega) (by omega) (by omega) (.yes (by omega) (by decide)) (.no rfl (by decide)) (.no rfl (by decide)) (.no rfl (by decide)) (.no rfl (by decide)) (.no rfl (by decide)) (fun h => absurd h (by decide)) (fun h => absurd h (by decide)) (fun h => absurd h (by decide)))
      go_upto_region 10 with (at_builtin; go_loud (refine wpList_append_rd (by rfl) (.tmp 46) (.tmp 54) 24 (by rfl) w.heap.size 40 i0 _ 14 112 Try.underlying24 hi0 hz0 hz1 hz2 rfl (by omega) (.slice A1 (k + 1) c1) (k + 1) (flat Fc.cells O1) (by rfl) (own1.alloc _) (w1.heap.size + 1) (some ⟨w1.heap.size, 0, none⟩) 1 1 (Fc.cells ⟨a, 910 + p, 1, false, p, 5, a, 20000, 60000, 0, 0, 0, 0, 0⟩) (by rfl) (Rd.built (cs := (Fc.cells ⟨a, 910 + p, 1, false, p, 5, a, 20000, 60000, 0, 0, 0, 0, 0⟩).toArray) (heap_alloc_new w1 _) (by omega) rfl) (by intro u hu; simp only [Fc.cells, List.mem_cons, List.not_mem_nil, or_false] at hu; rcases hu with rfl | rfl | rfl | rfl | rfl | rfl | rfl | rfl | rfl | rfl | rfl | rfl | rfl | rfl <;> rfl) (by unfold maxLen; omega) (by omega) (by simp; omega) ?_); intro v2 w2 hown hg hat)
      have hb2 := (hb1.alloc hsz1 (.cells (Fc.cells ⟨a, 910 + p, 1, false, p, 5, a, 20000, 60000, 0, 0, 0, 0, 0⟩).toArray 40)).grown hg (by simp; omega) (fun g e => (own1.lt g e).1)
      obtain ⟨A2, c2, rfl, _, _, _⟩ := own_form hown
      obtain ⟨O2, hO⟩ : ∃ O, O = O1 ++ [(⟨a, 910 + p, 1, false, p, 5, a, 20000, 60000, 0, 0, 0, 0, 0⟩ : Fc)] := ⟨_, rfl⟩
      have own2 : w2.ownsRow w.heap.size 40 14 (.slice A2 (k + 1 + 1) c2) (k + 1 + 1) (flat Fc.cells O2) := by rw [hO, flat_append, flat_one]; exact hown
      have HO2 : Hid (O2.length = k + 1 + 1) := Lib.hid (by rw [hO, List.length_append, HO1.out]; rfl)
      have HV2 : Hid (∀ x ∈ O2, Vld x) := Lib.hid (by rw [hO]; exact app_ok HV1.out HX2.out)
      have hsz2 := hb2.size
      clear hown hg hat hO own1 hb1 HO1 HV1 HX2
      go_wp2_with fail
      refine (pkd_any ((h.below hb2).mono hsz2) hn _).mono ?_
      rintro e q4 ⟨rfl, rfl⟩
      go_wp2_with fail
      refine (mod_any _ _ _ (by omega) (by omega)).mono ?_
      rintro e q504 ⟨rfl, rfl⟩
      generalize hm : (_ : Int) % (900000 : Int) = m
      have hmb : 0 ≤ m ∧ m < 900000 := by omega
      clear hm
      have HX3 : Hid (Vld ⟨a, 920 + p, 1, false, p, 1, a, 22000, 27000 + u, a, 100, 1 + a, 900000 + m, 0⟩) := Lib.hid (vld_lit (by omega) (by omega) (by omega) (by omega) (by omega) (by omega) (.yes (by omega) (by decide)) (.yes (by omega) (by decide)) (.yes (by omega) (by decide)) (.yes (by omega) (by decide)) (.yes (by omega) (by decide)) (.no rfl (by decide)) (fun h => absurd h (by decide)) (fun h => absurd h (by decide)) (fun h => absurd h (by decide)))
      go_upto_region 11 with (at_builtin; go_loud (refine wpList_append_rd (by rfl) (.tmp 56) (.tmp 74) 24 (by rfl) w.heap.size 40 i0 _ 14 112 Try.underlying24 hi0 hz0 hz1 hz2 rfl (by omega) (.slice A2 (k + 1 + 1) c2) (k + 1 + 1) (flat Fc.cells O2) (by rfl) (own2.alloc _) (w2.heap.size + 1) (some ⟨w2.heap.size, 0, none⟩) 1 1 (Fc.cells ⟨a, 920 + p, 1, false, p, 1, a, 22000, 27000 + u, a, 100, 1 + a, 900000 + m, 0⟩) (by rfl) (Rd.built (cs := (Fc.cells ⟨a, 920 + p, 1, false, p, 1, a, 22000, 27000 + u, a, 100, 1 + a, 900000 + m, 0⟩).toArray) (heap_alloc_new w2 _) (by omega) rfl) (by intro u hu; simp only [Fc.cells, List.mem_cons, List.not_mem_nil, or_false] at hu; rcases hu with rfl | rfl | rfl | rfl | rfl | rfl | rfl | rfl | rfl | rfl | rfl | rfl | rfl | rfl <;> rfl) (by unfold maxLen; omega) (by omega) (by simp; omega) ?_); intro v3 w3 hown hg hat)
      have hb3 := (hb2.alloc hsz2 (.cells (Fc.cells ⟨a, 920 + p, 1, false, p, 1, a, 22000, 27000 + u, a, 100, 1 + a, 900000 + m, 0⟩).toArray 40)).grown hg (by simp; omega) (fun g e => (own2.lt g e).1)
      obtain ⟨A3, c3, rfl, _, _, _⟩ := own_form hown
      obtain ⟨O3, hO⟩ : ∃ O, O = O2 ++ [(⟨a, 920 + p, 1, false, p, 1, a, 22000, 27000 + u, a, 100, 1 + a, 900000 + m, 0⟩ : Fc)] := ⟨_, rfl⟩
      have own3 : w3.ownsRow w.heap.size 40 14 (.slice A3 (k + 1 + 1 + 1) c3) (k + 1 + 1 + 1) (flat Fc.cells O3) := by rw [hO, flat_append, flat_one]; exact hown
      have HO3 : Hid (O3.length = k + 1 + 1 + 1) := Lib.hid (by rw [hO, List.length_append, HO2.out]; rfl)
      have HV3 : Hid (∀ x ∈ O3, Vld x) := Lib.hid (by rw [hO]; exact app_ok HV2.out HX3.out)
      have hsz3 := hb3.size
      clear hown hg hat hO own2 hb2 HO2 HV2 HX3
      go_wp2_with fail
      refine (pkd_any ((h.below hb3).mono hsz3) hn _).mono ?_
      rintro e q5 ⟨rfl, rfl⟩
      go_wp2_with fail
      refine (mod_any _ _ _ (by omega) (by omega)).mono ?_
      rintro e q505 ⟨rfl, rfl⟩
      generalize hr : (_ : Int) % (3000 : Int) = r
      have hrb : 0 ≤ r ∧ r < 3000 := by omega
      clear hr
      go_wp2_with fail
      refine (pkd_any ((h.below hb3).mono hsz3) hn _).mono ?_
      rintro e q6 ⟨rfl, rfl⟩
      go_wp2_with fail
      refine (mod_any _ _ _ (by omega) (by omega)).mono ?_
      rintro e q506 ⟨rfl, rfl⟩
      generalize hs : (_ : Int) % (900000 : Int) = s
      have hsb : 0 ≤ s ∧ s < 900000 := by omega
      clear hs
      have HX4 : Hid (Vld ⟨b, 930 + p, 1, false, p, 1, b, 27000 + u, 34400 + r, b, 50, 1 + b, 700000 + s, 0⟩) := Lib.hid (vld_lit (by omega) (by omega) (by omega) (by omega) (by omega) (by omega) (.yes (by omega) (by decide)) (.yes (by omega) (by decide)) (.yes (by omega) (by decide)) (.yes (by omega) (by decide)) (.yes (by omega) (by decide)) (.no rfl (by decide)) (fun h => absurd h (by decide)) (fun h => absurd h (by decide)) (fun h => absurd h (by decide)))
      go_upto_region 12 with (at_builtin; go_loud (refine wpList_append_rd (by rfl) (.tmp 76) (.tmp 100) 24 (by rfl) w.heap.size 40 i0 _ 14 112 Try.underlying24 hi0 hz0 hz1 hz2 rfl (by omega) (.slice A3 (k + 1 + 1 + 1) c3) (k + 1 + 1 + 1) (flat Fc.cells O3) (by rfl) (own3.alloc _) (w3.heap.size + 1) (some ⟨w3.heap.size, 0, none⟩) 1 1 (Fc.cells ⟨b, 930 + p, 1, false, p, 1, b, 27000 + u, 34400 + r, b, 50, 1 + b, 700000 + s, 0⟩) (by rfl) (Rd.built (cs := (Fc.cells ⟨b, 930 + p, 1, false, p, 1, b, 27000 + u, 34400 + r, b, 50, 1 + b, 700000 + s, 0⟩).toArray) (heap_alloc_new w3 _) (by omega) rfl) (by intro u hu; simp only [Fc.cells, List.mem_cons, List.not_mem_nil, or_false] at hu; rcases hu with rfl | rfl | rfl | rfl | rfl | rfl | rfl | rfl | rfl | rfl | rfl | rfl | rfl | rfl <;> rfl) (by unfold maxLen; omega) (by omega) (by simp; omega) ?_); intro v4 w4 hown hg hat)
      have hb4 := (hb3.alloc hsz3 (.cells (Fc.cells ⟨b, 930 + p, 1, false, p, 1, b, 27000 + u, 34400 + r, b, 50, 1 + b, 700000 + s, 0⟩).toArray 40)).grown hg (by simp; omega) (fun g e => (own3.lt g e).1)
      obtain ⟨A4, c4, rfl, _, _, _⟩ := own_form hown
      obtain ⟨O4, hO⟩ : ∃ O, O = O3 ++ [(⟨b, 930 + p, 1, false, p, 1, b, 27000 + u, 34400 + r, b, 50, 1 + b, 700000 + s, 0⟩ : Fc)] := ⟨_, rfl⟩
      have own4 : w4.ownsRow w.heap.size 40 14 (.slice A4 (k + 1 + 1 + 1 + 1) c4) (k + 1 + 1 + 1 + 1) (flat Fc.cells O4) := by rw [hO, flat_append, flat_one]; exact hown
      have HO4 : Hid (O4.length = k + 1 + 1 + 1 + 1) := Lib.hid (by rw [hO, List.length_append, HO3.out]; rfl)
      have HV4 : Hid (∀ x ∈ O4, Vld x) := Lib.hid (by rw [hO]; exact app_ok HV3.out HX4.out)
      have hsz4 := hb4.size
      clear hown hg hat hO own3 hb3 HO3 HV3 HX4
      have HX5 : Hid (Vld ⟨a, 940 + p, 1, false, p, 10, a, 32000, 38500, 0, 0, 0, 0, 3⟩) := Lib.hid (vld_lit (by omega) (by omega) (by omega) (by omega) (by omega) (by omega) (.yes (by omega) (by decide)) (.no rfl (by decide)) (.no rfl (by decide)) (.no rfl (by decide)) (.no rfl (by decide)) (.yes (by omega) (by decide)) (fun h => absurd h (by decide)) (fun h => absurd h (by decide)) (fun _ => by omega))
      go_upto_region 13 with (at_builtin; go_loud (refine wpList_append_rd (by rfl) (.tmp 102) (.tmp 110) 24 (by rfl) w.heap.size 40 i0 _ 14 112 Try.underlying24 hi0 hz0 hz1 hz2 rfl (by omega) (.slice A4 (k + 1 + 1 + 1 + 1) c4) (k + 1 + 1 + 1 + 1) (flat Fc.cells O4) (by rfl) (own4.alloc _) (w4.heap.size + 1) (some ⟨w4.heap.size, 0, none⟩) 1 1 (Fc.cells ⟨a, 940 + p, 1, false, p, 10, a, 32000, 38500, 0, 0, 0, 0, 3⟩) (by rfl) (Rd.built (cs := (Fc.cells ⟨a, 940 + p, 1, false, p, 10, a, 32000, 38500, 0, 0, 0, 0, 3⟩).toArray) (heap_alloc_new w4 _) (by omega) rfl) (by intro u hu; simp only [Fc.cells, List.mem_cons, List.not_mem_nil, or_false] at hu; rcases hu with rfl | rfl | rfl | rfl | rfl | rfl | rfl | rfl | rfl | rfl | rfl | rfl | rfl | rfl <;> rfl) (by unfold maxLen; omega) (by omega) (by simp; omega) ?_); intro v5 w5 hown hg hat)
      have hb5 := (hb4.alloc hsz4 (.cells (Fc.cells ⟨a, 940 + p, 1, false, p, 10, a, 32000, 38500, 0, 0, 0, 0, 3⟩).toArray 40)).grown hg (by simp; omega) (fun g e => (own4.lt g e).1)
      obtain ⟨A5, c5, rfl, _, _, _⟩ := own_form hown
      obtain ⟨O5, hO⟩ : ∃ O, O = O4 ++ [(⟨a, 940 + p, 1, false, p, 10, a, 32000, 38500, 0, 0, 0, 0, 3⟩ : Fc)] := ⟨_, rfl⟩
      have own5 : w5.ownsRow w.heap.size 40 14 (.slice A5 (k + 1 + 1 + 1 + 1 + 1) c5) (k + 1 + 1 + 1 + 1 + 1) (flat Fc.cells O5) := by rw [hO, flat_append, flat_one]; exact hown
      have HO5 : Hid (O5.length = k + 1 + 1 + 1 + 1 + 1) := Lib.hid (by rw [hO, List.length_append, HO4.out]; rfl)
      have HV5 : Hid (∀ x ∈ O5, Vld x) := Lib.hid (by rw [hO]; exact app_ok HV4.out HX5.out)
      have hsz5 := hb5.size
      clear hown hg hat hO own4 hb4 HO4 HV4 HX5
      have HX6 : Hid (Vld ⟨a, 950 + p, 1, false, p, 14, 0, 26000, 50000, 0, 0, 0, 0, 3 - p⟩) := Lib.hid (vld_lit (by omega) (by omega) (by omega) (by omega) (by omega) (by omega) (.no rfl (by decide)) (.no rfl (by decide)) (.no rfl (by decide)) (.no rfl (by decide)) (.no rfl (by decide)) (.yes (by omega) (by decide)) (fun h => absurd h (by decide)) (fun h => absurd h (by decide)) (fun _ => by omega))
      go_wp2_with (at_builtin; go_loud (refine wpList_append_rd (by rfl) (.tmp 112) (.tmp 121) 24 (by rfl) w.heap.size 40 i0 _ 14 112 Try.underlying24 hi0 hz0 hz1 hz2 rfl (by omega) (.slice A5 (k + 1 + 1 + 1 + 1 + 1) c5) (k + 1 + 1 + 1 + 1 + 1) (flat Fc.cells O5) (by rfl) (own5.alloc _) (w5.heap.size + 1) (some ⟨w5.heap.size, 0, none⟩) 1 1 (Fc.cells ⟨a, 950 + p, 1, false, p, 14, 0, 26000, 50000, 0, 0, 0, 0, 3 - p⟩) (by rfl) (Rd.built (cs := (Fc.cells ⟨a, 950 + p, 1, false, p, 14, 0, 26000, 50000, 0, 0, 0, 0, 3 - p⟩).toArray) (heap_alloc_new w5 _) (by omega) rfl) (by intro u hu; simp only [Fc.cells, List.mem_cons, List.not_mem_nil, or_false] at hu; rcases hu with rfl | rfl | rfl | rfl | rfl | rfl | rfl | rfl | rfl | rfl | rfl | rfl | rfl | rfl <;> rfl) (by unfold maxLen; omega) (by omega) (by simp; omega) ?_); intro v6 w6 hown hg hat)
      have hb6 := (hb5.alloc hsz5 (.cells (Fc.cells ⟨a, 950 + p, 1, false, p, 14, 0, 26000, 50000, 0, 0, 0, 0, 3 - p⟩).toArray 40)).grown hg (by simp; omega) (fun g e => (own5.lt g e).1)
      obtain ⟨A6, c6, rfl, _, _, _⟩ := own_form hown
      obtain ⟨O6, hO⟩ : ∃ O, O = O5 ++ [(⟨a, 950 + p, 1, false, p, 14, 0, 26000, 50000, 0, 0, 0, 0, 3 - p⟩ : Fc)] := ⟨_, rfl⟩
      have own6 : w6.ownsRow w.heap.size 40 14 (.slice A6 (k + 1 + 1 + 1 + 1 + 1 + 1) c6) (k + 1 + 1 + 1 + 1 + 1 + 1) (flat Fc.cells O6) := by rw [hO, flat_append, flat_one]; exact hown
      have HO6 : Hid (O6.length = k + 1 + 1 + 1 + 1 + 1 + 1) := Lib.hid (by rw [hO, List.length_append, HO5.out]; rfl)
      have HV6 : Hid (∀ x ∈ O6, Vld x) := Lib.hid (by rw [hO]; exact app_ok HV5.out HX6.out)
      have hsz6 := hb6.size
      clear hown hg hat hO own5 hb5 HO5 HV5 HX6
      go_wp2_with fail
      go_roundw
      case rel => exact ⟨p + 1, k + 1 + 1 + 1 + 1 + 1 + 1, c6, A6, O6, by omega, by omega, by have := HKP.out; omega, rfl, rfl, HO6.out, HV6.out, own6, hb6⟩
      case measure => simp [intOf]; omega
    · obtain rfl : p = 3 := by omega
      have hk12e : k = 12 := by have := HKP.out; omega
      subst hk12e
      have hd : ¬ (3 : Int) ≤ 2 := by omega
      clear hp hn0
      go_wp2_with fail
      refine (pkd_any ((h.below hb0).mono hsz0) hn _).mono ?_
      rintro e q7 ⟨rfl, rfl⟩
      go_wp2_with fail
      refine (mod_any _ _ _ (by omega) (by omega)).mono ?_
      rintro e q507 ⟨rfl, rfl⟩
      generalize hx : (_ : Int) % (2000 : Int) = x
      have hxb : 0 ≤ x ∧ x < 2000 := by omega
      clear hx
      go_wp2_with fail
      refine (pkd_any ((h.below hb0).mono hsz0) hn _).mono ?_
      rintro e q8 ⟨rfl, rfl⟩
      go_wp2_with fail
      refine (mod_any _ _ _ (by omega) (by omega)).mono ?_
      rintro e q508 ⟨rfl, rfl⟩
      generalize hy : (_ : Int) % (2000 : Int) = y
      have hyb : 0 ≤ y ∧ y < 2000 := by omega
      clear hy
      have HX1 : Hid (Vld ⟨0, 961, 1, false, 1, 13, 0, 34000 + x, 36500 + y, 0, 0, 0, 0, 0⟩) := Lib.hid (vld_lit (by omega) (by omega) (by omega) (by omega) (by omega) (by omega) (.no rfl (by decide)) (.no rfl (by decide)) (.no rfl (by decide)) (.no rfl (by decide)) (.no rfl (by decide)) (.no rfl (by decide)) (fun h => absurd h (by decide)) (fun h => absurd h (by decide)) (fun h => absurd h (by decide)))
      go_upto_region 15 with (at_builtin; go_loud (refine wpList_append_rd (by rfl) (.tmp 123) (.tmp 134) 24 (by rfl) w.heap.size 40 i0 _ 14 112 Try.underlying24 hi0 hz0 hz1 hz2 rfl (by omega) (.slice A0 (12) c0) (12) (flat Fc.cells O0) (by rfl) (own0.alloc _) (wr.heap.size + 1) (some ⟨wr.heap.size, 0, none⟩) 1 1 (Fc.cells ⟨0, 961, 1, false, 1, 13, 0, 34000 + x, 36500 + y, 0, 0, 0, 0, 0⟩) (by rfl) (Rd.built (cs := (Fc.cells ⟨0, 961, 1, false, 1, 13, 0, 34000 + x, 36500 + y, 0, 0, 0, 0, 0⟩).toArray) (heap_alloc_new wr _) (by omega) rfl) (by intro u hu; simp only [Fc.cells, List.mem_cons, List.not_mem_nil, or_false] at hu; rcases hu with rfl | rfl | rfl | rfl | rfl | rfl | rfl | rfl | rfl | rfl | rfl | rfl | rfl | rfl <;> rfl) (by unfold maxLen; omega) (by omega) (by simp; omega) ?_); intro v1 w1 hown hg hat)
      have hb1 := (hb0.alloc hsz0 (.cells (Fc.cells ⟨0, 961, 1, false, 1, 13, 0, 34000 + x, 36500 + y, 0, 0, 0, 0, 0⟩).toArray 40)).grown hg (by simp; omega) (fun g e => (own0.lt g e).1)
      obtain ⟨A1, c1, rfl, _, _, _⟩ := own_form hown
      obtain ⟨O1, hO⟩ : ∃ O, O = O0 ++ [(⟨0, 961, 1, false, 1, 13, 0, 34000 + x, 36500 + y, 0, 0, 0, 0, 0⟩ : Fc)] := ⟨_, rfl⟩
      have own1 : w1.ownsRow w.heap.size 40 14 (.slice A1 (12 + 1) c1) (12 + 1) (flat Fc.cells O1) := by rw [hO, flat_append, flat_one]; exact hown
      have HO1 : Hid (O1.length = 12 + 1) := Lib.hid (by rw [hO, List.length_append, HO0.out]; rfl)
      have HV1 : Hid (∀ x ∈ O1, Vld x) := Lib.hid (by rw [hO]; exact app_ok HV0.out HX1.out)
      have hsz1 := hb1.size
      clear hown hg hat hO own0 hb0 HO0 HV0 HX1
      go_wp2_with fail
      refine (pk_to ((h.below hb1).mono hsz1) hn HDV.out).mono ?_
      rintro e z0 ⟨rfl, rfl⟩
      go_wp2_with fail
      refine (mod_to (by omega) (by omega) HDD.out _).mono ?_
      rintro e z1 ⟨rfl, rfl⟩
      go_wp2_with fail
      refine (pk_to ((h.below hb1).mono hsz1) hn HDV.out).mono ?_
      rintro e z2 ⟨rfl, rfl⟩
      go_wp2_with fail
      refine (mod_to (by omega) (by omega) HDD.out _).mono ?_
      rintro e z3 ⟨rfl, rfl⟩
      have HX2 : Hid (Vld ⟨1, 962, 1, false, 2, 12, 0, 35600 + dd, 35601 + dd, 0, 0, 0, 0, 0⟩) := Lib.hid (vld_lit (by omega) (by omega) (by omega) (by omega) (by omega) (by omega) (.no rfl (by decide)) (.no rfl (by decide)) (.no rfl (by decide)) (.no rfl (by decide)) (.no rfl (by decide)) (.no rfl (by decide)) (fun h => absurd h (by decide)) (fun _ => by omega) (fun h => absurd h (by decide)))
      go_upto_region 16 with (at_builtin; go_loud (refine wpList_append_rd (by rfl) (.tmp 136) (.tmp 147) 24 (by rfl) w.heap.size 40 i0 _ 14 112 Try.underlying24 hi0 hz0 hz1 hz2 rfl (by omega) (.slice A1 (12 + 1) c1) (12 + 1) (flat Fc.cells O1) (by rfl) (own1.alloc _) (w1.heap.size + 1) (some ⟨w1.heap.size, 0, none⟩) 1 1 (Fc.cells ⟨1, 962, 1, false, 2, 12, 0, 35600 + dd, 35601 + dd, 0, 0, 0, 0, 0⟩) (by rfl) (Rd.built (cs := (Fc.cells ⟨1, 962, 1, false, 2, 12, 0, 35600 + dd, 35601 + dd, 0, 0, 0, 0, 0⟩).toArray) (heap_alloc_new w1 _) (by omega) rfl) (by intro u hu; simp only [Fc.cells, List.mem_cons, List.not_mem_nil, or_false] at hu; rcases hu with rfl | rfl | rfl | rfl | rfl | rfl | rfl | rfl | rfl | rfl | rfl | rfl | rfl | rfl <;> rfl) (by unfold maxLen; omega) (by omega) (by simp; omega) ?_); intro v2 w2 hown hg hat)
      have hb2 := (hb1.alloc hsz1 (.cells (Fc.cells ⟨1, 962, 1, false, 2, 12, 0, 35600 + dd, 35601 + dd, 0, 0, 0, 0, 0⟩).toArray 40)).grown hg (by simp; omega) (fun g e => (own1.lt g e).1)
      obtain ⟨A2, c2, rfl, _, _, _⟩ := own_form hown
      obtain ⟨O2, hO⟩ : ∃ O, O = O1 ++ [(⟨1, 962, 1, false, 2, 12, 0, 35600 + dd, 35601 + dd, 0, 0, 0, 0, 0⟩ : Fc)] := ⟨_, rfl⟩
      have own2 : w2.ownsRow w.heap.size 40 14 (.slice A2 (12 + 1 + 1) c2) (12 + 1 + 1) (flat Fc.cells O2) := by rw [hO, flat_append, flat_one]; exact hown
      have HO2 : Hid (O2.length = 12 + 1 + 1) := Lib.hid (by rw [hO, List.length_append, HO1.out]; rfl)
      have HV2 : Hid (∀ x ∈ O2, Vld x) := Lib.hid (by rw [hO]; exact app_ok HV1.out HX2.out)
      have hsz2 := hb2.size
      clear hown hg hat hO own1 hb1 HO1 HV1 HX2
      go_wp2_with fail
      refine (pkd_any ((h.below hb2).mono hsz2) hn _).mono ?_
      rintro e q9 ⟨rfl, rfl⟩
      go_wp2_with fail
      refine (mod_any _ _ _ (by omega) (by omega)).mono ?_
      rintro e q509 ⟨rfl, rfl⟩
      generalize hz : (_ : Int) % (1200 : Int) = z
      have hzb : 0 ≤ z ∧ z < 1200 := by omega
      clear hz
      go_wp2_with fail
      refine (pkd_any ((h.below hb2).mono hsz2) hn _).mono ?_
      rintro e q10 ⟨rfl, rfl⟩
      go_wp2_with fail
      refine (mod_any _ _ _ (by omega) (by omega)).mono ?_
      rintro e q510 ⟨rfl, rfl⟩
      generalize hv : (_ : Int) % (300 : Int) = v
      have hvb : 0 ≤ v ∧ v < 300 := by omega
      clear hv
      have HX3 : Hid (Vld ⟨0, 963, 1, false, 1, 8, 0, 35000 + z, 36250 + v, 0, 0, 0, 0, 0⟩) := Lib.hid (vld_lit (by omega) (by omega) (by omega) (by omega) (by omega) (by omega) (.yes (by omega) (by decide)) (.no rfl (by decide)) (.no rfl (by decide)) (.no rfl (by decide)) (.no rfl (by decide)) (.no rfl (by decide)) (fun h => absurd h (by decide)) (fun h => absurd h (by decide)) (fun h => absurd h (by decide)))
      go_upto_region 17 with (at_builtin; go_loud (refine wpList_append_rd (by rfl) (.tmp 149) (.tmp 160) 24 (by rfl) w.heap.size 40 i0 _ 14 112 Try.underlying24 hi0 hz0 hz1 hz2 rfl (by omega) (.slice A2 (12 + 1 + 1) c2) (12 + 1 + 1) (flat Fc.cells O2) (by rfl) (own2.alloc _) (w2.heap.size + 1) (some ⟨w2.heap.size, 0, none⟩) 1 1 (Fc.cells ⟨0, 963, 1, false, 1, 8, 0, 35000 + z, 36250 + v, 0, 0, 0, 0, 0⟩) (by rfl) (Rd.built (cs := (Fc.cells ⟨0, 963, 1, false, 1, 8, 0, 35000 + z, 36250 + v, 0, 0, 0, 0, 0⟩).toArray) (heap_alloc_new w2 _) (by omega) rfl) (by intro u hu; simp only [Fc.cells, List.mem_cons, List.not_mem_nil, or_false] at hu; rcases hu with rfl | rfl | rfl | rfl | rfl | rfl | rfl | rfl | rfl | rfl | rfl | rfl | rfl | rfl <;> rfl) (by unfold maxLen; omega) (by omega) (by simp; omega) ?_); intro v3 w3 hown hg hat)
      have hb3 := (hb2.alloc hsz2 (.cells (Fc.cells ⟨0, 963, 1, false, 1, 8, 0, 35000 + z, 36250 + v, 0, 0, 0, 0, 0⟩).toArray 40)).grown hg (by simp; omega) (fun g e => (own2.lt g e).1)
      obtain ⟨A3, c3, rfl, _, _, _⟩ := own_form hown
      obtain ⟨O3, hO⟩ : ∃ O, O = O2 ++ [(⟨0, 963, 1, false, 1, 8, 0, 35000 + z, 36250 + v, 0, 0, 0, 0, 0⟩ : Fc)] := ⟨_, rfl⟩
      have own3 : w3.ownsRow w.heap.size 40 14 (.slice A3 (12 + 1 + 1 + 1) c3) (12 + 1 + 1 + 1) (flat Fc.cells O3) := by rw [hO, flat_append, flat_one]; exact hown
      have HO3 : Hid (O3.length = 12 + 1 + 1 + 1) := Lib.hid (by rw [hO, List.length_append, HO2.out]; rfl)
      have HV3 : Hid (∀ x ∈ O3, Vld x) := Lib.hid (by rw [hO]; exact app_ok HV2.out HX3.out)
      have hsz3 := hb3.size
      clear hown hg hat hO own2 hb2 HO2 HV2 HX3
      go_wp2_with fail
      go_ret
      exact ⟨A3, 12 + 1 + 1 + 1, c3, O3, rfl, HO3.out, by omega, HV3.out, own3, hb3⟩
end Go.Proofs.Ytbogmkhoppffgaa
