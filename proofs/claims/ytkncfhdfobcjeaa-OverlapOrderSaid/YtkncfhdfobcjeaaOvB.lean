/- The board: the claimed days by state and rank; the latest day before and the earliest behind. -/
import Derived.Test.YtkncfhdfobcjeaaOvA
import Derived.Test.YtkncfhdfobcjeaaSpPcA
import Derived.Test.YtkncfhdfobcjeaaSpClipP
import Derived.Test.YtkncfhdfobcjeaaSpLast
import Derived.Test.YtkncfhdfobcjeaaSpChain
namespace Go.Proofs.Ytkncfhdfobcjeaa
open Go.RowKit

theorem norm_last : ∀ {L : List Sp} {lo : Int} {q : Sp}, NormFrom lo (L ++ [q]) → lo < q.f ∧ q.f < q.t ∧ ∀ s ∈ L, s.t < q.f
  | [], _, q, ⟨h1, h2, _, _⟩ => ⟨h1, h2, by simp⟩
  | s :: L, lo, q, ⟨h1, h2, h3, h4⟩ => by
    obtain ⟨k1, k2, k3⟩ := norm_last (L := L) h4
    refine ⟨by omega, k2, fun p hp => ?_⟩
    rcases List.mem_cons.1 hp with rfl | hp
    · exact k1
    · exact k3 p hp
theorem last_prev {S T : Int → Bool} {d : Int} (h : ∀ x, (isD x && S x) = (T x && decide (0 ≤ x ∧ x < d))) : (lastV (nf S) = (0, false) ∧ prevD T d = -1) ∨ ∃ p, lastV (nf S) = (p, true) ∧ prevD T d = p ∧ 0 ≤ p ∧ p < d := by
  have hn := nf_norm S
  have hc := nf_cov S
  rcases List.eq_nil_or_concat (nf S) with e | ⟨L, q, e⟩
  · left
    rw [e] at hc ⊢
    refine ⟨rfl, isPrev_eq (prevD_spec T d) (.inl ⟨rfl, fun x h0 hd => ?_⟩)⟩
    have h1 := hc x
    rw [cov_nil, h x] at h1
    have h2 : decide (0 ≤ x ∧ x < d) = true := decide_eq_true ⟨h0, hd⟩
    rw [h2, Bool.and_true] at h1
    exact h1.symm
  · right
    rw [List.concat_eq_append] at e
    rw [e] at hn hc ⊢
    obtain ⟨k1, k2, k3⟩ := norm_last hn
    have hq : cov (L ++ [q]) (q.t - 1) = true := (cov_iff _ _).2 ⟨q, by simp, by omega, by omega⟩
    rw [hc, h] at hq
    simp only [Bool.and_eq_true, decide_eq_true_eq] at hq
    refine ⟨q.t - 1, by unfold lastV; simp, isPrev_eq (prevD_spec T d) (.inr ⟨hq.2.1, hq.2.2, hq.1, fun x h0 hd => ?_⟩), hq.2.1, hq.2.2⟩
    rw [Bool.eq_false_iff]
    intro hT
    have h2 : cov (L ++ [q]) x = true := by
      rw [hc, h, hT, Bool.true_and]
      exact decide_eq_true ⟨by omega, hd⟩
    obtain ⟨s, hs, h3, h4⟩ := (cov_iff _ _).1 h2
    rcases List.mem_append.1 hs with hs | hs
    · have := k3 s hs; omega
    · rw [List.mem_singleton.1 hs] at h4; omega
theorem first_foll {S T : Int → Bool} {d : Int} (h : ∀ x, (isD x && S x) = (T x && decide (d < x ∧ x < 73049))) : (nthV (nf S) 0 = (0, false) ∧ follD T d = 73049) ∨ ∃ p, nthV (nf S) 0 = (p, true) ∧ follD T d = p := by
  have hn := nf_norm S
  have hc := nf_cov S
  cases e : nf S with
  | nil =>
    left
    rw [e] at hc
    refine ⟨rfl, isFoll_eq (follD_spec T d) (.inl ⟨rfl, fun x h0 hd => ?_⟩)⟩
    have h1 := hc x
    rw [cov_nil, h x] at h1
    have h2 : decide (d < x ∧ x < 73049) = true := decide_eq_true ⟨h0, hd⟩
    rw [h2, Bool.and_true] at h1
    exact h1.symm
  | cons s r =>
    right
    rw [e] at hn hc
    obtain ⟨k1, k2, k3, k4⟩ := hn
    have hq : cov (s :: r) s.f = true := (cov_iff _ _).2 ⟨s, by simp, by omega, by omega⟩
    rw [hc, h] at hq
    simp only [Bool.and_eq_true, decide_eq_true_eq] at hq
    refine ⟨s.f, ?_, isFoll_eq (follD_spec T d) (.inr ⟨hq.2.1, hq.2.2, hq.1, fun x h0 hd => ?_⟩)⟩
    · show nthL (s :: r) 0 = _
      unfold nthL
      rw [if_pos (by omega), Int.add_zero]
    · rw [Bool.eq_false_iff]
      intro hT
      have h2 : cov (s :: r) x = true := by
        rw [hc, h, hT, Bool.true_and]
        exact decide_eq_true ⟨h0, by omega⟩
      rw [cov_cons, cov_low k4 (by omega), Bool.or_false, inS_iff] at h2
      omega

/-! The board. -/
def bdO (C : List Pr) : List (List Sp) := (List.range 42).map fun m => ofL C ((m / 7 : Nat) : Int) (((m % 7 : Nat) : Int) + 1)
theorem bdO_bdL (C : List Pr) : (bdO C).map (fun l => nf (dset l)) = bdL C := rfl
theorem bdO_len (C : List Pr) : (bdO C).length = 42 := by unfold bdO; simp
theorem bdO_at (C : List Pr) {i j : Nat} (hi : i < 6) (hj : j < 7) : (bdO C)[i * 7 + j]? = some (ofL C (i : Int) ((j : Int) + 1)) := by
  unfold bdO
  rw [List.getElem?_map, List.getElem?_range (by omega), Option.map_some, show (i * 7 + j) / 7 = i by omega, show (i * 7 + j) % 7 = j by omega]
/-- The board lies in block g. -/
def Bd (w : World) (base g : Nat) (C : List Pr) : Prop := ∃ vs : List Value, w.heap[g]? = some (.cells vs.toArray 80 (0, 0)) ∧ vs.length = 42 ∧ Nls w base 42 vs (bdO C)
theorem Bd.under {w w' : World} {base g : Nat} {C : List Pr} (h : Bd w base g C) (hb : Below w.heap.size w w') : Bd w' base g C := by
  obtain ⟨vs, h1, h2, h3⟩ := h
  exact ⟨vs, (hb.block g (Array.getElem?_eq_some_iff.1 h1).1).trans h1, h2, h3.under hb⟩
theorem Bd.lt {w : World} {base g : Nat} {C : List Pr} (h : Bd w base g C) : g < w.heap.size := by
  obtain ⟨vs, h1, _⟩ := h
  exact (Array.getElem?_eq_some_iff.1 h1).1
theorem Bd.at {w : World} {base g : Nat} {C : List Pr} (h : Bd w base g C) {i j : Nat} (hi : i < 6) (hj : j < 7) :
    ∃ A N c l, w.cell? ⟨g, i * 7 + j, none⟩ = some (.slice A N c) ∧ Ds w A N l ∧ N ≤ 2 * C.length ∧ ∀ x, dset l x = Dd C (i : Int) ((j : Int) + 1) x := by
  obtain ⟨vs, h1, h2, h3⟩ := h
  obtain ⟨v, hv⟩ : ∃ v, vs[i * 7 + j]? = some v := ⟨_, List.getElem?_eq_getElem (by omega)⟩
  obtain ⟨A, c, rfl, ho⟩ := h3 (i * 7 + j) v _ (by omega) hv (bdO_at C hi hj)
  refine ⟨A, _, c, _, ?_, Ds.ofOwn ho rfl, ?_, fun x => dd_nf C _ _ x⟩
  · rw [cell_of_row w g (i * 7 + j) _ _ _ h1]
    simpa using hv
  · exact Nat.le_trans (nf_length_le rfl) (Nat.mul_le_mul_left 2 (ofL_length C _ _))

set_option maxHeartbeats 2000000 in
theorem previous_any {w : World} {base g : Nat} {C : List Pr} (i : Nat) (d : Int) (h : Bd w base g C) (hi : i < 6) (hC : C.length ≤ 100) (_ : 0 ≤ d) (_ : d ≤ 73049) :
    Calls Try.prog 97 #[.pointer (some ⟨g, 0, none⟩), .int .i64 (i : Int), .int .i64 d] w fun e w' => e = .returned (.int .i64 (prevD (Dd C (i : Int) 1) d)) ∧ Below w.heap.size w w' := by
  obtain ⟨A, N, c, l, hc, hds, hN, hD⟩ := h.at hi (show 0 < 7 by omega)
  have hN2 : N ≤ 200 := by omega
  have hi6 : (i : Int) < 6 := by omega
  have hi0 : (0 : Int) ≤ (i : Int) := by omega
  have key := last_prev (S := fun x => dset (nf fun x => dset l x && dset [⟨0, d⟩] x) x) (T := Dd C (i : Int) 1) (d := d) fun x => by
    rw [dset_isD, dset_nf, hD]
    have e1 : dset [⟨0, d⟩] x = (isD x && decide (0 ≤ x ∧ x < d)) := by
      unfold dset
      rw [cov_cons, cov_nil, Bool.or_false]
      congr 1
      rw [Bool.eq_iff_iff, inS_iff]
      simp
    rw [e1]
    have e2 : (((0 : Nat) : Int) + 1) = 1 := rfl
    rw [e2]
    cases hx : isD x with
    | true => simp
    | false =>
      have : Dd C (i : Int) 1 x = false := by
        unfold Dd
        exact dset_off hx
      rw [this]
      rfl
  have hlen := nfc_len (la := l) (lb := [⟨0, d⟩]) (m := 1) (fun x y => x && y) rfl hds.2 rfl
  have hl2 : (nf fun x => dset l x && dset [⟨0, d⟩] x).length ≤ 1000 := by omega
  have HK := Lib.hid key
  have HD := Lib.hid hD
  clear key hlen hN hD h
  rw [Nat.add_zero] at hc
  go_enter Try.func97, Try.ntmps97
  go_wp2_with fail
  refine (clip_any 0 d hds (by omega)).mono ?_
  rintro e w1 ⟨A1, c1, rfl, hown1, hb1⟩
  have hd1 := Ds.ofOwn hown1 rfl
  clear hown1
  generalize hm : nf (fun x => dset l x && dset [⟨0, d⟩] x) = m at *
  clear hm
  go_wp2_with fail
  refine (last_any (l := m) hd1 (by omega)).mono ?_
  rintro e w2 ⟨rfl, hb2⟩
  have hbb := hb1.trans (hb2.mono hb1.size)
  rcases HK.out with ⟨h1, h2⟩ | ⟨p, h1, h2, _⟩
  · have h1' : lastV (nf (dset m)) = (0, false) := h1
    rw [h1']
    have H2 := Lib.hid h2
    clear h1 h1' h2
    unfold pairV
    go_wp2_with fail
    go_ret
    exact ⟨ret_int H2.out.symm, hbb⟩
  · have h1' : lastV (nf (dset m)) = (p, true) := h1
    rw [h1']
    have H2 := Lib.hid h2
    clear h1 h1' h2
    unfold pairV
    go_wp2_with fail
    go_ret
    exact ⟨ret_int H2.out.symm, hbb⟩

set_option maxHeartbeats 2000000 in
theorem following_any {w : World} {base g : Nat} {C : List Pr} (i : Nat) (d : Int) (h : Bd w base g C) (hi : i < 6) (hC : C.length ≤ 100) (hd0 : 0 ≤ d) (hd1 : d ≤ 73049) :
    Calls Try.prog 98 #[.pointer (some ⟨g, 0, none⟩), .int .i64 (i : Int), .int .i64 d] w fun e w' => e = .returned (.int .i64 (follD (Dd C (i : Int) 1) d)) ∧ Below w.heap.size w w' := by
  obtain ⟨A, N, c, l, hc, hds, hN, hD⟩ := h.at hi (show 0 < 7 by omega)
  have hN2 : N ≤ 200 := by omega
  have hi6 : (i : Int) < 6 := by omega
  have hi0 : (0 : Int) ≤ (i : Int) := by omega
  have key := first_foll (S := fun x => dset (nf fun x => dset l x && dset [⟨d + 1, 73049⟩] x) x) (T := Dd C (i : Int) 1) (d := d) fun x => by
    rw [dset_isD, dset_nf, hD]
    have e1 : dset [⟨d + 1, 73049⟩] x = (isD x && decide (d < x ∧ x < 73049)) := by
      unfold dset
      rw [cov_cons, cov_nil, Bool.or_false]
      congr 1
      rw [Bool.eq_iff_iff, inS_iff]
      simp
      omega
    rw [e1]
    have e2 : (((0 : Nat) : Int) + 1) = 1 := rfl
    rw [e2]
    cases hx : isD x with
    | true => simp
    | false =>
      have : Dd C (i : Int) 1 x = false := by
        unfold Dd
        exact dset_off hx
      rw [this]
      rfl
  have hlen := nfc_len (la := l) (lb := [⟨d + 1, 73049⟩]) (m := 1) (fun x y => x && y) rfl hds.2 rfl
  have hl2 : (nf fun x => dset l x && dset [⟨d + 1, 73049⟩] x).length ≤ 1000 := by omega
  have HK := Lib.hid key
  have HD := Lib.hid hD
  clear key hlen hN hD h
  rw [Nat.add_zero] at hc
  go_enter Try.func98, Try.ntmps98
  go_wp2_with fail
  refine (clip_any (d + 1) 73049 hds (by omega)).mono ?_
  rintro e w1 ⟨A1, c1, rfl, hown1, hb1⟩
  have hd1 := Ds.ofOwn hown1 rfl
  clear hown1
  generalize hm : nf (fun x => dset l x && dset [⟨d + 1, 73049⟩] x) = m at *
  clear hm
  go_wp2_with fail
  refine (nth_any (l := m) 0 hd1 (by omega) ⟨by omega, by omega⟩).mono ?_
  rintro e w2 ⟨rfl, hb2⟩
  have hbb := hb1.trans (hb2.mono hb1.size)
  rcases HK.out with ⟨h1, h2⟩ | ⟨p, h1, h2⟩
  · have h1' : nthV (nf (dset m)) 0 = (0, false) := h1
    rw [h1']
    have H2 := Lib.hid h2
    clear h1 h1' h2
    unfold pairV
    go_wp2_with fail
    go_ret
    exact ⟨ret_int H2.out.symm, hbb⟩
  · have h1' : nthV (nf (dset m)) 0 = (p, true) := h1
    rw [h1']
    have H2 := Lib.hid h2
    clear h1 h1' h2
    unfold pairV
    go_wp2_with fail
    go_ret
    exact ⟨ret_int H2.out.symm, hbb⟩
end Go.Proofs.Ytkncfhdfobcjeaa
