/- The reference's Ins, walked. -/
import Derived.Test.YthncjohekjnjaaaInsA
namespace Go.Proofs.Ythncjohekjnjaaa
open Go.RowKit

theorem info_int : (Try.prog.info? 3).map (fun i => (i.zero, i.size, i.bytes)) = some (some (.int .i64 0), 1, 8) := by kernel_rfl

theorem ins_cut {l : List Int} {n : Int} (hs : l.Pairwise (· < ·)) {k : Nat} (_hk : k ≤ l.length) (hge : ∀ j x, k ≤ j → l[j]? = some x → n ≤ x) (hlt : k = 0 ∨ ∃ x, l[k - 1]? = some x ∧ x < n) :
    (∀ x ∈ l.take k, x < n) ∧ (∀ x ∈ l.drop k, n ≤ x) := by
  refine ⟨fun x hx => ?_, fun x hx => ?_⟩
  · obtain ⟨j, hj⟩ := List.mem_iff_getElem?.1 hx
    rw [List.getElem?_take] at hj
    split at hj
    · rename_i hjk
      rcases hlt with h0 | ⟨y, hy, hyn⟩
      · omega
      · by_cases e : j = k - 1
        · rw [e, hy] at hj
          injection hj with hj
          omega
        · have hjl := (List.getElem?_eq_some_iff.1 hj)
          have hyl := (List.getElem?_eq_some_iff.1 hy)
          have := List.pairwise_iff_getElem.1 hs j (k - 1) hjl.1 hyl.1 (by omega)
          rw [hjl.2, hyl.2] at this
          omega
    · cases hj
  · obtain ⟨j, hj⟩ := List.mem_iff_getElem?.1 hx
    rw [List.getElem?_drop] at hj
    exact hge (k + j) x (by omega) hj

theorem ins_fin {w w3 : World} {base m k c3 : Nat} {A3 : Option Addr} {l : List Int} {n : Int} (hown : w3.ownsRow base 3 1 (.slice A3 (0 + k + 1 + (m - k)) c3) (0 + k + 1 + (m - k)) ([] ++ ints (l.take k) ++ ints [n] ++ ints (l.drop k)))
    (HN : Hid (insS l n = l.take k ++ n :: l.drop k)) (Hlm : Hid (l.length = m)) (hk : k ≤ m) (hcm : c3 ≤ maxLen) (hnc : 0 + k + 1 + (m - k) ≤ c3) (hb : Below w.heap.size w w3) :
    ∃ A' c', Ending.returned (.slice A3 (k + 1 + (m - k)) c3) = .returned (.slice A' (insS l n).length c') ∧ Rd w3 w3.heap.size 1 A' (insS l n).length (ints (insS l n)) ∧ (insS l n).length ≤ c' ∧ c' ≤ maxLen ∧ Below w.heap.size w w3 := by
  have hl : l.length = m := Hlm.out
  have hlen : (insS l n).length = 0 + k + 1 + (m - k) := by
    rw [HN.out]
    simp
    omega
  have hx : ints (insS l n) = [] ++ ints (l.take k) ++ ints [n] ++ ints (l.drop k) := by
    rw [HN.out]
    simp [ints]
  refine ⟨A3, c3, ?_, ?_, by rw [hlen]; exact hnc, hcm, hb⟩
  · rw [hlen, Nat.zero_add]
  · rw [hlen, hx]
    exact Rd.ofOwn hown

set_option maxRecDepth 100000 in
set_option maxHeartbeats 4000000 in
theorem ins_any (A : Option Addr) (m c : Nat) (l : List Int) (n : Int) (w : World) (h : Rd w w.heap.size 1 A m (ints l)) (hs : l.Pairwise (· < ·)) (hmc : m ≤ c) (hm : m ≤ 1000000) (hcm : c ≤ maxLen) :
    Calls Try.prog 29 #[.slice A m c, .int .i64 n] w fun e w' => ∃ A' c', e = .returned (.slice A' (insS l n).length c') ∧ Rd w' w'.heap.size 1 A' (insS l n).length (ints (insS l n)) ∧ (insS l n).length ≤ c' ∧ c' ≤ maxLen ∧ Below w.heap.size w w' := by
  obtain ⟨i0, hi0, hz0, hz1, hz2⟩ := info_parts info_int
  have hlm := h.len1
  have Hlm := Lib.hid hlm
  unfold maxLen at hcm
  clear hlm
  go_enter Try.func29, Try.ntmps29
  go_upto_block 0 with (fail)
  go_cut [5] (fun s5 wc => wc = w ∧ ∃ k : Nat, s5 = .int .i64 k ∧ k ≤ m ∧ (∀ x ∈ l.take k, x < n) ∧ (∀ x ∈ l.drop k, n ≤ x))
  case first =>
    go_wp2_with fail
    go_loop [5] (fun i => ∃ k : Nat, k ≤ m ∧ i = .int .i64 k ∧ ∀ j x, k ≤ j → l[j]? = some x → n ≤ x) (fun i => (intOf i).toNat)
    case atStart => exact ⟨m, Nat.le_refl _, rfl, fun j x hj hx => by have := (List.getElem?_eq_some_iff.1 hx).1; have := Hlm.out; omega⟩
    case round =>
      obtain ⟨k, hk, rfl, hge⟩ := hrel
      have HGE := Lib.hid hge
      clear hge
      by_cases h0 : k = 0
      · subst h0
        obtain ⟨hA1, hA2⟩ := ins_cut hs (by omega) HGE.out (.inl rfl)
        have H1 := Lib.hid hA1
        have H2 := Lib.hid hA2
        clear hA1 hA2
        go_wp2_with fail
        go_meet
        exact ⟨rfl, 0, rfl, by omega, H1.out, H2.out⟩
      · have hkl : k - 1 < l.length := by have := Hlm.out; omega
        obtain ⟨x, hx⟩ : ∃ x, l[k - 1]? = some x := ⟨_, List.getElem?_eq_getElem hkl⟩
        obtain ⟨_, b, o, rfl, hb, hc⟩ := h.int hx
        by_cases hxn : n ≤ x
        · have hcell : w.cell? ⟨b, o + (k - 1), none⟩ = some (.int .i64 x) := hc
          have hge2 : ∀ j y, k - 1 ≤ j → l[j]? = some y → n ≤ y := by
            intro j y hj hy
            by_cases e : j = k - 1
            · rw [e, hx] at hy
              injection hy with hy
              omega
            · exact HGE.out j y (by omega) hy
          have HG2 := Lib.hid hge2
          clear hc hx hge2
          go_wp2_with fail
          exact ⟨⟨k - 1, by omega, by congr 1; omega, HG2.out⟩, by simp [intOf]; omega⟩
        · obtain ⟨hA1, hA2⟩ := ins_cut hs (by have := Hlm.out; omega) HGE.out (.inr ⟨x, hx, by omega⟩)
          have H1 := Lib.hid hA1
          have H2 := Lib.hid hA2
          clear hA1 hA2 hx
          go_wp2_with fail
          go_meet
          exact ⟨rfl, k, rfl, hk, H1.out, H2.out⟩
  case rest =>
    obtain ⟨rfl, k, rfl, hk, h1, h2⟩ := hcut
    have H1 := Lib.hid h1
    have H2 := Lib.hid h2
    clear h1 h2
    by_cases hkm : k < m
    · have hkl : k < l.length := by have := Hlm.out; omega
      obtain ⟨y, hy⟩ : ∃ y, l[k]? = some y := ⟨_, List.getElem?_eq_getElem hkl⟩
      obtain ⟨_, b, o, rfl, hb, hc⟩ := h.int hy
      cases hyn : (y == n) with
      | true =>
        have hyn2 : y = n := by simpa using hyn
        have hres : insS l n = l := insS_there hs (by rw [hy, hyn2])
        have HR := Lib.hid hres
        clear hres hyn2 hy
        go_wp2_with fail
        go_ret
        have hres := HR.out
        rw [hres, Hlm.out]
        exact ⟨_, _, rfl, h, hmc, hcm, Below.refl _ _⟩
      | false =>
        have hyn2 : y ≠ n := by simpa using hyn
        have hlt : ∀ x ∈ l.drop k, n < x := by
          intro x hx
          have h0 := H2.out
          rw [List.drop_eq_getElem_cons hkl] at hx h0
          have hyk : l[k] = y := (List.getElem?_eq_some_iff.1 hy).2
          have hny : n < y := by
            have := h0 y (by rw [hyk]; simp)
            omega
          rcases List.mem_cons.1 hx with rfl | hx
          · rw [hyk]; exact hny
          · have hp := hs
            rw [← List.take_append_drop k l, List.drop_eq_getElem_cons hkl] at hp
            have := (List.pairwise_cons.1 (List.pairwise_append.1 hp).2.1).1 x hx
            rw [hyk] at this
            omega
        have hnew : insS l n = l.take k ++ n :: l.drop k := insS_new H1.out hlt
        have HC := Lib.hid hc
        clear hlt hyn2 hy
        have hk0 : (0 : Int) ≤ (k : Int) := by omega
        have hkc : (k : Int) ≤ (c : Int) := by omega
        have hki : (k : Int) ≤ (m : Int) := by omega
        have ht : Rd wc wc.heap.size 1 (some ⟨b, o, none⟩) k (ints (l.take k)) := by simpa [ints] using h.take (k := k) (by omega)
        have hd : Rd wc wc.heap.size 1 (if c = k then some ⟨b, o, none⟩ else some ⟨b, o + k, none⟩) (m - k) (ints (l.drop k)) := by simpa [ints, addAt] using h.drop (k := k) (c := c) (by omega) hmc
        have HN := Lib.hid hnew
        clear hnew
        go_wp2_with fail
        go_region_law (first
          | (refine step_append_rd (by rfl) (.const (.slice none 0 0)) (.tmp 36) 25 (by rfl) wc.heap.size 3 i0 _ 1 8 Try.underlying25 hi0 hz0 hz1 hz2 rfl (by omega) (.slice none 0 0) 0 [] (by rfl) (World.ownsRow_nil _ _ _ _) wc.heap.size (some ⟨b, o, none⟩) k c (ints (l.take k)) (by rfl) (by first | exact ht | exact ht.alloc (Nat.le_refl _) _) (ints_one _) (by unfold maxLen; omega) (by omega) (by simp) ?_
             intro v1 w1 hown1 hg1 hat1
             have b1 : Below wc.heap.size wc w1 := by first | exact (Below.refl _ _).drew.grown hg1 (Nat.le_refl _) (by simp [Value.ownBlock]) | exact ((Below.refl _ _).alloc (Nat.le_refl _) _).drew.grown hg1 (by simp) (by simp [Value.ownBlock])
             have lo1 : ∀ g, v1.ownBlock = some g → wc.heap.size ≤ g := fun g e => (hown1.lt g e).1)
          | (refine step_append_rd (by rfl) (.tmp 37) (.tmp 39) 25 (by rfl) wc.heap.size 3 i0 _ 1 8 Try.underlying25 hi0 hz0 hz1 hz2 rfl (by omega) v1 (0 + k) ([] ++ ints (l.take k)) (by rfl) (by first | exact hown1 | exact hown1.alloc _) w1.heap.size.succ (some ⟨_, 0, none⟩) 1 1 (ints [n]) (by rfl) (by first | exact Rd.built (heap_alloc_new w1 _) (Nat.lt_succ_self _) rfl | exact Rd.built (cs := #[.int .i64 n]) ((hg1.block wc.heap.size (by simp) (by simp [Value.ownBlock])).trans (heap_alloc_new wc _)) (by have := hg1.size; simp at this; omega) rfl) (ints_one _) (by unfold maxLen; omega) (by omega) (by have := hg1.size; simp at this ⊢; omega) ?_
             intro v2 w2 hown2 hg2 hat2
             have b2 : Below wc.heap.size wc w2 := by first | exact b1.grown hg2 b1.size lo1 | exact (b1.alloc b1.size _).grown hg2 (by have := b1.size; simp; omega) lo1
             have lo2 : ∀ g, v2.ownBlock = some g → wc.heap.size ≤ g := fun g e => (hown2.lt g e).1)
          | (refine step_append_rd (by rfl) (.tmp 40) (.tmp 43) 25 (by rfl) wc.heap.size 3 i0 _ 1 8 Try.underlying25 hi0 hz0 hz1 hz2 rfl (by omega) v2 (0 + k + 1) ([] ++ ints (l.take k) ++ ints [n]) (by rfl) hown2 wc.heap.size _ (m - k) (c - k) (ints (l.drop k)) (by rfl) (hd.below b2) (ints_one _) (by unfold maxLen; omega) (by omega) b2.size ?_
             intro v3 w3 hown3 hg3 hat3
             have b3 : Below wc.heap.size wc w3 := b2.grown hg3 b2.size lo2
             obtain ⟨A3, c3, rfl, hnc3, hcm3, hA3⟩ := own_form hown3))
        all_goals go_wp2_with fail
        all_goals go_ret
        all_goals exact ins_fin hown3 HN Hlm (by omega) hcm3 hnc3 b3
    · have hnew : insS l n = l.take k ++ n :: l.drop k := insS_new H1.out (fun x hx => by rw [List.drop_eq_nil_of_le (by have := Hlm.out; omega)] at hx; simp at hx)
      have hk0 : (0 : Int) ≤ (k : Int) := by omega
      have hkc : (k : Int) ≤ (c : Int) := by omega
      have hki : (k : Int) ≤ (m : Int) := by omega
      have ht : Rd wc wc.heap.size 1 A k (ints (l.take k)) := by simpa [ints] using h.take (k := k) (by omega)
      have hd : Rd wc wc.heap.size 1 (if c = k then A else Option.map (fun x : Addr => x.add k) A) (m - k) (ints (l.drop k)) := by simpa [ints] using h.drop (k := k) (c := c) (by omega) hmc
      have HN := Lib.hid hnew
      clear hnew
      go_wp2_with fail
      go_region_law (first
        | (refine step_append_rd (by rfl) (.const (.slice none 0 0)) (.tmp 36) 25 (by rfl) wc.heap.size 3 i0 _ 1 8 Try.underlying25 hi0 hz0 hz1 hz2 rfl (by omega) (.slice none 0 0) 0 [] (by rfl) (World.ownsRow_nil _ _ _ _) wc.heap.size A k c (ints (l.take k)) (by rfl) (by first | exact ht | exact ht.alloc (Nat.le_refl _) _) (ints_one _) (by unfold maxLen; omega) (by omega) (by simp) ?_
           intro v1 w1 hown1 hg1 hat1
           have b1 : Below wc.heap.size wc w1 := by first | exact (Below.refl _ _).drew.grown hg1 (Nat.le_refl _) (by simp [Value.ownBlock]) | exact ((Below.refl _ _).alloc (Nat.le_refl _) _).drew.grown hg1 (by simp) (by simp [Value.ownBlock])
           have lo1 : ∀ g, v1.ownBlock = some g → wc.heap.size ≤ g := fun g e => (hown1.lt g e).1)
        | (refine step_append_rd (by rfl) (.tmp 37) (.tmp 39) 25 (by rfl) wc.heap.size 3 i0 _ 1 8 Try.underlying25 hi0 hz0 hz1 hz2 rfl (by omega) v1 (0 + k) ([] ++ ints (l.take k)) (by rfl) (by first | exact hown1 | exact hown1.alloc _) w1.heap.size.succ (some ⟨_, 0, none⟩) 1 1 (ints [n]) (by rfl) (by first | exact Rd.built (heap_alloc_new w1 _) (Nat.lt_succ_self _) rfl | exact Rd.built (cs := #[.int .i64 n]) ((hg1.block wc.heap.size (by simp) (by simp [Value.ownBlock])).trans (heap_alloc_new wc _)) (by have := hg1.size; simp at this; omega) rfl) (ints_one _) (by unfold maxLen; omega) (by omega) (by have := hg1.size; simp at this ⊢; omega) ?_
           intro v2 w2 hown2 hg2 hat2
           have b2 : Below wc.heap.size wc w2 := by first | exact b1.grown hg2 b1.size lo1 | exact (b1.alloc b1.size _).grown hg2 (by have := b1.size; simp; omega) lo1
           have lo2 : ∀ g, v2.ownBlock = some g → wc.heap.size ≤ g := fun g e => (hown2.lt g e).1)
        | (refine step_append_rd (by rfl) (.tmp 40) (.tmp 43) 25 (by rfl) wc.heap.size 3 i0 _ 1 8 Try.underlying25 hi0 hz0 hz1 hz2 rfl (by omega) v2 (0 + k + 1) ([] ++ ints (l.take k) ++ ints [n]) (by rfl) hown2 wc.heap.size _ (m - k) (c - k) (ints (l.drop k)) (by rfl) (hd.below b2) (ints_one _) (by unfold maxLen; omega) (by omega) b2.size ?_
           intro v3 w3 hown3 hg3 hat3
           have b3 : Below wc.heap.size wc w3 := b2.grown hg3 b2.size lo2
           obtain ⟨A3, c3, rfl, hnc3, hcm3, hA3⟩ := own_form hown3))
      all_goals go_wp2_with fail
      all_goals go_ret
      all_goals exact ins_fin hown3 HN Hlm (by omega) hcm3 hnc3 b3
end Go.Proofs.Ythncjohekjnjaaa
