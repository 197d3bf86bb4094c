/- The reference's Pay. -/
import Derived.Test.YtldkblkcbffelaaPayA
namespace Go.Proofs.Ytldkblkcbffelaa
open Go.RowKit

/-- What the reference's Pay leaves. -/
def RPayPost (w : World) (rb : Nat) (L P : List Dt) (e : Ending) (w' : World) : Prop :=
  e = .returned (.int .i64 (payCode L P)) ∧ RefA w' rb (payNext L P) ∧ w.grownBy w' (some rb)

set_option maxHeartbeats 4000000 in
theorem rpay_led (rb : Nat) (A : Option Addr) (n c : Nat) (L P : List Dt) (w : World) (h : RefA w rb L) (hrd : Rd w w.heap.size 4 A n (flat Dt.cells P)) (hn : P.length = n) (hn2 : n ≤ 800) (hl : L.length ≤ 100) :
    Calls Try.prog 27 #[.pointer (some ⟨rb, 0, none⟩), .slice A n c] w (RPayPost w rb L P) := by
  have HN := Lib.hid hn
  have hrlt := h.lt
  clear hn
  obtain ⟨i0, hi0, hz0, hz1, hz2⟩ := info_parts info_debt
  go_enter Try.func27, Try.ntmps27
  go_wp2_with fail
  go_loopw [5] (fun i wr => ∃ k : Nat, k ≤ n ∧ i = .int .i64 (k : Int) ∧ (∀ j x, j < k → P[j]? = some x → x.ok) ∧ Below w.heap.size w wr) (fun i _ => n - (intOf i).toNat)
  case atStart => exact ⟨0, by omega, rfl, fun j x hj => by omega, Below.refl _ _⟩
  case round =>
    obtain ⟨k, hk, rfl, hok, hb⟩ := hrel
    have hwsz := hb.size
    by_cases hlt : k < n
    · have hkl : k < P.length := by rw [HN.out]; exact hlt
      obtain ⟨x, hx⟩ : ∃ x, P[k]? = some x := ⟨_, List.getElem?_eq_getElem hkl⟩
      obtain ⟨_, g, o, rfl, hgb, e0, e1, e2, e3⟩ := dt_cells4 (hrd.below hb) hx
      have hlo : (0 : Int) ≤ (k : Int) := by omega
      have hhi : (k : Int) < (n : Int) := by omega
      have HX := Lib.hid hx
      have HO := Lib.hid hok
      clear hx hok
      cases hv : validB x.d x.c x.u x.a with
      | true =>
        have HV := Lib.hid hv
        clear hv
        go_wp2_with fail
        refine (debt_any x.d x.c x.u x.a _).mono ?_
        rintro e w2 ⟨rfl, rfl⟩
        rw [HV.out]
        go_wp2_with fail
        go_roundw
        case rel =>
          refine ⟨k + 1, by omega, by go_num, fun j y hj hy => ?_, hb.alloc hwsz _⟩
          by_cases hjk : j < k
          · exact HO.out j y hjk hy
          · have : j = k := by omega
            rw [this, HX.out] at hy
            have e : x = y := by injection hy
            rw [← e]
            exact HV.out
        case measure => simp [intOf]; omega
      | false =>
        have HV := Lib.hid hv
        clear hv
        go_wp2_with fail
        refine (debt_any x.d x.c x.u x.a _).mono ?_
        rintro e w2 ⟨rfl, rfl⟩
        rw [HV.out]
        go_wp2_with fail
        go_ret
        have hbb := hb.alloc hwsz (.cells #[.int .i64 x.d, .int .i64 x.c, .int .i64 x.u, .int .i64 x.a] 37)
        have hna := validAll_not HX.out HV.out
        refine ⟨by simp [payCode, hna], ?_, grownBy_of_below hbb _⟩
        rw [show payNext L P = L by simp [payNext, hna]]
        exact h.grown (grownBy_of_below hbb none) (by simp) (by simp)
    · have hall : validAll P = true := validAll_of (k := k) (by have := HN.out; omega) hok
      have hL1 := h.grown (grownBy_of_below hb none) (by simp) (by simp)
      have HA := Lib.hid hall
      clear hok hall
      obtain ⟨v, hrb, hown⟩ := hL1.row
      obtain ⟨A0, c0, rfl, hnc, hcm, hA0⟩ := own_form hown
      have hcell : wr.cell? ⟨rb, 0, none⟩ = some (.slice A0 L.length c0) := by rw [cell_of_row wr rb 0 _ _ _ hrb]; rfl
      have hrdL := Rd.ofOwn hown
      have hval := hL1.valid
      generalize hm : L.length = m at *
      have HM := Lib.hid hm
      clear hm
      go_wp2_with (at_builtin; go_loud (refine wpList_append_rd (by rfl) (.const (.slice none 0 0)) (.tmp 25) 30 (by rfl) wr.heap.size 37 i0 _ 4 32 Try.underlying30 hi0 hz0 hz1 hz2 rfl (by omega) (.slice none 0 0) 0 [] (by rfl) (World.ownsRow_nil _ _ _ _) wr.heap.size A0 m c0 (flat Dt.cells L) (by rfl) hrdL (cells_oneD L) (by unfold maxLen; omega) (by omega) (Nat.le_refl _) ?_); intro v1 w1 hown1 hg1 hat1; obtain ⟨A1, c1, rfl, hnc1, hcm1, hA1⟩ := own_form hown1)
      have hz1 := hg1.size
      have hb1 : Below w.heap.size w w1 := hb.grown hg1 hwsz (by simp [Value.ownBlock])
      have hR1 : RefA w1 rb L := hL1.grown hg1 (by simp [Value.ownBlock]) (by simp [Value.ownBlock])
      have hN1 : RefA (w1.alloc (.cells #[.slice A1 m c1] 33)) w1.heap.size L := ⟨⟨_, heap_alloc_new w1 _, by
        have e := ownsRow_base (base' := 0) (hown1.alloc (.cells #[.slice A1 m c1] 33)) (Nat.zero_le _)
        rw [Nat.zero_add, List.nil_append] at e
        rw [HM.out]
        exact e⟩, hval, hL1.short⟩
      have hR2 := hR1.grown (grownBy_of_below ((Below.refl w1.heap.size w1).alloc (Nat.le_refl _) (.cells #[.slice A1 m c1] 33)) none) (by simp) (by simp)
      have hb2 := hb1.alloc hb1.size (.cells #[.slice A1 m c1] 33)
      have hz2' := hb1.size
      clear hown1 hg1 hat1 hR1 hb1 hb hL1 hown hrdL hval hcell hrb hA0
      obtain ⟨w3, hw3⟩ : ∃ x, x = w1.alloc (.cells #[.slice A1 m c1] 33) := ⟨_, rfl⟩
      rw [← hw3] at hN1 hR2 hb2 ⊢
      obtain ⟨nb, hnb⟩ : ∃ x, x = w1.heap.size := ⟨_, rfl⟩
      rw [← hnb] at hN1 hz2' ⊢
      clear hw3 hnb
      go_loopw [7] (fun i wr => ∃ (k : Nat) (K : List Dt), k ≤ n ∧ i = .int .i64 (k : Int) ∧ RefA wr rb L ∧ RefA wr nb K ∧ payGo L P = payGo K (P.drop k) ∧ K.length ≤ m + k ∧ Below w.heap.size w wr) (fun i _ => n - (intOf i).toNat)
      case atStart => exact ⟨0, L, by omega, rfl, hR2, hN1, rfl, by have := HM.out; omega, hb2⟩
      case round =>
        clear hR2 hN1 hb2 hwsz
        obtain ⟨k, K, hk, rfl, hL, hF, hgo, hKl, hb⟩ := hrel
        have hwsz := hb.size
        by_cases hlt : k < n
        · have hkl : k < P.length := by rw [HN.out]; exact hlt
          obtain ⟨x, hx⟩ : ∃ x, P[k]? = some x := ⟨_, List.getElem?_eq_getElem hkl⟩
          obtain ⟨_, g, o, rfl, hgb, e0, e1, e2, e3⟩ := dt_cells4 (hrd.below hb) hx
          have hlo : (0 : Int) ≤ (k : Int) := by omega
          have hhi : (k : Int) < (n : Int) := by omega
          rw [drop_get hx] at hgo
          have HG := Lib.hid hgo
          clear hx hgo
          go_wp2_with fail
          have hcr : codeOf K (swp x) = 0 ∨ codeOf K (swp x) = 1 ∨ codeOf K (swp x) = 2 := codeOf_cases K (swp x)
          have hba := (Below.refl wr.heap.size wr).alloc (Nat.le_refl _) (.cells #[.int .i64 x.c, .int .i64 x.d, .int .i64 x.u, .int .i64 x.a] 37)
          have hbl := hb.trans (hba.mono hwsz)
          have hLa := hL.grown (grownBy_of_below hba none) (by simp) (by simp)
          have hFa := hF.grown (grownBy_of_below hba none) (by simp) (by simp)
          clear hL hF hb
          generalize wr.alloc (.cells #[.int .i64 x.c, .int .i64 x.d, .int .i64 x.u, .int .i64 x.a] 37) = wa at *
          refine (rpost_led nb K (swp x) _ hFa (by omega)).mono ?_
          rintro e w3 ⟨rfl, hF3, hg3⟩
          have hL3 := hLa.grown hg3 (fun e => by injection e with e; omega) (fun k e cur fr hk => by
            injection e with e
            subst e
            obtain ⟨_, hrow, _⟩ := hFa.row
            rw [hrow] at hk
            injection hk with hk
            injection hk with _ hk
            revert hk
            decide)
          have hb3 := hbl.grown hg3 hbl.size (fun k e => by injection e with e; omega)
          have hn1 := nextOf_length K (swp x)
          have HX := Lib.hid (p := payGo K (x :: P.drop (k + 1)) = if codeOf K (swp x) = 0 then payGo (nextOf K (swp x)) (P.drop (k + 1)) else (codeOf K (swp x), K)) rfl
          clear hLa hFa hbl
          rcases hcr with hc | hc | hc
          · rw [hc] at HX ⊢
            rw [if_pos rfl] at HX
            generalize nextOf K (swp x) = K2 at *
            go_wp2_with fail
            go_roundw
            case rel => exact ⟨k + 1, K2, by omega, by go_num, hL3, hF3, HG.out.trans HX.out, by omega, hb3⟩
            case measure => simp [intOf]; omega
          · rw [hc] at HX ⊢
            have hp1 : payCode L P = 1 := by rw [payCode, if_pos HA.out, HG.out, HX.out]; rfl
            have hp2 : payNext L P = L := by rw [payNext, if_pos HA.out, HG.out, HX.out]; rfl
            have HP1 := Lib.hid hp1
            have HP2 := Lib.hid hp2
            clear hp1 hp2
            go_wp2_with fail
            go_ret
            exact ⟨by rw [HP1.out]; rfl, by rw [HP2.out]; exact hL3, grownBy_of_below hb3 _⟩
          · rw [hc] at HX ⊢
            have hp1 : payCode L P = 2 := by rw [payCode, if_pos HA.out, HG.out, HX.out]; rfl
            have hp2 : payNext L P = L := by rw [payNext, if_pos HA.out, HG.out, HX.out]; rfl
            have HP1 := Lib.hid hp1
            have HP2 := Lib.hid hp2
            clear hp1 hp2
            go_wp2_with fail
            go_ret
            exact ⟨by rw [HP1.out]; rfl, by rw [HP2.out]; exact hL3, grownBy_of_below hb3 _⟩
        · have hdr : P.drop k = [] := List.drop_eq_nil_of_le (by have := HN.out; omega)
          rw [hdr] at hgo
          have hp1 : payCode L P = 0 := by rw [payCode, if_pos HA.out, hgo]; rfl
          have hp2 : payNext L P = K := by rw [payNext, if_pos HA.out, hgo]; rfl
          have HP1 := Lib.hid hp1
          have HP2 := Lib.hid hp2
          clear hp1 hp2 hgo hdr
          obtain ⟨v2, hnb2, hown2⟩ := hF.row
          obtain ⟨v0, hrb0, _⟩ := hL.row
          obtain ⟨A2, c2, rfl, hnc2, hcm2, hA2⟩ := own_form hown2
          have hc2 : wr.cell? ⟨nb, 0, none⟩ = some (.slice A2 K.length c2) := by rw [cell_of_row wr nb 0 _ _ _ hnb2]; rfl
          have hc0 : wr.cell? ⟨rb, 0, none⟩ = some v0 := by rw [cell_of_row wr rb 0 _ _ _ hrb0]; rfl
          have hfz := frozen_of_row wr rb 0 _ _ hrb0
          have hne := own_ne hown2 hrb0 (by decide)
          have hrs := hF.valid
          have hrt := hF.short
          generalize hkn : K.length = kn at *
          have HK := Lib.hid hkn
          clear hkn
          go_wp2_with fail
          go_ret
          refine ⟨by rw [HP1.out]; rfl, ?_, ?_⟩
          · rw [HP2.out]
            refine ⟨⟨_, heap_setCell_same wr rb 0 _ _ _ hrb0, ?_⟩, hrs, by rw [HK.out]; exact hrt⟩
            rw [HK.out]
            exact ownsRow_setCell_ne (p := ⟨rb, 0, none⟩) hown2 hne _
          · exact grownBy_trans (grownBy_of_below hb (some rb)) ⟨rfl, rfl, rfl, by simp, fun k _ hk => heap_setCell_other wr ⟨rb, 0, none⟩ k _ (fun e => hk (by rw [e]))⟩
end Go.Proofs.Ytldkblkcbffelaa
