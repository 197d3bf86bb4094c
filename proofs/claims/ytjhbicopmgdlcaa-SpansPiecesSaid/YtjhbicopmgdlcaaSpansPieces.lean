/- The walk of SpansPieces. -/
import Derived.Test.YtjhbicopmgdlcaaSpPcA
import Derived.Test.YtjhbicopmgdlcaaSpPcB
import Derived.Test.YtjhbicopmgdlcaaSpSm
import Derived.Test.YtjhbicopmgdlcaaSpChain
namespace Go.Proofs.Ytjhbicopmgdlcaa
open Go.RowKit

set_option maxRecDepth 100000 in
set_option maxHeartbeats 4000000 in
theorem walkSpansPieces (A : Option Addr) (n c : Nat) (vs : List Value) (ls : List (List Sp)) (s : Int) (w : World) (h : Rd w w.heap.size 1 A n vs) (hns : Ns w w.heap.size vs ls) (_ : n ≤ maxLen) (hmx : ∀ l ∈ ls, (∀ p ∈ l, p.ok) ∧ l.length ≤ maxLen) (_ : I64 s) :
    Calls Try.prog 13 #[.slice A n c, .int .i64 s] w fun e w' => e = .returned (.bool true) ∧ Below w.heap.size w w' := by
  obtain ⟨i0, hi0, hx0, hx1, hx2⟩ := info_parts info_lists
  obtain ⟨i1, hi1, hy0, hy1, hy2⟩ := info_parts info_int
  by_cases hbig : 6 < n
  · have hbig2 : (6 : Int) < (n : Int) := by omega
    go_enter Try.func13, Try.ntmps13
    go_wp2_with fail
    go_ret
    exact ⟨rfl, Below.refl _ _⟩
  have hbig2 : ¬ (6 : Int) < (n : Int) := by omega
  have hn6 : n ≤ 6 := by omega
  have hnv : vs.length = n := by have := h.1; omega
  have hnl : ls.length = n := by rw [← hns.1]; exact hnv
  have hml : ∀ l ∈ ls, l.length ≤ 9223372036854775807 := fun l hl => by have := (hmx l hl).2; unfold maxLen at this; exact this
  have HNV := Lib.hid hnv
  have HNL := Lib.hid hnl
  have HMX := Lib.hid hml
  clear hnv hnl hmx hml hbig
  go_enter Try.func13, Try.ntmps13
  go_wp2_with fail
  go_loopw [5, 6] (fun v i wr => ∃ (k : Nat) (vo : List Value) (lo : List (List Sp)), k ≤ n ∧ i = .int .i64 (k : Int) ∧ lo.length = k ∧ (∀ l ∈ lo, l.length ≤ 12) ∧ wr.ownsRow w.heap.size 22 1 v k vo ∧ Svs wr w.heap.size vo lo ∧ Below w.heap.size w wr) (fun _ i _ => n - (intOf i).toNat)
  case atStart => exact ⟨0, [], [], by omega, rfl, rfl, by simp, World.ownsRow_nil _ _ _ _, Svs.nil _ _, Below.refl _ _⟩
  case round =>
    obtain ⟨k, vo, lo, hk, rfl, hlk, hl12, hown, hsv, hb⟩ := hrel
    have hwsz := hb.size
    have HLK := Lib.hid hlk
    have HL12 := Lib.hid hl12
    clear hlk hl12
    obtain ⟨A1, c1, rfl, hnc1, hcm1, hA1⟩ := own_form hown
    by_cases hlt : k < n
    · have hkl : k < ls.length := by rw [HNL.out]; exact hlt
      have hkv : k < vs.length := by rw [HNV.out]; exact hlt
      obtain ⟨l, hl⟩ : ∃ l, ls[k]? = some l := ⟨_, List.getElem?_eq_getElem hkl⟩
      obtain ⟨v, hv2⟩ : ∃ v, vs[k]? = some v := ⟨_, List.getElem?_eq_getElem hkv⟩
      obtain ⟨A2, c2, rfl, hrd2⟩ := hns.2 k v l hv2 hl
      obtain ⟨b, o, rfl, hbb, hc⟩ := (h.below hb).2 (by omega)
      have hcl := hc k _ hv2
      have hmx := HMX.out l (List.mem_of_getElem? hl)
      have hlo : (0 : Int) ≤ (k : Int) := by omega
      have hhi : (k : Int) < (n : Int) := by omega
      clear hv2 hl hc
      by_cases h12 : 12 < l.length
      · have h12' : (12 : Int) < (l.length : Int) := by omega
        go_wp2_with fail
        go_ret
        exact ⟨rfl, hb⟩
      · have h12' : ¬ (12 : Int) < (l.length : Int) := by omega
        go_wp2_with fail
        refine (small_sv w.heap.size A2 l.length c2 l s _ (hrd2.belowLe hb (Nat.le_refl _)) rfl hwsz (by omega)).mono ?_
        rintro e w2 ⟨v2, l2, rfl, hsv2, hll2, hb2⟩
        obtain ⟨A9, c9, rfl, hsv9⟩ := hsv2
        have hsv2 : Sv w2 w.heap.size (.slice A9 l2.length c9) l2 := ⟨A9, c9, rfl, hsv9⟩
        clear hsv9
        have hown2 := own_under hown hb2
        have hsvs2 := (hsv.under hb2 hwsz)
        have hbb2 := hb.trans (hb2.mono hwsz)
        have hz2 := hbb2.size
        have HLL2 := Lib.hid hll2
        clear hown hsv hb hb2 hll2 hcl
        go_wp2_with (at_builtin; go_loud (refine wpList_append_rd (by rfl) (.tmp 25) (.tmp 32) 44 (by rfl) w.heap.size 22 i0 _ 1 24 Try.underlying44 hi0 hx0 hx1 hx2 rfl (by omega) _ k vo (by rfl) (hown2.alloc _) (w2.heap.size + 1) (some ⟨w2.heap.size, 0, none⟩) 1 1 [.slice A9 l2.length c9] (by rfl) (Rd.built (heap_alloc_new w2 _) (by omega) rfl) (by intro u hu; simp at hu; subst hu; rfl) (by unfold maxLen; omega) (by omega) (by simp; omega) ?_); intro v4 w4 hown4 hg4 hat4)
        have hba : Below w2.heap.size w2 (w2.alloc (.cells #[.slice A9 l2.length c9] 22)) := (Below.refl _ _).alloc (Nat.le_refl _) _
        have hz3 : w.heap.size ≤ (w2.alloc (.cells #[.slice A9 l2.length c9] 22)).heap.size := by simp; omega
        have hsv4 := (((hsvs2.under hba hz2).snoc (hsv2.under hba hz2)).grown (hown2.alloc _) (by decide) hg4 hz3 (Nat.le_refl _))
        have hb4 := (hbb2.alloc hz2 (.cells #[.slice A9 l2.length c9] 22)).grown hg4 hz3 (fun g e => (hown2.lt g e).1)
        go_roundw
        case rel =>
          refine ⟨k + 1, vo ++ [.slice A9 l2.length c9], lo ++ [l2], by omega, by go_num, by rw [List.length_append, HLK.out]; rfl, fun q hq => ?_, hown4, hsv4, hb4⟩
          rcases List.mem_append.1 hq with hq | hq
          · exact HL12.out q hq
          · rw [List.mem_singleton.1 hq, HLL2.out]
            omega
        case measure => simp [intOf]; omega
    · obtain rfl : k = n := by omega
      have hns2 := hsv.ns hwsz
      have hrd := Rd.ofOwn hown
      clear hlt hk
      go_wp2_with fail
      refine (pieces_any hrd hns2 (fun l hl => Nat.le_trans (HL12.out l hl) (by omega)) (by omega)).mono ?_
      rintro e w3 ⟨A3, c3, X, rfl, hX, hpx, hb3⟩
      have hbb3 := hb.trans (hb3.mono hwsz)
      have hrd3 := (hrd.below hb3).mono hb3.size
      have hns3 := (hns2.below hb3).mono hb3.size
      go_wp2_with fail
      refine (rpieces_any hrd3 hns3 (fun l hl => Nat.le_trans (HL12.out l hl) (by omega)) (by omega)).mono ?_
      rintro e w4 ⟨A4, c4, Y, rfl, hY, hpy, hb4⟩
      have hbb4 := hbb3.trans (hb4.mono hbb3.size)
      have hpx4 := hpx.under hb4
      clear hrd hrd3 hns2 hns3 hpx hb3 hb4 hbb3 hb hown hsv
      go_wp2_with fail
      refine (awake_any w4).mono ?_
      rintro e w5 ⟨rfl, hb5⟩
      have hbb5 := hbb4.trans (hb5.mono hbb4.size)
      have hpx5 := hpx4.under hb5
      have hpy5 := hpy.under hb5
      clear hpx4 hpy hb5 hbb4
      have hXl := congrArg List.length hX
      have hYl := congrArg List.length hY
      rw [List.length_map] at hXl hYl
      have ho1 := hpx5.1
      have ho2 := hpy5.1
      rw [hXl] at ho1
      rw [hYl] at ho2
      have HXY := Lib.hid (hX.trans hY.symm)
      have HXL := Lib.hid hXl
      have HYL := Lib.hid hYl
      have HO1 := Lib.hid ho1
      have HO2 := Lib.hid ho2
      have HM1 := Lib.hid hpx5.2
      have HM2 := Lib.hid hpy5.2
      have hmb : ∀ x ∈ X, x.p.m.length ≤ 6 := fun x hx => by
        have h1 : x.p ∈ X.map Pw.p := List.mem_map.2 ⟨x, hx, rfl⟩
        rw [hX] at h1
        have h2 := pieces_mem h1
        have := HLK.out
        omega
      have HMB := Lib.hid hmb
      clear hmb
      have hPb : (pieces lo).length ≤ 1000000 := by
        rw [← HXL.out]
        have := hpx5.1.1
        rw [pw_flen] at this
        have h2 := pcs_length (memL lo) (edgesL lo) []
        have h3 := edgesL_length lo 12 (fun l hl => HL12.out l hl)
        have h4 := HLK.out
        unfold pieces at hXl
        simp at h2
        omega
      clear hX hY hXl hYl ho1 ho2 hpx5 hpy5
      generalize (pieces lo).length = N at *
      have hzz := hbb5.size
      go_wp2_with fail
      go_loopw [9] (fun i wr => ∃ k : Nat, k ≤ N ∧ i = .int .i64 (k : Int) ∧ Below w5.heap.size w5 wr) (fun i _ => N - (intOf i).toNat)
      case atStart => exact ⟨0, by omega, rfl, Below.refl _ _⟩
      case round =>
        obtain ⟨q, hq, rfl, hbq⟩ := hrel
        have hqz := hbq.size
        by_cases hlt : q < N
        · have hqx : q < X.length := by rw [HXL.out]; exact hlt
          have hqy : q < Y.length := by rw [HYL.out]; exact hlt
          obtain ⟨x, hx⟩ : ∃ x, X[q]? = some x := ⟨_, List.getElem?_eq_getElem hqx⟩
          obtain ⟨y, hy⟩ : ∃ y, Y[q]? = some y := ⟨_, List.getElem?_eq_getElem hqy⟩
          have hxy : x.p = y.p := by
            have h1 : (X.map Pw.p)[q]? = some x.p := by rw [List.getElem?_map, hx]; rfl
            have h2 : (Y.map Pw.p)[q]? = some y.p := by rw [List.getElem?_map, hy]; rfl
            rw [HXY.out, h2] at h1
            injection h1 with h1
            exact h1.symm
          obtain ⟨_, g1, o1, rfl, hg1, x0, x1, x2⟩ := pw_cells (Rd.ofOwn (own_under HO1.out hbq)) hx
          obtain ⟨_, g2, o2, rfl, hg2, y0, y1, y2⟩ := pw_cells (Rd.ofOwn (own_under HO2.out hbq)) hy
          have m1 := own_under (HM1.out x (List.mem_of_getElem? hx)) hbq
          have m2 := own_under (HM2.out y (List.mem_of_getElem? hy)) hbq
          obtain ⟨px, ax, cx⟩ := x
          obtain ⟨py, ay, cy⟩ := y
          simp only at hxy
          subst hxy
          obtain ⟨f, t, m⟩ := px
          have r1 : Rd wr wr.heap.size 1 ax m.length (ints m) := Rd.ofOwn m1
          have r2 : Rd wr wr.heap.size 1 ay m.length (ints m) := Rd.ofOwn m2
          have x0' : wr.cell? ⟨g1, o1 + q * 3, none⟩ = some (.int .i64 f) := x0
          have x1' : wr.cell? ⟨g1, o1 + q * 3 + 1, none⟩ = some (.int .i64 t) := x1
          have x2' : wr.cell? ⟨g1, o1 + q * 3 + 2, none⟩ = some (.slice ax m.length cx) := x2
          have y0' : wr.cell? ⟨g2, o2 + q * 3, none⟩ = some (.int .i64 f) := y0
          have y1' : wr.cell? ⟨g2, o2 + q * 3 + 1, none⟩ = some (.int .i64 t) := y1
          have y2' : wr.cell? ⟨g2, o2 + q * 3 + 2, none⟩ = some (.slice ay m.length cy) := y2
          have hml : m.length ≤ 1000000 := by
            have h1 := HMB.out _ (List.mem_of_getElem? hx)
            simp only at h1
            omega
          have hlo : (0 : Int) ≤ (q : Int) := by omega
          have hhi : (q : Int) < (N : Int) := by omega
          clear hx hy x0 x1 x2 y0 y1 y2 m1 m2
          go_wp2_with fail
          go_quiet ((go_at_call 46; exact samei_q r1 r2 hml hml (decide_eq_true rfl) _))
          go_wp2_with fail
          go_roundw
          case rel => exact ⟨q + 1, by omega, by go_num, below_drewN hbq nq⟩
          case measure => simp [intOf]; omega
        · go_wp2_with fail
          go_ret
          exact ⟨rfl, hbb5.trans (hbq.mono hzz)⟩
end Go.Proofs.Ytjhbicopmgdlcaa
