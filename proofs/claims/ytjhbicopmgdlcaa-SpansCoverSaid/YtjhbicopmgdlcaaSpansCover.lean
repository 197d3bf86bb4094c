/- The walk of SpansCover. -/
import Derived.Test.YtjhbicopmgdlcaaSpPcA
import Derived.Test.YtjhbicopmgdlcaaSpPcB
import Derived.Test.YtjhbicopmgdlcaaSpSm
import Derived.Test.YtjhbicopmgdlcaaSpChain
namespace Go.Proofs.Ytjhbicopmgdlcaa
open Go.RowKit

def hasD (x : Int) (p : Pc) : Bool := decide (p.f ≤ x ∧ x < p.t)
theorem cnt_take {M : List Pc} {q : Nat} {p : Pc} (x : Int) (h : M[q]? = some p) : (((M.take (q + 1)).filter (hasD x)).length : Int) = ((M.take q).filter (hasD x)).length + if hasD x p = true then 1 else 0 := by
  rw [List.take_add_one, h, Option.toList_some, List.filter_append, List.length_append, List.filter_cons]
  split
  · simp
  · simp
theorem cnt_le (M : List Pc) (q : Nat) (x : Int) : ((M.take q).filter (hasD x)).length ≤ q := Nat.le_trans (List.length_filter_le _ _) (by rw [List.length_take]; omega)
theorem cnt_all {lo : List (List Sp)} (x : Int) : (memL lo x = [] ∧ ((pieces lo).filter (hasD x)).length = 0) ∨ (memL lo x ≠ [] ∧ ((pieces lo).filter (hasD x)).length = 1) := by
  obtain ⟨h1, h2⟩ := pieces_main lo
  rcases pn_one (x := x) h1 with ⟨h3, h4⟩ | ⟨p, h3, h4, h5⟩
  · left
    rw [← h2 x]
    exact ⟨h3, by unfold hasD; rw [h4]; rfl⟩
  · right
    rw [← h2 x]
    refine ⟨by rw [← h4]; exact h5, ?_⟩
    unfold hasD
    rw [h3]
    rfl

set_option maxRecDepth 100000 in
set_option maxHeartbeats 4000000 in
theorem walkSpansCover (A : Option Addr) (n c : Nat) (vs : List Value) (ls : List (List Sp)) (d0 : Int) (s : Int) (w : World) (h : Rd w w.heap.size 1 A n vs) (hns : Ns w w.heap.size vs ls) (_ : n ≤ maxLen) (hmx : ∀ l ∈ ls, (∀ p ∈ l, p.ok) ∧ l.length ≤ maxLen) (hd : I64 d0) (_ : I64 s) :
    Calls Try.prog 14 #[.slice A n c, .int .i64 d0, .int .i64 s] w fun e w' => e = .returned (.bool true) ∧ Below w.heap.size w w' := by
  obtain ⟨i0, hi0, hx0, hx1, hx2⟩ := info_parts info_lists
  obtain ⟨i1, hi1, hy0, hy1, hy2⟩ := info_parts info_int
  by_cases hbig : 6 < n
  · have hbig2 : (6 : Int) < (n : Int) := by omega
    go_enter Try.func14, Try.ntmps14
    go_wp2_with fail
    go_ret
    exact ⟨rfl, Below.refl _ _⟩
  have hbig2 : ¬ (6 : Int) < (n : Int) := by omega
  have hn6 : n ≤ 6 := by omega
  have hnv : vs.length = n := by have := h.1; omega
  have hnl : ls.length = n := by rw [← hns.1]; exact hnv
  have hml : ∀ l ∈ ls, l.length ≤ 9223372036854775807 := fun l hl => by have := (hmx l hl).2; unfold maxLen at this; exact this
  have HNV := Lib.hid hnv
  have HNL := Lib.hid hnl
  have HMX := Lib.hid hml
  clear hnv hnl hmx hml hbig
  go_enter Try.func14, Try.ntmps14
  go_wp2_with fail
  go_loopw [7, 8] (fun v i wr => ∃ (k : Nat) (vo : List Value) (lo : List (List Sp)), k ≤ n ∧ i = .int .i64 (k : Int) ∧ lo.length = k ∧ (∀ l ∈ lo, l.length ≤ 12) ∧ wr.ownsRow w.heap.size 22 1 v k vo ∧ Svs wr w.heap.size vo lo ∧ Below w.heap.size w wr) (fun _ i _ => n - (intOf i).toNat)
  case atStart => exact ⟨0, [], [], by omega, rfl, rfl, by simp, World.ownsRow_nil _ _ _ _, Svs.nil _ _, Below.refl _ _⟩
  case round =>
    obtain ⟨k, vo, lo, hk, rfl, hlk, hl12, hown, hsv, hb⟩ := hrel
    have hwsz := hb.size
    have HLK := Lib.hid hlk
    have HL12 := Lib.hid hl12
    clear hlk hl12
    obtain ⟨A1, c1, rfl, hnc1, hcm1, hA1⟩ := own_form hown
    by_cases hlt : k < n
    · have hkl : k < ls.length := by rw [HNL.out]; exact hlt
      have hkv : k < vs.length := by rw [HNV.out]; exact hlt
      obtain ⟨l, hl⟩ : ∃ l, ls[k]? = some l := ⟨_, List.getElem?_eq_getElem hkl⟩
      obtain ⟨v, hv2⟩ : ∃ v, vs[k]? = some v := ⟨_, List.getElem?_eq_getElem hkv⟩
      obtain ⟨A2, c2, rfl, hrd2⟩ := hns.2 k v l hv2 hl
      obtain ⟨b, o, rfl, hbb, hc⟩ := (h.below hb).2 (by omega)
      have hcl := hc k _ hv2
      have hmx := HMX.out l (List.mem_of_getElem? hl)
      have hlo : (0 : Int) ≤ (k : Int) := by omega
      have hhi : (k : Int) < (n : Int) := by omega
      clear hv2 hl hc
      by_cases h12 : 12 < l.length
      · have h12' : (12 : Int) < (l.length : Int) := by omega
        go_wp2_with fail
        go_ret
        exact ⟨rfl, hb⟩
      · have h12' : ¬ (12 : Int) < (l.length : Int) := by omega
        go_wp2_with fail
        refine (small_sv w.heap.size A2 l.length c2 l s _ (hrd2.belowLe hb (Nat.le_refl _)) rfl hwsz (by omega)).mono ?_
        rintro e w2 ⟨v2, l2, rfl, hsv2, hll2, hb2⟩
        obtain ⟨A9, c9, rfl, hsv9⟩ := hsv2
        have hsv2 : Sv w2 w.heap.size (.slice A9 l2.length c9) l2 := ⟨A9, c9, rfl, hsv9⟩
        clear hsv9
        have hown2 := own_under hown hb2
        have hsvs2 := (hsv.under hb2 hwsz)
        have hbb2 := hb.trans (hb2.mono hwsz)
        have hz2 := hbb2.size
        have HLL2 := Lib.hid hll2
        clear hown hsv hb hb2 hll2 hcl
        go_wp2_with (at_builtin; go_loud (refine wpList_append_rd (by rfl) (.tmp 29) (.tmp 36) 44 (by rfl) w.heap.size 22 i0 _ 1 24 Try.underlying44 hi0 hx0 hx1 hx2 rfl (by omega) _ k vo (by rfl) (hown2.alloc _) (w2.heap.size + 1) (some ⟨w2.heap.size, 0, none⟩) 1 1 [.slice A9 l2.length c9] (by rfl) (Rd.built (heap_alloc_new w2 _) (by omega) rfl) (by intro u hu; simp at hu; subst hu; rfl) (by unfold maxLen; omega) (by omega) (by simp; omega) ?_); intro v4 w4 hown4 hg4 hat4)
        have hba : Below w2.heap.size w2 (w2.alloc (.cells #[.slice A9 l2.length c9] 22)) := (Below.refl _ _).alloc (Nat.le_refl _) _
        have hz3 : w.heap.size ≤ (w2.alloc (.cells #[.slice A9 l2.length c9] 22)).heap.size := by simp; omega
        have hsv4 := (((hsvs2.under hba hz2).snoc (hsv2.under hba hz2)).grown (hown2.alloc _) (by decide) hg4 hz3 (Nat.le_refl _))
        have hb4 := (hbb2.alloc hz2 (.cells #[.slice A9 l2.length c9] 22)).grown hg4 hz3 (fun g e => (hown2.lt g e).1)
        go_roundw
        case rel =>
          refine ⟨k + 1, vo ++ [.slice A9 l2.length c9], lo ++ [l2], by omega, by go_num, by rw [List.length_append, HLK.out]; rfl, fun q hq => ?_, hown4, hsv4, hb4⟩
          rcases List.mem_append.1 hq with hq | hq
          · exact HL12.out q hq
          · rw [List.mem_singleton.1 hq, HLL2.out]
            omega
        case measure => simp [intOf]; omega
    · obtain rfl : k = n := by omega
      have hns2 := hsv.ns hwsz
      have hrd := Rd.ofOwn hown
      clear hlt hk
      go_wp2_with fail
      refine (probe_any d0 s hd _).mono ?_
      rintro e w3 ⟨d, rfl, hdI, hb3⟩
      have hbb3 := hb.trans (hb3.mono hwsz)
      have hrd3 := (hrd.below hb3).mono hb3.size
      have hns3 := (hns2.below hb3).mono hb3.size
      have hvl : vo.length = k := by have := hrd.1; omega
      have HVL := Lib.hid hvl
      clear hrd hns2 hb3 hb hown hsv hvl
      have hz3 := hbb3.size
      go_wp2_with fail
      go_loopw [9, 10] (fun v i wr => ∃ (j : Nat) (L8 : List Int), j ≤ k ∧ i = .int .i64 (j : Int) ∧ L8 = memL (lo.take j) d ∧ L8.length ≤ j ∧ wr.ownsRow w3.heap.size 3 1 v L8.length (ints L8) ∧ Below w3.heap.size w3 wr) (fun _ i _ => k - (intOf i).toNat)
      case atStart => exact ⟨0, [], by omega, rfl, rfl, by simp, World.ownsRow_nil _ _ _ _, Below.refl _ _⟩
      case round =>
        obtain ⟨wo, rfl⟩ : ∃ wo : World, wo = wr := ⟨_, rfl⟩
        obtain ⟨j, L8, hj, rfl, hL8, hL8l, hown8, hb8⟩ := hrel
        have hoz := hb8.size
        obtain ⟨A8, c8, rfl, hnc8, hcm8, hA8⟩ := own_form hown8
        by_cases hlj : j < k
        · have hjl : j < lo.length := by rw [HLK.out]; exact hlj
          have hjv : j < vo.length := by rw [HVL.out]; exact hlj
          obtain ⟨l, hl⟩ : ∃ l, lo[j]? = some l := ⟨_, List.getElem?_eq_getElem hjl⟩
          obtain ⟨v, hv2⟩ : ∃ v, vo[j]? = some v := ⟨_, List.getElem?_eq_getElem hjv⟩
          obtain ⟨A2, c2, rfl, hrd2⟩ := hns3.2 j v l hv2 hl
          obtain ⟨b, o, rfl, hbb, hc⟩ := (hrd3.below hb8).2 (by omega)
          have hcl := hc j _ hv2
          have hll := HL12.out l (List.mem_of_getElem? hl)
          have hmt := memL_take hl d
          rw [← hL8] at hmt
          have HMT := Lib.hid hmt
          have hlo3 : (0 : Int) ≤ (j : Int) := by omega
          have hhi3 : (j : Int) < (k : Int) := by omega
          have hrd8 : Rd wo wo.heap.size 2 A2 l.length (flat Sp.cells l) := (hrd2.below hb8).mono hb8.size
          clear hmt hv2 hl hc hL8
          go_wp2_with fail
          refine (rcontains_any A2 l.length c2 l d _ hrd8 rfl (by omega)).mono ?_
          rintro e _ ⟨rfl, rfl⟩
          cases hdd : dset l d with
          | false =>
            rw [hdd] at HMT
            clear hdd
            go_wp2_with fail
            go_roundw
            case rel => exact ⟨j + 1, L8, by omega, by go_num, by rw [HMT.out]; simp, by omega, hown8, hb8⟩
            case measure => simp [intOf]; omega
          | true =>
            rw [hdd] at HMT
            clear hdd
            go_wp2_with (at_builtin; go_loud (refine wpList_append_rd (by rfl) (.tmp 53) (.tmp 55) 47 (by rfl) w3.heap.size 3 i1 _ 1 8 Try.underlying47 hi1 hy0 hy1 hy2 rfl (by omega) _ L8.length (ints L8) (by rfl) (hown8.alloc _) (wo.heap.size + 1) (some ⟨wo.heap.size, 0, none⟩) 1 1 [.int .i64 (j : Int)] (by rfl) (Rd.built (heap_alloc_new wo _) (by omega) rfl) (by intro u hu; simp at hu; rcases hu with rfl; rfl) (by unfold maxLen; omega) (by omega) (by simp; omega) ?_); intro v4 w4 hown4 hg4 hat4)
            have e1' : (L8 ++ [(j : Int)]).length = L8.length + 1 := by simp
            have hb11 := (hb8.alloc hb8.size (.cells #[.int .i64 (j : Int)] 3)).grown hg4 (by have := hb8.size; simp; omega) (fun g e => (hown8.lt g e).1)
            have E1 := Lib.hid e1'
            clear e1'
            go_roundw
            case rel => exact ⟨j + 1, L8 ++ [(j : Int)], by omega, by go_num, HMT.out.symm, by have := E1.out; omega, by rw [E1.out, ints_append]; exact hown4, hb11⟩
            case measure => simp [intOf]; omega
        · have hjk : lo.take j = lo := List.take_of_length_le (by have := HLK.out; omega)
          rw [hjk] at hL8
          have HL8 := Lib.hid hL8
          have hbb8 := hbb3.trans (hb8.mono hz3)
          have hrd9 := (hrd3.below hb8).mono hb8.size
          have hns9 := (hns3.below hb8).mono hb8.size
          have hL8k : L8.length ≤ 6 := by omega
          clear hL8 hjk hrd3 hns3 hb8 hL8l
          go_wp2_with fail
          refine (pieces_any hrd9 hns9 (fun l hl => Nat.le_trans (HL12.out l hl) (by omega)) (by omega)).mono ?_
          rintro e w5 ⟨A5, c5, X, rfl, hX, hpx, hb5⟩
          have hin5 := own_under hown8 hb5
          have hbb5 := hbb8.trans (hb5.mono hbb8.size)
          have hXl := congrArg List.length hX
          rw [List.length_map] at hXl
          have ho1 := hpx.1
          rw [hXl] at ho1
          have hmb : ∀ x ∈ X, x.p.m.length ≤ 6 := fun x hx => by
            have h1 : x.p ∈ X.map Pw.p := List.mem_map.2 ⟨x, hx, rfl⟩
            rw [hX] at h1
            have h2 := pieces_mem h1
            have := HLK.out
            omega
          have hPb : (pieces lo).length ≤ 1000000 := by
            have h2 := pcs_length (memL lo) (edgesL lo) []
            have h3 := edgesL_length lo 12 (fun l hl => HL12.out l hl)
            have h4 := HLK.out
            unfold pieces
            simp at h2
            omega
          have hval : ∀ x ∈ X, hasD d x.p = true → x.p.m = L8 := fun x hx hh => by
            have h1 : x.p ∈ X.map Pw.p := List.mem_map.2 ⟨x, hx, rfl⟩
            rw [hX] at h1
            obtain ⟨p1, p2⟩ := pieces_main lo
            have hh2 := of_decide_eq_true hh
            rw [HL8.out, ← p2 d]
            exact (valP_mem p1 _ h1 d hh2.1 hh2.2).symm
          have hca := cnt_all (lo := lo) d
          rw [← HL8.out] at hca
          have hgx : ∀ (q : Nat) (x : Pw), X[q]? = some x → (pieces lo)[q]? = some x.p := fun q x hx => by rw [← hX, List.getElem?_map, hx]; rfl
          have HMB := Lib.hid hmb
          have HVA := Lib.hid hval
          have HCA := Lib.hid hca
          have HGX := Lib.hid hgx
          have HXL := Lib.hid hXl
          have HO1 := Lib.hid ho1
          have HM1 := Lib.hid hpx.2
          clear hmb hval hca hgx hX hXl ho1 hpx hb5 hown8 hrd9 hns9 hbb8 HL8 HL12
          have hML := fun q x => cnt_le (pieces lo) q x
          have HML := Lib.hid hML
          have hz5 := hbb5.size
          have hall : (pieces lo).take (pieces lo).length = pieces lo := List.take_length
          have HALL := Lib.hid hall
          clear hML hall
          generalize hPP : pieces lo = P at *
          clear hPP
          generalize hN : P.length = N at *
          have HN := Lib.hid hN
          clear hN
          go_wp2_with fail
          go_loopw [12, 13] (fun f i wr => ∃ q : Nat, q ≤ N ∧ i = .int .i64 (q : Int) ∧ f = .int .i64 (((P.take q).filter (hasD d)).length : Int) ∧ Below w5.heap.size w5 wr) (fun _ i _ => N - (intOf i).toNat)
          case atStart => exact ⟨0, by omega, rfl, by simp, Below.refl _ _⟩
          case round =>
            obtain ⟨wu, rfl⟩ : ∃ wu : World, wu = wr := ⟨_, rfl⟩
            obtain ⟨q, hq, rfl, rfl, hbq⟩ := hrel
            have hqz := hbq.size
            have hcl := HML.out q d
            by_cases hlt : q < N
            · have hqx : q < X.length := by rw [HXL.out]; exact hlt
              obtain ⟨x, hx⟩ : ∃ x, X[q]? = some x := ⟨_, List.getElem?_eq_getElem hqx⟩
              have hct := cnt_take d (HGX.out q x hx)
              have hxm := List.mem_of_getElem? hx
              obtain ⟨_, g1, o1, rfl, hg1, x0, x1, x2⟩ := pw_cells (Rd.ofOwn (own_under HO1.out hbq)) hx
              have m1 := Rd.ofOwn (own_under (HM1.out x hxm) hbq)
              have m2 := Rd.ofOwn (own_under hin5 hbq)
              have hml : x.p.m.length ≤ 1000000 := by have := HMB.out x hxm; omega
              have hml8 : L8.length ≤ 1000000 := by omega
              have HCT := Lib.hid hct
              have hva := HVA.out x hxm
              have HVX := Lib.hid hva
              have hlo4 : (0 : Int) ≤ (q : Int) := by omega
              have hhi4 : (q : Int) < (N : Int) := by omega
              clear hx hct hxm hva
              generalize ((P.take q).filter (hasD d)).length = u at *
              by_cases hf : x.p.f ≤ d
              · by_cases ht : d < x.p.t
                · have hh : hasD d x.p = true := decide_eq_true ⟨hf, ht⟩
                  have HH := Lib.hid hh
                  have hdf : decide (x.p.f ≤ d) = true := by simpa using hf
                  have hdt : decide (d < x.p.t) = true := by simpa using ht
                  have HDM : Hid (decide (x.p.m = L8) = true) := decide_eq_true (HVX.out hh)
                  clear hh
                  go_wp2_with fail
                  refine (samei_any _ _ _ _ _ _ x.p.m L8 _ m1 m2 hml hml8).mono ?_
                  rintro e _ ⟨rfl, qq, rfl⟩
                  rw [HDM.out]
                  go_wp2_with fail
                  go_roundw
                  case rel => exact ⟨q + 1, by omega, by go_num, by rw [HCT.out, if_pos HH.out], below_drewN hbq qq⟩
                  case measure => simp [intOf]; omega
                · have HH : Hid (hasD d x.p = false) := decide_eq_false (fun e => ht e.2)
                  have hdf : decide (x.p.f ≤ d) = true := by simpa using hf
                  have hdt : decide (d < x.p.t) = false := by simpa using ht
                  go_wp2_with fail
                  go_roundw
                  case rel => exact ⟨q + 1, by omega, by go_num, by rw [HCT.out, HH.out]; simp, hbq⟩
                  case measure => simp [intOf]; omega
              · have HH : Hid (hasD d x.p = false) := decide_eq_false (fun e => hf e.1)
                have hdf : decide (x.p.f ≤ d) = false := by simpa using hf
                go_wp2_with fail
                go_roundw
                case rel => exact ⟨q + 1, by omega, by go_num, by rw [HCT.out, HH.out]; simp, hbq⟩
                case measure => simp [intOf]; omega
            · have hqN : P.take q = P := by have := HN.out; exact List.take_of_length_le (by omega)
              have hca := HCA.out
              rw [hqN] at hcl ⊢
              have hbb6 := hbb5.trans (hbq.mono hz5)
              rcases hca with ⟨h1, h2⟩ | ⟨h1, h2⟩
              · rw [h2]
                subst h1
                clear h2 hqN
                go_wp2_with fail
                refine (awake_any wu).mono ?_
                rintro e w9 ⟨rfl, hb9⟩
                go_wp2_with fail
                go_ret
                exact ⟨rfl, hbb6.trans (hb9.mono hbb6.size)⟩
              · rw [h2]
                have hlp : 0 < L8.length := List.length_pos_iff.2 h1
                have hlp2 : (0 : Int) < (L8.length : Int) := by omega
                have hlp3 : decide ((0 : Int) < (L8.length : Int)) = true := by simpa using hlp
                clear h1 h2 hqN
                go_wp2_with fail
                refine (awake_any wu).mono ?_
                rintro e w9 ⟨rfl, hb9⟩
                go_wp2_with fail
                go_ret
                exact ⟨rfl, hbb6.trans (hb9.mono hbb6.size)⟩
end Go.Proofs.Ytjhbicopmgdlcaa
