/- Total of both. -/
import Derived.Test.YtbogmkhoppffgaaScF
import Derived.Test.YtbogmkhoppffgaaScG
namespace Go.Proofs.Ytbogmkhoppffgaa
open Go.RowKit

theorem vldF_length : ∀ (l : List Rw) (q : Rw), RowOk q → vldF q l = true → (l.length : Int) ≤ 74399 - (q.s * 12000 + q.b * 2400 + q.m)
  | [], q, hq, _ => by
    unfold RowOk at hq
    simp
    omega
  | r :: l, q, hq, h => by
    have h' : (decide (RowOk r) && decide (Nxt q r) && vldF r l) = true := h
    rw [Bool.and_eq_true, Bool.and_eq_true, decide_eq_true_eq, decide_eq_true_eq] at h'
    have h1 := vldF_length l r h'.1.1 h'.2
    have h2 := h'.1.2.1
    have h3 := h'.1.1
    unfold Rlt at h2
    unfold RowOk at h3 hq
    simp only [List.length_cons]
    omega
theorem vldB_length {l : List Rw} (h : vldB l = true) : l.length ≤ 100000 := by
  cases l with
  | nil => simp
  | cons r l =>
    have h' : (decide (RowOk r) && vldF r l) = true := h
    rw [Bool.and_eq_true, decide_eq_true_eq] at h'
    have h1 := vldF_length l r h'.1 h'.2
    have h3 := h'.1
    unfold RowOk at h3
    simp only [List.length_cons]
    omega
theorem mul_bd {d x : Int} (h0 : 0 ≤ d) (h1 : d ≤ 5000000000000) (h2 : 0 ≤ x) (h3 : x ≤ 2400) : 0 ≤ d * x ∧ d * x ≤ 12000000000000000 := by
  refine ⟨Int.mul_nonneg h0 h2, ?_⟩
  have := Int.mul_le_mul h1 h3 h2 (by omega)
  omega

set_option maxHeartbeats 4000000 in
theorem total_any {A : Option Addr} {n c : Nat} {l : List Rw} {w : World} (s f t : Int) (h : Dr w A n l) (hn : n ≤ maxLen) (ht : I64 t) :
    Calls Try.prog 21 #[.slice A n c, .int .i64 s, .int .i64 f, .int .i64 t] w fun e w' => e = .returned (pairI (totV l s f t)) ∧ Below w.heap.size w w' := by
  obtain ⟨ht0, ht1⟩ := ht
  cases hv : vldB l with
  | false =>
    rw [totV_bad (.inl hv)]
    go_enter Try.func21, Try.ntmps21
    go_wp2_with fail
    refine (valid_any h hn).mono ?_
    rintro e w1 ⟨rfl, hb1⟩
    rw [hv]
    go_wp2_with fail
    go_ret2
    exact ⟨rfl, hb1⟩
  | true =>
    cases hm : monB f with
    | false =>
      rw [totV_bad (.inr (.inl hm))]
      go_enter Try.func21, Try.ntmps21
      go_wp2_with fail
      refine (valid_any h hn).mono ?_
      rintro e w1 ⟨rfl, hb1⟩
      rw [hv]
      go_wp2_with (go_at_call 35; refine (ismon_any _ _).mono ?_; rintro e w' ⟨rfl, rfl⟩)
      go_ret2
      exact ⟨rfl, hb1⟩
    | true =>
      cases hm2 : monB t with
      | false =>
        rw [totV_bad (.inr (.inr hm2))]
        go_enter Try.func21, Try.ntmps21
        go_wp2_with fail
        refine (valid_any h hn).mono ?_
        rintro e w1 ⟨rfl, hb1⟩
        rw [hv]
        go_wp2_with (go_at_call 35; refine (ismon_any _ _).mono ?_; rintro e w' ⟨rfl, rfl⟩)
        go_ret2
        exact ⟨rfl, hb1⟩
      | true =>
        obtain ⟨f0, f1⟩ := (monB_iff f).1 hm
        obtain ⟨t0, t1⟩ := (monB_iff t).1 hm2
        have htot := totV_ok (s := s) hv hm hm2
        have HT := Lib.hid htot
        have hvl := vldB_length hv
        have ha := vldB_amts hv
        have HA := Lib.hid ha
        have HVL := Lib.hid hvl
        clear htot hvl ha
        by_cases hft : t < f
        · have hz : totV l s f t = (0, 0) := by rw [HT.out, show (t + 1 - f).toNat = 0 by omega]; rfl
          rw [hz]
          have HZ := Lib.hid hz
          clear hz
          go_enter Try.func21, Try.ntmps21
          go_wp2_with fail
          refine (valid_any h hn).mono ?_
          rintro e w1 ⟨rfl, hb1⟩
          rw [hv]
          go_wp2_with (go_at_call 35; refine (ismon_any _ _).mono ?_; rintro e w' ⟨rfl, rfl⟩)
          go_ret2
          exact ⟨rfl, hb1⟩
        · obtain ⟨tv, htv⟩ : ∃ tv, totV l s f t = tv := ⟨_, rfl⟩
          rw [htv] at HT ⊢
          clear htv
          go_enter Try.func21, Try.ntmps21
          go_wp2_with fail
          refine (valid_any h hn).mono ?_
          rintro e w1 ⟨rfl, hb1⟩
          rw [hv]
          have h1 := h.below hb1
          go_wp2_with (go_at_call 35; refine (ismon_any _ _).mono ?_; rintro e w' ⟨rfl, rfl⟩)
          obtain ⟨W0, hW0, hR0, hb0⟩ : ∃ W0, W0 = w1.alloc (.cells #[.slice A n c] 53) ∧ Rd W0 W0.heap.size 1 (some ⟨w1.heap.size, 0, none⟩) 1 ([RRow.mk A n c l].map RRow.val) ∧ Below w1.heap.size w1 W0 :=
            ⟨_, rfl, Rd.built (cs := #[.slice A n c]) (heap_alloc_new w1 _) (by simp) rfl, (Below.refl _ _).alloc (Nat.le_refl _) _⟩
          rw [← hW0]
          clear hW0
          have h0 := h1.below hb0
          refine (segments_any f t s hR0 (fun r hr => by rw [List.mem_singleton.1 hr]; exact ⟨h0.1, h0.2, by have h2 := HVL.out; rw [h0.2] at h2; exact h2⟩) rfl (by omega) (by omega)).mono ?_
          rintro e w2 ⟨A2, c2, E, rfl, hrd, hseg, hell, hb2⟩
          rw [show allR [RRow.mk A n c l] = l by simp [allR]] at hseg
          have hx2 := h0.below hb2
          have hbb0 := hb1.trans (hb0.mono hb1.size)
          have hbb2 := hbb0.trans (hb2.mono hbb0.size)
          have hz2 := hbb2.size
          have HSEG := Lib.hid hseg
          clear h h1 h0 hR0 hb0 hb1 hb2 hbb0 hseg
          generalize hel : E.length = el at *
          have HEL := Lib.hid hel
          clear hel
          go_wp2_with fail
          go_loopw [10, 39] (fun v i wr => ∃ (k : Nat) (p : Int), k ≤ el ∧ i = .int .i64 (k : Int) ∧ (E[k]? = some p ∨ (k = el ∧ p = t + 1)) ∧ f ≤ p ∧ p ≤ t + 1 ∧ v = .int .i64 (sumD l s f (p - f).toNat) ∧ sumD l s f (p - f).toNat ≤ 1000000000000 ∧ Below w2.heap.size w2 wr) (fun _ i _ => el - (intOf i).toNat)
          case atStart =>
            refine ⟨0, f, by omega, rfl, .inl ?_, by omega, by omega, by rw [show (f - f).toNat = 0 by omega]; rfl, by rw [show (f - f).toNat = 0 by omega]; simp [sumD], Below.refl _ _⟩
            have h2 := HSEG.out.2.1
            rwa [List.head?_eq_getElem?] at h2
          case round =>
            obtain ⟨k, p, hk, rfl, hp, hp0, hp1, rfl, hS1, hb⟩ := hrel
            have hSn := (sumD_nn HA.out (by omega) s f (p - f).toNat).1
            by_cases hlt : k < el
            · have hek : E[k]? = some p := by
                rcases hp with hp | ⟨hp, _⟩
                · exact hp
                · omega
              have hpt := ((HSEG.out.2.2.1) p (List.mem_of_getElem? hek)).2
              have hfl := segs_flat HSEG.out hek
              obtain ⟨_, g, o, hA2, hgb, hc0⟩ := (hrd.below hb).int hek
              have hnext : ∃ p', (E[k + 1]? = some p' ∨ (k + 1 = el ∧ p' = t + 1)) ∧ Flat l s p p' ∧ p ≤ p' ∧ p' ≤ t + 1 := by
                by_cases h1 : k + 1 < el
                · obtain ⟨p', hp'⟩ : ∃ p', E[k + 1]? = some p' := ⟨_, List.getElem?_eq_getElem (by have := HEL.out; omega)⟩
                  rw [hp'] at hfl
                  refine ⟨p', .inl hp', hfl, ?_, ?_⟩
                  · obtain ⟨l1, e1⟩ := List.getElem?_eq_some_iff.1 hek
                    obtain ⟨l2, e2⟩ := List.getElem?_eq_some_iff.1 hp'
                    have := List.pairwise_iff_getElem.1 HSEG.out.1 k (k + 1) l1 l2 (by omega)
                    omega
                  · have := ((HSEG.out.2.2.1) p' (List.mem_of_getElem? hp')).2
                    omega
                · rw [show E[k + 1]? = none from List.getElem?_eq_none (by have := HEL.out; omega)] at hfl
                  exact ⟨t + 1, .inr ⟨by omega, rfl⟩, hfl, by omega, Int.le_refl _⟩
              obtain ⟨p', hp', hfl', hpp, hpt'⟩ := hnext
              have hsum := flat_sum hfl' hp0 hpp
              have hmono := sumD_mono HA.out (by omega) s f (p' - f).toNat ((t + 1 - f).toNat - (p' - f).toNat)
              rw [show (p' - f).toNat + ((t + 1 - f).toNat - (p' - f).toNat) = (t + 1 - f).toNat by omega] at hmono
              obtain ⟨hd0, hd1⟩ := dueL_bd HA.out (by omega) s p
              have HP' := Lib.hid hp'
              obtain ⟨d, hd⟩ : ∃ d, dueL l s p = d := ⟨_, rfl⟩
              rw [hd] at hsum hd0 hd1
              obtain ⟨S, hS⟩ : ∃ S, sumD l s f (p - f).toNat = S := ⟨_, rfl⟩
              rw [hS] at hsum hS1 hSn ⊢
              obtain ⟨m0, m1⟩ := mul_bd (x := p' - p) hd0 (by omega) (by omega) (by omega)
              have hwm : IntKind.i64.wrap (d * (p' - p)) = d * (p' - p) := IntWalk.i64_in _ (by omega)
              have HD := Lib.hid hd
              have HSUM := Lib.hid hsum
              have HMO := Lib.hid hmono
              have hx := hx2.below hb
              have hlo : (0 : Int) ≤ (k : Int) := by omega
              have hhi : (k : Int) < (el : Int) := by omega
              subst hA2
              clear hp hek hfl hp' hfl' hsum hmono hd hS
              have hend : ∀ wz, Below w2.heap.size w2 wz → (1000000000000 < S + d * (p' - p) → tv = (0, 2)) := fun _ _ h => by rw [HT.out, if_pos (by have h1 := HSUM.out; have h2 := HMO.out; omega)]
              have HEND := Lib.hid hend
              clear hend
              have hwr := hb.size
              by_cases h1 : k + 1 < el
              · have hh1 : (k : Int) + 1 < (el : Int) := by omega
                have hh0 : (0 : Int) ≤ (k : Int) + 1 := by omega
                have hek1 : E[k + 1]? = some p' := by
                  rcases HP'.out with hp | ⟨hp, _⟩
                  · exact hp
                  · omega
                obtain ⟨_, g', o', hA3, _, hc1⟩ := (hrd.below hb).int hek1
                injection hA3 with hA3
                injection hA3 with hA31 hA32
                subst hA31 hA32
                clear hek1
                go_wp2_with fail
                refine (due_any s p hx hn HA.out).mono ?_
                rintro e w3 ⟨rfl, hb3⟩
                rw [HD.out]
                have hb4 := hb.trans (hb3.mono hwr)
                by_cases hov : 1000000000000 < S + d * (p' - p)
                · have hres := HEND.out w3 hb4 hov
                  have HRES := Lib.hid hres
                  clear hres
                  go_wp2_with fail
                  go_ret2
                  exact ⟨by rw [HRES.out]; rfl, hbb2.trans (hb4.mono hz2)⟩
                · go_wp2_with fail
                  go_roundw
                  case rel => exact ⟨k + 1, p', by omega, by go_num, HP'.out, by omega, by omega, by rw [HSUM.out], by rw [HSUM.out]; omega, hb4⟩
                  case measure => simp [intOf]; omega
              · have hh1 : ¬ (k : Int) + 1 < (el : Int) := by omega
                have hpe : p' = t + 1 := by
                  rcases HP'.out with hp | ⟨_, hp⟩
                  · have := (List.getElem?_eq_some_iff.1 hp).1
                    have := HEL.out
                    omega
                  · exact hp
                subst hpe
                go_wp2_with fail
                refine (due_any s p hx hn HA.out).mono ?_
                rintro e w3 ⟨rfl, hb3⟩
                rw [HD.out]
                have hb4 := hb.trans (hb3.mono hwr)
                by_cases hov : 1000000000000 < S + d * (t + 1 - p)
                · have hres := HEND.out w3 hb4 hov
                  have HRES := Lib.hid hres
                  clear hres
                  go_wp2_with fail
                  go_ret2
                  exact ⟨by rw [HRES.out]; rfl, hbb2.trans (hb4.mono hz2)⟩
                · go_wp2_with fail
                  go_roundw
                  case rel => exact ⟨k + 1, t + 1, by omega, by go_num, .inr ⟨by omega, rfl⟩, by omega, by omega, by rw [HSUM.out], by rw [HSUM.out]; omega, hb4⟩
                  case measure => simp [intOf]; omega
            · have hpe : p = t + 1 := by
                rcases hp with hp | ⟨_, hp⟩
                · have := (List.getElem?_eq_some_iff.1 hp).1
                  have := HEL.out
                  omega
                · exact hp
              subst hpe
              have hres : tv = (sumD l s f (t + 1 - f).toNat, 0) := by rw [HT.out, if_neg (by omega)]
              have HRES := Lib.hid hres
              clear hres hp
              go_wp2_with fail
              go_ret2
              exact ⟨by rw [HRES.out]; rfl, hbb2.trans (hb.mono hz2)⟩
end Go.Proofs.Ytbogmkhoppffgaa
