/- The program's Difference. -/
import Derived.Test.YtnjloghphkjcoaaScI
namespace Go.Proofs.Ytnjloghphkjcoaa
open Go.RowKit

theorem ovN_ext {l k : List Rw} {s f e : Int} (h0 : f ≤ e) (h : ovN l k s f (e - f).toNat = false) : ∀ n : Nat, (∀ j : Nat, j < n → dueL l s (e + j) ≤ 1000000000000 ∧ dueL k s (e + j) ≤ 1000000000000) → ovN l k s f ((e - f).toNat + n) = false
  | 0, _ => h
  | n + 1, hj => by
    have ih := ovN_ext h0 h n fun j hn => hj j (by omega)
    have h2 := hj n (by omega)
    show (ovN l k s f ((e - f).toNat + n) || decide (1000000000000 < dueL l s (f + (((e - f).toNat + n : Nat) : Int)) ∨ 1000000000000 < dueL k s (f + (((e - f).toNat + n : Nat) : Int)))) = false
    rw [ih, show f + (((e - f).toNat + n : Nat) : Int) = e + n by omega]
    simp only [Bool.false_or, decide_eq_false_iff_not]
    omega
theorem flat_left {l k : List Rw} {s e e' : Int} (h : Flat (l ++ k) s e e') : Flat l s e e' := fun r hr => h r (List.mem_append.2 (.inl hr))
theorem flat_right {l k : List Rw} {s e e' : Int} (h : Flat (l ++ k) s e e') : Flat k s e e' := fun r hr => h r (List.mem_append.2 (.inr hr))

set_option maxRecDepth 100000 in
set_option maxHeartbeats 4000000 in
theorem dif_any {A B : Option Addr} {n c n2 c2 : Nat} {l k : List Rw} {w : World} (s f t : Int) (h : Dr w A n l) (h2 : Dr w B n2 k) (hn : n ≤ maxLen) (hn2 : n2 ≤ maxLen) :
    Calls Try.prog 24 #[.slice A n c, .slice B n2 c2, .int .i64 s, .int .i64 f, .int .i64 t] w (RetDif w (difL l k s f t) (difE l k s f t)) := by
  obtain ⟨i0, hi0, hz0, hz1, hz2⟩ := info_parts info_ch
  by_cases hbad : vldB l = false ∨ vldB k = false ∨ monB f = false ∨ monB t = false
  · obtain ⟨e1, e2⟩ := dif_bad (s := s) hbad
    rw [e1, e2]
    clear e1 e2
    cases hv : vldB l with
    | false =>
      clear hbad
      go_enter Try.func24, Try.ntmps24
      go_wp2_with fail
      refine (valid_any h hn).mono ?_
      rintro e w1 ⟨rfl, hb1⟩
      rw [hv]
      go_wp2_with fail
      go_ret2
      exact retDif_nil 1 hb1
    | true =>
      cases hv2 : vldB k with
      | false =>
        clear hbad
        go_enter Try.func24, Try.ntmps24
        go_wp2_with fail
        refine (valid_any h hn).mono ?_
        rintro e w1 ⟨rfl, hb1⟩
        rw [hv]
        go_wp2_with fail
        refine (valid_any (h2.below hb1) hn2).mono ?_
        rintro e w2 ⟨rfl, hb2⟩
        rw [hv2]
        go_wp2_with fail
        go_ret2
        exact retDif_nil 1 (hb1.trans (hb2.mono hb1.size))
      | true =>
        have hm : monB f = false ∨ (monB f = true ∧ monB t = false) := by
          cases h5 : monB f with
          | false => exact .inl rfl
          | true => exact .inr ⟨rfl, by simpa [hv, hv2, h5] using hbad⟩
        clear hbad
        rcases hm with hm | ⟨hm, hm2⟩
        all_goals
          go_enter Try.func24, Try.ntmps24
          go_wp2_with fail
          refine (valid_any h hn).mono ?_
          rintro e w1 ⟨rfl, hb1⟩
          rw [hv]
          go_wp2_with fail
          refine (valid_any (h2.below hb1) hn2).mono ?_
          rintro e w2 ⟨rfl, hb2⟩
          rw [hv2]
          go_wp2_with (go_at_call 35; refine (ismon_any _ _).mono ?_; rintro e w' ⟨rfl, rfl⟩)
          go_ret2
          exact retDif_nil 1 (hb1.trans (hb2.mono hb1.size))
  · have hv : vldB l = true := by cases h5 : vldB l with | false => exact absurd (.inl h5) hbad | true => rfl
    have hv2 : vldB k = true := by cases h5 : vldB k with | false => exact absurd (.inr (.inl h5)) hbad | true => rfl
    have hm : monB f = true := by cases h5 : monB f with | false => exact absurd (.inr (.inr (.inl h5))) hbad | true => rfl
    have hm2 : monB t = true := by cases h5 : monB t with | false => exact absurd (.inr (.inr (.inr h5))) hbad | true => rfl
    clear hbad
    obtain ⟨f0, f1⟩ := (monB_iff f).1 hm
    obtain ⟨t0, t1⟩ := (monB_iff t).1 hm2
    have hA := vldB_amts hv
    have hB := vldB_amts hv2
    have hvl := vldB_length hv
    have hvl2 := vldB_length hv2
    have HA := Lib.hid hA
    have HB := Lib.hid hB
    have HVL := Lib.hid hvl
    have HVL2 := Lib.hid hvl2
    have hov := dif_ov (s := s) hv hv2 hm hm2
    have hok := dif_ok (s := s) hv hv2 hm hm2
    have HOV := Lib.hid hov
    have HOK := Lib.hid hok
    obtain ⟨er, her⟩ : ∃ er, difE l k s f t = er := ⟨_, rfl⟩
    obtain ⟨L, hL⟩ : ∃ L, difL l k s f t = L := ⟨_, rfl⟩
    rw [her, hL] at HOV HOK ⊢
    clear hA hB hov hok her hL hvl hvl2
    by_cases hft : t < f
    · have hz : (t + 1 - f).toNat = 0 := by omega
      rw [hz] at HOK
      obtain ⟨g1, g2⟩ := HOK.out rfl
      have hLO : L = [] := g2
      subst g1 hLO
      clear g2 hz HOV HOK
      go_enter Try.func24, Try.ntmps24
      go_wp2_with fail
      refine (valid_any h hn).mono ?_
      rintro e w1 ⟨rfl, hb1⟩
      rw [hv]
      go_wp2_with fail
      refine (valid_any (h2.below hb1) hn2).mono ?_
      rintro e w2 ⟨rfl, hb2⟩
      rw [hv2]
      go_wp2_with (go_at_call 35; refine (ismon_any _ _).mono ?_; rintro e w' ⟨rfl, rfl⟩)
      go_ret2
      exact retDif_nil 0 (hb1.trans (hb2.mono hb1.size))
    · go_enter Try.func24, Try.ntmps24
      go_wp2_with fail
      refine (valid_any h hn).mono ?_
      rintro e w1 ⟨rfl, hb1⟩
      rw [hv]
      go_wp2_with fail
      refine (valid_any (h2.below hb1) hn2).mono ?_
      rintro e w2 ⟨rfl, hb2⟩
      rw [hv2]
      have hx := (h.below hb1).below hb2
      have hy := (h2.below hb1).below hb2
      have hbb2 := hb1.trans (hb2.mono hb1.size)
      clear h h2 hb1 hb2
      go_wp2_with (go_at_call 35; refine (ismon_any _ _).mono ?_; rintro e w' ⟨rfl, rfl⟩)
      obtain ⟨W0, hW0, hR0, hb0⟩ : ∃ W0, W0 = w2.alloc (.cells #[.slice A n c, .slice B n2 c2] 22) ∧ Rd W0 W0.heap.size 1 (some ⟨w2.heap.size, 0, none⟩) 2 ([RRow.mk A n c l, RRow.mk B n2 c2 k].map RRow.val) ∧ Below w2.heap.size w2 W0 :=
        ⟨_, rfl, Rd.built (cs := #[.slice A n c, .slice B n2 c2]) (heap_alloc_new w2 _) (by simp) rfl, (Below.refl _ _).alloc (Nat.le_refl _) _⟩
      rw [← hW0]
      clear hW0
      have hx0 := hx.below hb0
      have hy0 := hy.below hb0
      refine (segments_any f t s hR0 (fun r hr => ?_) rfl (by omega) (by omega)).mono ?_
      · rcases List.mem_cons.1 hr with rfl | hr
        · exact ⟨hx0.1, hx0.2, by have h2 := HVL.out; rw [hx0.2] at h2; exact h2⟩
        · obtain rfl := List.mem_singleton.1 hr
          exact ⟨hy0.1, hy0.2, by have h2 := HVL2.out; rw [hy0.2] at h2; exact h2⟩
      rintro e w3 ⟨A2, c3, E, rfl, hrd, hseg, hell, hb3⟩
      rw [show allR [RRow.mk A n c l, RRow.mk B n2 c2 k] = l ++ k by simp [allR]] at hseg
      have hx3 := hx0.below hb3
      have hy3 := hy0.below hb3
      have hbb0 := hbb2.trans (hb0.mono hbb2.size)
      have hbb3 := hbb0.trans (hb3.mono hbb0.size)
      have hz3 := hbb3.size
      have HSEG := Lib.hid hseg
      clear hx hy hx0 hy0 hR0 hb0 hb3 hbb0 hbb2 hseg
      generalize hel : E.length = el at *
      have HEL := Lib.hid hel
      clear hel
      go_wp2_with fail
      go_loopw [12, 50] (fun v i wr => ∃ (j : Nat) (p : Int) (O : List Ch), j ≤ el ∧ i = .int .i64 (j : Int) ∧ (E[j]? = some p ∨ (j = el ∧ p = t + 1)) ∧ f ≤ p ∧ p ≤ t + 1 ∧ O = chN l k s f (p - f).toNat ∧ ovN l k s f (p - f).toNat = false ∧ wr.ownsRow w3.heap.size 45 2 v O.length (flat Ch.cells O) ∧ Below w3.heap.size w3 wr) (fun _ i _ => el - (intOf i).toNat)
      case atStart =>
        refine ⟨0, f, [], by omega, rfl, .inl ?_, by omega, by omega, by rw [show (f - f).toNat = 0 by omega]; rfl, by rw [show (f - f).toNat = 0 by omega]; rfl, World.ownsRow_nil _ _ _ _, Below.refl _ _⟩
        have h2 := HSEG.out.2.1
        rwa [List.head?_eq_getElem?] at h2
      case round =>
        obtain ⟨j, p, O, hj, rfl, hp, hp0, hp1, hO, hno, hown, hb⟩ := hrel
        have hwsz := hb.size
        obtain ⟨A3, c4, rfl, _, _, _⟩ := own_form hown
        have hOl : O.length ≤ (p - f).toNat := by rw [hO]; exact chN_length _ _ _ _ _
        by_cases hlt : j < el
        · have hek : E[j]? = some p := by
            rcases hp with hp | ⟨hp, _⟩
            · exact hp
            · omega
          have hpt := ((HSEG.out.2.2.1) p (List.mem_of_getElem? hek)).2
          have hfl := segs_flat HSEG.out hek
          obtain ⟨_, g, o, hA2, hgb, hc0⟩ := (hrd.below hb).int hek
          have hnext : ∃ p', (E[j + 1]? = some p' ∨ (j + 1 = el ∧ p' = t + 1)) ∧ Flat (l ++ k) s p p' ∧ p < p' ∧ p' ≤ t + 1 := by
            by_cases h1 : j + 1 < el
            · obtain ⟨p', hp'⟩ : ∃ p', E[j + 1]? = some p' := ⟨_, List.getElem?_eq_getElem (by have := HEL.out; omega)⟩
              rw [hp'] at hfl
              refine ⟨p', .inl hp', hfl, ?_, ?_⟩
              · obtain ⟨l1, e1⟩ := List.getElem?_eq_some_iff.1 hek
                obtain ⟨l2, e2⟩ := List.getElem?_eq_some_iff.1 hp'
                have := List.pairwise_iff_getElem.1 HSEG.out.1 j (j + 1) l1 l2 (by omega)
                omega
              · have := ((HSEG.out.2.2.1) p' (List.mem_of_getElem? hp')).2
                omega
            · rw [show E[j + 1]? = none from List.getElem?_eq_none (by have := HEL.out; omega)] at hfl
              exact ⟨t + 1, .inr ⟨by omega, rfl⟩, hfl, by omega, Int.le_refl _⟩
          obtain ⟨p', hp', hfl', hpp, hpt'⟩ := hnext
          obtain ⟨hd0, hd1⟩ := dueL_bd HA.out (by omega) s p
          obtain ⟨hq0, hq1⟩ := dueL_bd HB.out (by omega) s p
          have hdl : ∀ i : Int, p ≤ i → i < p' → dueL l s i = dueL l s p := fun i a b => flat_due (flat_left hfl') a b
          have hdk : ∀ i : Int, p ≤ i → i < p' → dueL k s i = dueL k s p := fun i a b => flat_due (flat_right hfl') a b
          have hpj : (((p - f).toNat : Nat) : Int) < t + 1 - f := by omega
          have hpj2 : (p - f).toNat < (t + 1 - f).toNat := Int.lt_toNat.2 hpj
          have hovm : (1000000000000 < dueL l s p ∨ 1000000000000 < dueL k s p) → ovN l k s f (t + 1 - f).toNat = true := fun h => ovN_at (n := (t + 1 - f).toNat) (j := (p - f).toNat) hpj2 (by rw [show f + (((p - f).toNat : Nat) : Int) = p by omega]; exact h)
          have hove : dueL l s p ≤ 1000000000000 → dueL k s p ≤ 1000000000000 → ovN l k s f (p' - f).toNat = false := fun a b => by
            have := ovN_ext hp0 hno (p' - p).toNat fun i hi => by rw [hdl (p + i) (by omega) (by omega), hdk (p + i) (by omega) (by omega)]; exact ⟨a, b⟩
            rwa [show (p - f).toNat + (p' - p).toNat = (p' - f).toNat by omega] at this
          have hche : dueL l s p = dueL k s p → O = chN l k s f (p' - f).toNat := fun a => by
            have := chN_flat_eq (l := l) (k := k) (s := s) hp0 (p' - p).toNat fun i hi => by rw [hdl (p + i) (by omega) (by omega), hdk (p + i) (by omega) (by omega), a]
            rw [show (p - f).toNat + (p' - p).toNat = (p' - f).toNat by omega] at this
            rw [this, hO]
          have hchs : ∀ i : Int, p ≤ i → i < p' → ∀ O2, O2 = chN l k s f (i - f).toNat → dueL l s p ≠ dueL k s p → O2 ++ [Ch.mk i (dueL k s p - dueL l s p)] = chN l k s f (i + 1 - f).toNat := fun i a b O2 e hne => by
            rw [chN_snoc (e := i) (by omega) (hdl i a b) (hdk i a b) hne, e]
          obtain ⟨d, hd⟩ : ∃ d, dueL l s p = d := ⟨_, rfl⟩
          obtain ⟨q, hq⟩ : ∃ q, dueL k s p = q := ⟨_, rfl⟩
          rw [hd] at hd0 hd1 hovm hove hche hchs
          rw [hq] at hq0 hq1 hovm hove hche hchs
          have HP' := Lib.hid hp'
          have HD := Lib.hid hd
          have HQ := Lib.hid hq
          have HOVM := Lib.hid hovm
          have HOVE := Lib.hid hove
          have HCHE := Lib.hid hche
          have HCHS := Lib.hid hchs
          have HO := Lib.hid hO
          have hlo : (0 : Int) ≤ (j : Int) := by omega
          have hhi : (j : Int) < (el : Int) := by omega
          have hmx : (if d < q then q else d) = max d q := by split <;> omega
          have hxr := hx3.below hb
          subst hA2
          clear hp hek hfl hp' hfl' hdl hdk hpj hpj2 hovm hove hche hchs hd hq hO hno
          have hnx : (j + 1 < el ∧ E[j + 1]? = some p') ∨ (¬ j + 1 < el ∧ p' = t + 1) := by
            by_cases h1 : j + 1 < el
            · rcases HP'.out with hp | ⟨hp, _⟩
              · exact .inl ⟨h1, hp⟩
              · omega
            · rcases HP'.out with hp | ⟨_, hp⟩
              · have := (List.getElem?_eq_some_iff.1 hp).1
                have := HEL.out
                omega
              · exact .inr ⟨h1, hp⟩
          rcases hnx with ⟨hj1, hek1⟩ | ⟨hj1, hpe⟩
          · obtain ⟨_, g', o', hA3, _, hc1⟩ := (hrd.below hb).int hek1
            injection hA3 with hA3
            injection hA3 with hA31 hA32
            subst hA31 hA32
            have hh1 : (j : Int) + 1 < (el : Int) := by omega
            have hh0 : (0 : Int) ≤ (j : Int) + 1 := by omega
            clear hek1
            go_wp2_with fail
            refine (due_any s p hxr hn HA.out).mono ?_
            rintro e w4 ⟨rfl, hb4⟩
            rw [HD.out]
            have hb5 := hb.trans (hb4.mono hwsz)
            have hyr := hy3.below hb5
            have hown5 := hown.kept (grownBy_of_below hb4 none) (Classical.em _)
            clear hxr hb4 hown
            go_wp2_with fail
            refine (due_any s p hyr hn2 HB.out).mono ?_
            rintro e w5 ⟨rfl, hb6⟩
            rw [HQ.out]
            have hb7 := hb5.trans (hb6.mono hb5.size)
            have hown7 := hown5.kept (grownBy_of_below hb6 none) (Classical.em _)
            clear hyr hb5 hb6 hown5
            have hwsz7 := hb7.size
            by_cases ho1 : 1000000000000 < max d q
            · obtain ⟨g1, g2⟩ := HOV.out (HOVM.out (by omega))
              subst g1 g2
              go_wp2_with fail
              go_ret2
              exact retDif_nil 2 (hbb3.trans (hb7.mono hz3))
            · have hnoe := HOVE.out (by omega) (by omega)
              have HNOE := Lib.hid hnoe
              clear hnoe
              by_cases hdq : d = q
              · have hne : (d != q) = false := by simp [hdq]
                have hst := HCHE.out hdq
                have HS := Lib.hid hst
                clear hst hdq
                go_wp2_with fail
                refine wp_loop_rounds 1 ?_
                rw [rounds_succ]
                go_wp2_with fail
                go_roundw
                case rel =>
                  refine ⟨j + 1, p', O, ?_, ?_, HP'.out, ?_, ?_, HS.out, HNOE.out, hown7, hb7⟩
                  · omega
                  · go_num
                  · omega
                  · omega
                case measure => simp [intOf]; omega
              · have hne : (d != q) = true := by simp [hdq]
                have HNE := Lib.hid hdq
                clear hdq
                go_wp2_with fail
                go_loopw [12, 19] (fun v i wn => ∃ (x : Int) (O2 : List Ch), p ≤ x ∧ x ≤ p' ∧ i = .int .i64 x ∧ O2 = chN l k s f (x - f).toNat ∧ wn.ownsRow w3.heap.size 45 2 v O2.length (flat Ch.cells O2) ∧ Below w3.heap.size w3 wn) (fun _ i _ => (p' - intOf i).toNat)
                case atStart => exact ⟨p, O, by omega, by omega, rfl, HO.out, hown7, hb7⟩
                case round =>
                  clear hown7 hb7 hwsz7
                  obtain ⟨x, O2, hx0, hx1, rfl, hO2, hown, hb⟩ := hrel
                  have hwsz := hb.size
                  obtain ⟨A5, c5, rfl, _, _, _⟩ := own_form hown
                  have hOl2 : O2.length ≤ (x - f).toNat := by rw [hO2]; exact chN_length _ _ _ _ _
                  by_cases hlx : x < p'
                  · have hst := HCHS.out x hx0 hlx O2 hO2 HNE.out
                    have hl2 : (O2 ++ [Ch.mk x (q - d)]).length = O2.length + 1 := by simp
                    have hf2 : flat Ch.cells (O2 ++ [Ch.mk x (q - d)]) = flat Ch.cells O2 ++ [.int .i64 x, .int .i64 (q - d)] := by rw [flat_append, flat_one]; rfl
                    have HS := Lib.hid hst
                    have HL2 := Lib.hid hl2
                    have HF2 := Lib.hid hf2
                    clear hst hl2 hf2 hO2
                    go_wp2_with (at_builtin; go_loud (refine wpList_append_rd (by rfl) (.tmp 90) (.tmp 96) 39 (by rfl) w3.heap.size 45 i0 _ 2 16 Try.underlying39 hi0 hz0 hz1 hz2 rfl (by omega) (.slice A5 O2.length c5) O2.length (flat Ch.cells O2) (by rfl) (hown.alloc _) (wr.heap.size + 1) (some ⟨wr.heap.size, 0, none⟩) 1 1 [.int .i64 x, .int .i64 (q - d)] (by rfl) (Rd.built (heap_alloc_new wr _) (by omega) rfl) (by intro u hu; simp at hu; rcases hu with rfl | rfl <;> rfl) (by unfold maxLen; omega) (by omega) (by simp; omega) ?_); intro v4 w6 hown6 hg6 hat6
                                 obtain ⟨A6, c6, rfl, _, _, _⟩ := own_form hown6)
                    have hb8 := (hb.alloc hwsz (.cells #[.int .i64 x, .int .i64 (q - d)] 45)).grown hg6 (by simp; omega) (fun g e => by have := (hown.lt g e).1; omega)
                    go_roundw
                    case rel =>
                      refine ⟨x + 1, O2 ++ [Ch.mk x (q - d)], ?_, ?_, rfl, HS.out, ?_, hb8⟩
                      · omega
                      · omega
                      · rw [HL2.out, HF2.out]; exact hown6
                    case measure => simp [intOf]; omega
                  · have hxe : x = p' := by omega
                    subst hxe
                    have HS := Lib.hid hO2
                    clear hO2
                    go_wp2_with fail
                    go_roundw
                    case rel =>
                      refine ⟨j + 1, x, O2, ?_, ?_, HP'.out, ?_, ?_, HS.out, HNOE.out, hown, hb⟩
                      · omega
                      · go_num
                      · omega
                      · omega
                    case measure => simp [intOf]; omega
          · subst hpe
            have hh1 : ¬ (j : Int) + 1 < (el : Int) := by omega
            go_wp2_with fail
            refine (due_any s p hxr hn HA.out).mono ?_
            rintro e w4 ⟨rfl, hb4⟩
            rw [HD.out]
            have hb5 := hb.trans (hb4.mono hwsz)
            have hyr := hy3.below hb5
            have hown5 := hown.kept (grownBy_of_below hb4 none) (Classical.em _)
            clear hxr hb4 hown
            go_wp2_with fail
            refine (due_any s p hyr hn2 HB.out).mono ?_
            rintro e w5 ⟨rfl, hb6⟩
            rw [HQ.out]
            have hb7 := hb5.trans (hb6.mono hb5.size)
            have hown7 := hown5.kept (grownBy_of_below hb6 none) (Classical.em _)
            clear hyr hb5 hb6 hown5
            have hwsz7 := hb7.size
            by_cases ho1 : 1000000000000 < max d q
            · obtain ⟨g1, g2⟩ := HOV.out (HOVM.out (by omega))
              subst g1 g2
              go_wp2_with fail
              go_ret2
              exact retDif_nil 2 (hbb3.trans (hb7.mono hz3))
            · have hnoe := HOVE.out (by omega) (by omega)
              have HNOE := Lib.hid hnoe
              clear hnoe
              by_cases hdq : d = q
              · have hne : (d != q) = false := by simp [hdq]
                have hst := HCHE.out hdq
                have HS := Lib.hid hst
                clear hst hdq
                go_wp2_with fail
                refine wp_loop_rounds 1 ?_
                rw [rounds_succ]
                go_wp2_with fail
                go_roundw
                case rel =>
                  refine ⟨j + 1, (t + 1), O, ?_, ?_, .inr ⟨by omega, rfl⟩, ?_, ?_, HS.out, HNOE.out, hown7, hb7⟩
                  · omega
                  · go_num
                  · omega
                  · omega
                case measure => simp [intOf]; omega
              · have hne : (d != q) = true := by simp [hdq]
                have HNE := Lib.hid hdq
                clear hdq
                go_wp2_with fail
                go_loopw [12, 19] (fun v i wn => ∃ (x : Int) (O2 : List Ch), p ≤ x ∧ x ≤ (t + 1) ∧ i = .int .i64 x ∧ O2 = chN l k s f (x - f).toNat ∧ wn.ownsRow w3.heap.size 45 2 v O2.length (flat Ch.cells O2) ∧ Below w3.heap.size w3 wn) (fun _ i _ => ((t + 1) - intOf i).toNat)
                case atStart => exact ⟨p, O, by omega, by omega, rfl, HO.out, hown7, hb7⟩
                case round =>
                  clear hown7 hb7 hwsz7
                  obtain ⟨x, O2, hx0, hx1, rfl, hO2, hown, hb⟩ := hrel
                  have hwsz := hb.size
                  obtain ⟨A5, c5, rfl, _, _, _⟩ := own_form hown
                  have hOl2 : O2.length ≤ (x - f).toNat := by rw [hO2]; exact chN_length _ _ _ _ _
                  by_cases hlx : x < (t + 1)
                  · have hst := HCHS.out x hx0 hlx O2 hO2 HNE.out
                    have hl2 : (O2 ++ [Ch.mk x (q - d)]).length = O2.length + 1 := by simp
                    have hf2 : flat Ch.cells (O2 ++ [Ch.mk x (q - d)]) = flat Ch.cells O2 ++ [.int .i64 x, .int .i64 (q - d)] := by rw [flat_append, flat_one]; rfl
                    have HS := Lib.hid hst
                    have HL2 := Lib.hid hl2
                    have HF2 := Lib.hid hf2
                    clear hst hl2 hf2 hO2
                    go_wp2_with (at_builtin; go_loud (refine wpList_append_rd (by rfl) (.tmp 90) (.tmp 96) 39 (by rfl) w3.heap.size 45 i0 _ 2 16 Try.underlying39 hi0 hz0 hz1 hz2 rfl (by omega) (.slice A5 O2.length c5) O2.length (flat Ch.cells O2) (by rfl) (hown.alloc _) (wr.heap.size + 1) (some ⟨wr.heap.size, 0, none⟩) 1 1 [.int .i64 x, .int .i64 (q - d)] (by rfl) (Rd.built (heap_alloc_new wr _) (by omega) rfl) (by intro u hu; simp at hu; rcases hu with rfl | rfl <;> rfl) (by unfold maxLen; omega) (by omega) (by simp; omega) ?_); intro v4 w6 hown6 hg6 hat6
                                 obtain ⟨A6, c6, rfl, _, _, _⟩ := own_form hown6)
                    have hb8 := (hb.alloc hwsz (.cells #[.int .i64 x, .int .i64 (q - d)] 45)).grown hg6 (by simp; omega) (fun g e => by have := (hown.lt g e).1; omega)
                    go_roundw
                    case rel =>
                      refine ⟨x + 1, O2 ++ [Ch.mk x (q - d)], ?_, ?_, rfl, HS.out, ?_, hb8⟩
                      · omega
                      · omega
                      · rw [HL2.out, HF2.out]; exact hown6
                    case measure => simp [intOf]; omega
                  · have hxe : x = (t + 1) := by omega
                    subst hxe
                    have HS := Lib.hid hO2
                    clear hO2
                    go_wp2_with fail
                    go_roundw
                    case rel =>
                      refine ⟨j + 1, (t + 1), O2, ?_, ?_, .inr ⟨by omega, rfl⟩, ?_, ?_, HS.out, HNOE.out, hown, hb⟩
                      · omega
                      · go_num
                      · omega
                      · omega
                    case measure => simp [intOf]; omega
        · have hpe : p = t + 1 := by
            rcases hp with hp | ⟨_, hp⟩
            · have := (List.getElem?_eq_some_iff.1 hp).1
              have := HEL.out
              omega
            · exact hp
          subst hpe
          obtain ⟨g1, g2⟩ := HOK.out hno
          have hLO : L = O := by rw [g2, hO]
          subst g1 hLO
          clear hno hO g2 hp
          go_wp2_with fail
          go_ret2
          exact ⟨A3, c4, rfl, ⟨Rd.ofOwn hown, rfl⟩, hbb3.trans (hb.mono hz3)⟩
end Go.Proofs.Ytnjloghphkjcoaa
