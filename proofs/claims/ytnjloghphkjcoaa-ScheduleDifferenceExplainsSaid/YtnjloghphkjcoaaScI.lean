/- Changes in memory; the reference's Difference; Same on changes. -/
import Derived.Test.YtnjloghphkjcoaaScH
import Derived.Deep.DeepCutAuto
namespace Go.Proofs.Ytnjloghphkjcoaa
open Go.RowKit

def Ch.cells (c : Ch) : List Value := [.int .i64 c.m, .int .i64 c.a]
theorem ch_len (x : Ch) : x.cells.length = 2 := rfl
theorem ch_cells {w : World} {B n : Nat} {A : Option Addr} {l : List Ch} (h : Rd w B 2 A n (flat Ch.cells l)) {k : Nat} {x : Ch} (hx : l[k]? = some x) :
    k < n ∧ ∃ b o, A = some ⟨b, o, none⟩ ∧ b < B ∧ w.cell? ⟨b, o + k * 2, none⟩ = some (.int .i64 x.m) ∧ w.cell? ⟨b, o + k * 2 + 1, none⟩ = some (.int .i64 x.a) := by
  obtain ⟨hk, b, o, e, hb, hc⟩ := h.elem ch_len hx (by omega)
  exact ⟨hk, b, o, e, hb, by simpa using hc 0 _ rfl, hc 1 _ rfl⟩
def Dc (w : World) (A : Option Addr) (n : Nat) (l : List Ch) : Prop := Rd w w.heap.size 2 A n (flat Ch.cells l) ∧ l.length = n
theorem Dc.below {w w' : World} {A : Option Addr} {n : Nat} {l : List Ch} (h : Dc w A n l) (hb : Below w.heap.size w w') : Dc w' A n l := ⟨(h.1.below hb).mono hb.size, h.2⟩
theorem info_ch : (Try.prog.info? 45).map (fun i => (i.zero, i.size, i.bytes)) = some (some (.agg #[.int .i64 0, .int .i64 0]), 2, 16) := by kernel_rfl
/-- Changes and an error are returned. -/
def RetDif (w : World) (L : List Ch) (er : Int) (e : Ending) (w' : World) : Prop :=
  ∃ A c, e = .returned (.tuple #[.slice A (List.length L) c, .int .i64 er]) ∧ Dc w' A L.length L ∧ Below w.heap.size w w'
theorem dif_bad {l k : List Rw} {s f t : Int} (h : vldB l = false ∨ vldB k = false ∨ monB f = false ∨ monB t = false) : difE l k s f t = 1 ∧ difL l k s f t = [] := by
  have h1 : difE l k s f t = 1 := by
    unfold difE
    rw [if_pos]
    rcases h with h | h | h | h <;> simp [h]
  exact ⟨h1, by unfold difL; rw [h1]; rfl⟩
theorem dif_ov {l k : List Rw} {s f t : Int} (h1 : vldB l = true) (h2 : vldB k = true) (h3 : monB f = true) (h4 : monB t = true) (h : ovN l k s f (t + 1 - f).toNat = true) : difE l k s f t = 2 ∧ difL l k s f t = [] := by
  have h1 : difE l k s f t = 2 := by
    unfold difE
    rw [if_neg (by simp [h1, h2, h3, h4]), if_pos h]
  exact ⟨h1, by unfold difL; rw [h1]; rfl⟩
theorem dif_ok {l k : List Rw} {s f t : Int} (h1 : vldB l = true) (h2 : vldB k = true) (h3 : monB f = true) (h4 : monB t = true) (h : ovN l k s f (t + 1 - f).toNat = false) : difE l k s f t = 0 ∧ difL l k s f t = chN l k s f (t + 1 - f).toNat := by
  have h1 : difE l k s f t = 0 := by
    unfold difE
    rw [if_neg (by simp [h1, h2, h3, h4]), if_neg (by simp [h])]
  exact ⟨h1, by unfold difL; rw [h1]; rfl⟩
theorem retDif_nil {w w' : World} (er : Int) (hb : Below w.heap.size w w') : RetDif w [] er (.returned (.tuple #[.slice none 0 0, .int .i64 er])) w' := ⟨none, 0, rfl, ⟨Rd.zero _ _ _ _, rfl⟩, hb⟩

set_option maxRecDepth 100000 in
set_option maxHeartbeats 4000000 in
theorem rdif_any {A B : Option Addr} {n c n2 c2 : Nat} {l k : List Rw} {w : World} (s f t : Int) (h : Dr w A n l) (h2 : Dr w B n2 k) (hn : n ≤ maxLen) (hn2 : n2 ≤ maxLen) :
    Calls Try.prog 26 #[.slice A n c, .slice B n2 c2, .int .i64 s, .int .i64 f, .int .i64 t] w (RetDif w (difL l k s f t) (difE l k s f t)) := by
  obtain ⟨i0, hi0, hz0, hz1, hz2⟩ := info_parts info_ch
  by_cases hbad : vldB l = false ∨ vldB k = false ∨ monB f = false ∨ monB t = false
  · obtain ⟨e1, e2⟩ := dif_bad (s := s) hbad
    rw [e1, e2]
    clear e1 e2
    cases hv : vldB l with
    | false =>
      clear hbad
      go_enter Try.func26, Try.ntmps26
      go_wp2_with fail
      refine (rvalid_any h hn).mono ?_
      rintro e w1 ⟨rfl, hb1⟩
      rw [hv]
      go_wp2_with fail
      go_ret2
      exact retDif_nil 1 hb1
    | true =>
      cases hv2 : vldB k with
      | false =>
        clear hbad
        go_enter Try.func26, Try.ntmps26
        go_wp2_with fail
        refine (rvalid_any h hn).mono ?_
        rintro e w1 ⟨rfl, hb1⟩
        rw [hv]
        go_wp2_with fail
        refine (rvalid_any (h2.below hb1) hn2).mono ?_
        rintro e w2 ⟨rfl, hb2⟩
        rw [hv2]
        go_wp2_with fail
        go_ret2
        exact retDif_nil 1 (hb1.trans (hb2.mono hb1.size))
      | true =>
        have hm : monB f = false ∨ (monB f = true ∧ monB t = false) := by
          cases h5 : monB f with
          | false => exact .inl rfl
          | true => exact .inr ⟨rfl, by simpa [hv, hv2, h5] using hbad⟩
        clear hbad
        rcases hm with hm | ⟨hm, hm2⟩
        all_goals
          go_enter Try.func26, Try.ntmps26
          go_wp2_with fail
          refine (rvalid_any h hn).mono ?_
          rintro e w1 ⟨rfl, hb1⟩
          rw [hv]
          go_wp2_with fail
          refine (rvalid_any (h2.below hb1) hn2).mono ?_
          rintro e w2 ⟨rfl, hb2⟩
          rw [hv2]
          go_wp2_with (go_at_call 25; refine (vmonth_any _ _).mono ?_; rintro e w' ⟨rfl, rfl⟩)
          go_ret2
          exact retDif_nil 1 (hb1.trans (hb2.mono hb1.size))
  · have hv : vldB l = true := by cases h5 : vldB l with | false => exact absurd (.inl h5) hbad | true => rfl
    have hv2 : vldB k = true := by cases h5 : vldB k with | false => exact absurd (.inr (.inl h5)) hbad | true => rfl
    have hm : monB f = true := by cases h5 : monB f with | false => exact absurd (.inr (.inr (.inl h5))) hbad | true => rfl
    have hm2 : monB t = true := by cases h5 : monB t with | false => exact absurd (.inr (.inr (.inr h5))) hbad | true => rfl
    clear hbad
    obtain ⟨f0, f1⟩ := (monB_iff f).1 hm
    obtain ⟨t0, t1⟩ := (monB_iff t).1 hm2
    have hA := vldB_amts hv
    have hB := vldB_amts hv2
    have HA := Lib.hid hA
    have HB := Lib.hid hB
    have hov := dif_ov (s := s) hv hv2 hm hm2
    have hok := dif_ok (s := s) hv hv2 hm hm2
    have HOV := Lib.hid hov
    have HOK := Lib.hid hok
    obtain ⟨er, her⟩ : ∃ er, difE l k s f t = er := ⟨_, rfl⟩
    obtain ⟨L, hL⟩ : ∃ L, difL l k s f t = L := ⟨_, rfl⟩
    rw [her, hL] at HOV HOK ⊢
    clear hA hB hov hok her hL
    go_enter Try.func26, Try.ntmps26
    go_wp2_with fail
    refine (rvalid_any h hn).mono ?_
    rintro e w1 ⟨rfl, hb1⟩
    rw [hv]
    go_wp2_with fail
    refine (rvalid_any (h2.below hb1) hn2).mono ?_
    rintro e w2 ⟨rfl, hb2⟩
    rw [hv2]
    have hx := (h.below hb1).below hb2
    have hy := (h2.below hb1).below hb2
    have hbb2 := hb1.trans (hb2.mono hb1.size)
    have hz2w := hbb2.size
    clear h h2 hb1 hb2
    go_wp2_with (go_at_call 25; refine (vmonth_any _ _).mono ?_; rintro e w' ⟨rfl, rfl⟩)
    go_loopw [12, 13] (fun v i wr => ∃ (j : Nat) (O : List Ch), j ≤ (t + 1 - f).toNat ∧ i = .int .i64 (f + (j : Int)) ∧ O = chN l k s f j ∧ ovN l k s f j = false ∧ O.length ≤ j ∧ wr.ownsRow w2.heap.size 45 2 v O.length (flat Ch.cells O) ∧ Below w2.heap.size w2 wr) (fun _ i _ => (t + 1 - intOf i).toNat)
    case atStart => exact ⟨0, [], by omega, by simp, rfl, rfl, by simp, World.ownsRow_nil _ _ _ _, Below.refl _ _⟩
    case round =>
      obtain ⟨j, O, hj, rfl, hO, hno, hOl, hown, hb⟩ := hrel
      have hwsz := hb.size
      obtain ⟨A2, c3, rfl, _, _, _⟩ := own_form hown
      by_cases hlt : f + (j : Int) ≤ t
      · have hj3 : (j : Int) < t + 1 - f := by omega
        have hj2 : j < (t + 1 - f).toNat := Int.lt_toNat.2 hj3
        obtain ⟨hd0, hd1⟩ := dueL_bd HA.out (by omega) s (f + j)
        obtain ⟨hd2, hd3⟩ := dueL_bd HB.out (by omega) s (f + j)
        have hst : chN l k s f (j + 1) = O ++ (if dueL l s (f + j) = dueL k s (f + j) then [] else [⟨f + j, dueL k s (f + j) - dueL l s (f + j)⟩]) := by rw [hO]; rfl
        have hov1 : ovN l k s f (j + 1) = decide (1000000000000 < dueL l s (f + j) ∨ 1000000000000 < dueL k s (f + j)) := by show (ovN l k s f j || _) = _; rw [hno]; rfl
        have hovm : (1000000000000 < dueL l s (f + j) ∨ 1000000000000 < dueL k s (f + j)) → ovN l k s f (t + 1 - f).toNat = true := fun h => ovN_at (n := (t + 1 - f).toNat) (j := j) hj2 h
        obtain ⟨d, hd⟩ : ∃ d, dueL l s (f + j) = d := ⟨_, rfl⟩
        obtain ⟨q, hq⟩ : ∃ q, dueL k s (f + j) = q := ⟨_, rfl⟩
        rw [hd] at hst hov1 hovm hd0 hd1
        rw [hq] at hst hov1 hovm hd2 hd3
        have HD := Lib.hid hd
        have HQ := Lib.hid hq
        have HST := Lib.hid hst
        have HOV1 := Lib.hid hov1
        have HOVM := Lib.hid hovm
        have hxr := hx.below hb
        have hyr := hy.below hb
        clear hd hq hst hov1 hovm hO hno
        by_cases ho1 : 1000000000000 < d
        · have hdd1 : decide (1000000000000 < d) = true := by simpa using ho1
          obtain ⟨g1, g2⟩ := HOV.out (HOVM.out (.inl ho1))
          subst g1 g2
          go_wp2_with fail
          refine (rdue_any s (f + j) hxr hn HA.out).mono ?_
          rintro e w3 ⟨rfl, rfl⟩
          rw [HD.out]
          go_wp2_with fail
          refine (rdue_any s (f + j) hyr hn2 HB.out).mono ?_
          rintro e w3 ⟨rfl, rfl⟩
          rw [HQ.out]
          go_wp2_with fail
          go_ret2
          exact retDif_nil 2 (hbb2.trans (hb.mono hz2w))
        · have hdd1 : decide (1000000000000 < d) = false := by simpa using ho1
          by_cases ho2 : 1000000000000 < q
          · have hdd2 : decide (1000000000000 < q) = true := by simpa using ho2
            obtain ⟨g1, g2⟩ := HOV.out (HOVM.out (.inr ho2))
            subst g1 g2
            go_wp2_with fail
            refine (rdue_any s (f + j) hxr hn HA.out).mono ?_
            rintro e w3 ⟨rfl, rfl⟩
            rw [HD.out]
            go_wp2_with fail
            refine (rdue_any s (f + j) hyr hn2 HB.out).mono ?_
            rintro e w3 ⟨rfl, rfl⟩
            rw [HQ.out]
            go_wp2_with fail
            go_ret2
            exact retDif_nil 2 (hbb2.trans (hb.mono hz2w))
          · have hdd2 : decide (1000000000000 < q) = false := by simpa using ho2
            have hno2 : ovN l k s f (j + 1) = false := by rw [HOV1.out]; simp; omega
            have HNO := Lib.hid hno2
            clear hno2
            by_cases hdq : d = q
            · have hne : (d != q) = false := by simp [hdq]
              have hst2 : O = chN l k s f (j + 1) := by rw [HST.out, if_pos hdq, List.append_nil]
              have HS2 := Lib.hid hst2
              clear hst2 hdq
              go_wp2_with fail
              refine (rdue_any s (f + j) hxr hn HA.out).mono ?_
              rintro e w3 ⟨rfl, rfl⟩
              rw [HD.out]
              go_wp2_with fail
              refine (rdue_any s (f + j) hyr hn2 HB.out).mono ?_
              rintro e w3 ⟨rfl, rfl⟩
              rw [HQ.out]
              go_wp2_with fail
              go_roundw
              case rel => exact ⟨j + 1, O, by omega, by go_num, HS2.out, HNO.out, by omega, hown, hb⟩
              case measure => simp [intOf]; omega
            · have hne : (d != q) = true := by simp [hdq]
              have hst2 : O ++ [Ch.mk (f + j) (q - d)] = chN l k s f (j + 1) := by rw [HST.out, if_neg hdq]
              have hl2 : (O ++ [Ch.mk (f + j) (q - d)]).length = O.length + 1 := by simp
              have hf2 : flat Ch.cells (O ++ [Ch.mk (f + j) (q - d)]) = flat Ch.cells O ++ [.int .i64 (f + j), .int .i64 (q - d)] := by rw [flat_append, flat_one]; rfl
              have HS2 := Lib.hid hst2
              have HL2 := Lib.hid hl2
              have HF2 := Lib.hid hf2
              clear hst2 hdq hl2 hf2
              go_wp2_with fail
              refine (rdue_any s (f + j) hxr hn HA.out).mono ?_
              rintro e w3 ⟨rfl, rfl⟩
              rw [HD.out]
              go_wp2_with fail
              refine (rdue_any s (f + j) hyr hn2 HB.out).mono ?_
              rintro e w3 ⟨rfl, rfl⟩
              rw [HQ.out]
              go_wp2_with (at_builtin; go_loud (refine wpList_append_rd (by rfl) (.tmp 57) (.tmp 63) 39 (by rfl) w2.heap.size 45 i0 _ 2 16 Try.underlying39 hi0 hz0 hz1 hz2 rfl (by omega) (.slice A2 O.length c3) O.length (flat Ch.cells O) (by rfl) (hown.alloc _) (wr.heap.size + 1) (some ⟨wr.heap.size, 0, none⟩) 1 1 [.int .i64 (f + j), .int .i64 (q - d)] (by rfl) (Rd.built (heap_alloc_new wr _) (by omega) rfl) (by intro u hu; simp at hu; rcases hu with rfl | rfl <;> rfl) (by unfold maxLen; omega) (by omega) (by simp; omega) ?_); intro v4 w4 hown4 hg4 hat4
                           obtain ⟨A4, c4, rfl, _, _, _⟩ := own_form hown4)
              have hb4 := (hb.alloc hwsz (.cells #[.int .i64 (f + j), .int .i64 (q - d)] 45)).grown hg4 (by simp; omega) (fun g e => by have := (hown.lt g e).1; omega)
              go_roundw
              case rel =>
                refine ⟨j + 1, O ++ [Ch.mk (f + j) (q - d)], ?_, ?_, HS2.out, HNO.out, ?_, ?_, hb4⟩
                · omega
                · go_num
                · rw [HL2.out]; omega
                · rw [HL2.out, HF2.out]; exact hown4
              case measure => simp [intOf]; omega
      · have hje : j = (t + 1 - f).toNat := by omega
        rw [hje] at hno hO
        obtain ⟨g1, g2⟩ := HOK.out hno
        have hLO : L = O := by rw [g2, hO]
        subst g1 hLO
        clear hje hno hO g2
        go_wp2_with fail
        go_ret2
        exact ⟨A2, c3, rfl, ⟨Rd.ofOwn hown, rfl⟩, hbb2.trans (hb.mono hz2w)⟩
end Go.Proofs.Ytnjloghphkjcoaa
