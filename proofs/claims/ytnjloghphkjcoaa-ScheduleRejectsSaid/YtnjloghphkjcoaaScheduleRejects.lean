/- The walk of ScheduleRejects. -/
import Derived.Test.YtnjloghphkjcoaaScK
import Derived.Test.YtnjloghphkjcoaaScO
namespace Go.Proofs.Ytnjloghphkjcoaa
open Go.RowKit

/-- What the statement asks of the answers. -/
theorem rej_cases (l : List Rw) (s f t : Int) :
    ((vldB l = false ∨ (vldB l = true ∧ monB f = false)) ∧ totV l s f t = (0, 1) ∧ dueV l s f = (0, 1) ∧ difE [] l s f t = 1 ∧ difL [] l s f t = []) ∨
    (vldB l = true ∧ monB f = true ∧ monB t = false ∧ ((totV l s f t).2 == 1) = true ∧ ((dueV l s f).2 != 1) = true ∧ (difE [] l s f t == 1) = true) ∨
    (vldB l = true ∧ monB f = true ∧ monB t = true ∧ ((totV l s f t).2 == 1) = false ∧ ((dueV l s f).2 != 1) = true ∧ (difE [] l s f t == 1) = false) := by
  cases hv : vldB l with
  | false => exact .inl ⟨.inl rfl, totV_bad (.inl hv), dueV_bad (.inl hv), (dif_bad (.inr (.inl hv))).1, (dif_bad (.inr (.inl hv))).2⟩
  | true =>
    cases hf : monB f with
    | false => exact .inl ⟨.inr ⟨rfl, rfl⟩, totV_bad (.inr (.inl hf)), dueV_bad (.inr hf), (dif_bad (.inr (.inr (.inl hf)))).1, (dif_bad (.inr (.inr (.inl hf)))).2⟩
    | true =>
      have hd : ((dueV l s f).2 != 1) = true := by rw [dueV_ok hv hf]; split <;> rfl
      cases ht : monB t with
      | false => exact .inr (.inl ⟨rfl, rfl, rfl, by rw [totV_bad (.inr (.inr ht))]; rfl, hd, by rw [(dif_bad (.inr (.inr (.inr ht)))).1]; rfl⟩)
      | true =>
        refine .inr (.inr ⟨rfl, rfl, rfl, by rw [totV_ok hv hf ht]; split <;> rfl, hd, ?_⟩)
        cases ho : ovN [] l s f (t + 1 - f).toNat with
        | false => rw [(dif_ok rfl hv hf ht ho).1]; rfl
        | true => rw [(dif_ov rfl hv hf ht ho).1]; rfl

set_option maxRecDepth 100000 in
set_option maxHeartbeats 4000000 in
theorem walkScheduleRejects (A : Option Addr) (n c : Nat) (l : List Rw) (s f t : Int) (w : World) (h : Dr w A n l) (hn : n ≤ maxLen) (_ : I64 s) (_ : I64 f) (ht : I64 t) :
    Calls Try.prog 9 #[.slice A n c, .int .i64 s, .int .i64 f, .int .i64 t] w fun e w' => e = .returned (.bool true) ∧ Below w.heap.size w w' := by
  have hrc := rej_cases l s f t
  obtain ⟨⟨t1, t2⟩, htv⟩ : ∃ v, totV l s f t = v := ⟨_, rfl⟩
  obtain ⟨⟨d1, d2⟩, hdv⟩ : ∃ v, dueV l s f = v := ⟨_, rfl⟩
  obtain ⟨er, her⟩ : ∃ er, difE [] l s f t = er := ⟨_, rfl⟩
  obtain ⟨M, hM⟩ : ∃ M, difL [] l s f t = M := ⟨_, rfl⟩
  obtain ⟨v, hv⟩ : ∃ v, vldB l = v := ⟨_, rfl⟩
  rw [htv, hdv, her, hM, hv] at hrc
  have HTV := Lib.hid htv
  have HDV := Lib.hid hdv
  have HER := Lib.hid her
  have HM := Lib.hid hM
  have HV := Lib.hid hv
  have HRC := Lib.hid hrc
  clear htv hdv her hM hv hrc
  go_enter Try.func9, Try.ntmps9
  go_wp2_with fail
  refine (rvalid_any h hn).mono ?_
  rintro e w1 ⟨rfl, hb1⟩
  rw [HV.out]
  have hd1 := h.below hb1
  clear h
  go_wp2_with fail
  refine (total_any s f t hd1 hn ht).mono ?_
  rintro e w2 ⟨rfl, hb2⟩
  rw [HTV.out, pairI_mk]
  have hd2 := hd1.below hb2
  have hbb2 := hb1.trans (hb2.mono hb1.size)
  clear hd1 hb1 hb2
  go_wp2_with fail
  refine (duetop_any s f hd2 hn).mono ?_
  rintro e w3 ⟨rfl, hb3⟩
  rw [HDV.out, pairI_mk]
  have hd3 := hd2.below hb3
  have hbb3 := hbb2.trans (hb3.mono hbb2.size)
  clear hd2 hbb2 hb3
  go_wp2_with fail
  refine (dif_any s f t (Dr.nil w3) hd3 (by unfold maxLen; omega) hn).mono ?_
  intro e w4 hr
  rw [HER.out, HM.out] at hr
  obtain ⟨A4, c4, rfl, -, hb4⟩ := hr
  have hbb4 := hbb3.trans (hb4.mono hbb3.size)
  clear hd3 hbb3 hb4
  rcases HRC.out with ⟨hbad, h1, h2, h3, h4⟩ | ⟨hv, hm, hm2, h1, h2, h3⟩ | ⟨hv, hm, hm2, h1, h2, h3⟩
  · injection h1 with h11 h12
    injection h2 with h21 h22
    subst h11 h12 h21 h22 h3 h4
    rcases hbad with hv | ⟨hv, hm⟩
    · subst hv
      clear HRC HTV HDV HER HM HV
      go_wp2_with fail
      refine (awake_any w4).mono ?_
      rintro e w5 ⟨rfl, hb5⟩
      go_wp2_with fail
      go_ret
      exact ⟨rfl, hbb4.trans (hb5.mono hbb4.size)⟩
    · subst hv
      clear HRC HTV HDV HER HM HV
      go_wp2_with fail
      refine (vmonth_any f _).mono ?_
      rintro e w' ⟨rfl, rfl⟩
      rw [hm]
      go_wp2_with fail
      refine (awake_any w4).mono ?_
      rintro e w5 ⟨rfl, hb5⟩
      go_wp2_with fail
      go_ret
      exact ⟨rfl, hbb4.trans (hb5.mono hbb4.size)⟩
  all_goals
    subst hv
    have k1 : (t2 == 1) = _ := h1
    have k2 : (d2 != 1) = true := h2
    clear h1 h2 HRC HTV HDV HER HM HV
    go_wp2_with fail
    refine (vmonth_any f _).mono ?_
    rintro e w' ⟨rfl, rfl⟩
    rw [hm]
    go_wp2_with fail
    refine (awake_any w4).mono ?_
    rintro e w5 ⟨rfl, hb5⟩
    go_wp2_with (go_at_call 25; refine (vmonth_any t _).mono ?_; rintro e w' ⟨rfl, rfl⟩; rw [hm2])
    go_ret
    exact ⟨rfl, hbb4.trans (hb5.mono hbb4.size)⟩
end Go.Proofs.Ytnjloghphkjcoaa
