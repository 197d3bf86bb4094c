/- The walk of TreatyMembers: rules whose members take no more than 2^47 bytes. -/
import Derived.Test.YthncjohekjnjaaaTreatyDays
import Derived.Test.YthncjohekjnjaaaSpChain
namespace Go.Proofs.Ythncjohekjnjaaa
open Go.RowKit

theorem norm_len : ∀ {l : List Sp} {lo : Int}, NormFrom lo l → (l.length : Int) ≤ lenL l
  | [], _, _ => Int.le_refl 0
  | s :: r, lo, ⟨_, h2, _, h4⟩ => by
    have h5 := norm_len h4
    have h6 : lenL (s :: r) = (s.t - s.f) + lenL r := rfl
    have h7 : ((s :: r).length : Int) = (r.length : Int) + 1 := by simp
    omega
theorem nf_bd (S : Int → Bool) : (nf S).length ≤ 73050 := by
  have h1 := norm_len (nf_norm S)
  have h2 := lenL_nf_bd S
  omega
set_option maxRecDepth 100000 in
set_option maxHeartbeats 4000000 in
theorem walkTreatyMembers (A : Option Addr) (n c : Nat) (X : List Rv) (mood state day : Int) (w : World) (h : Rus w w.heap.size A n X) (hml : ∀ x ∈ X, x.r.m.length ≤ 17592186044416) (_ : n ≤ maxLen) (_ : I64 mood) (_ : I64 state) (_ : I64 day) :
    Calls Try.prog 4 #[.slice A n c, .int .i64 mood, .int .i64 state, .int .i64 day] w fun e w' => e = .returned (.bool true) ∧ Below w.heap.size w w' := by
  by_cases hbig : 12 < n
  · have hbig2 : (12 : Int) < (n : Int) := by omega
    go_enter Try.func4, Try.ntmps4
    go_wp2_with fail
    go_ret
    exact ⟨rfl, Below.refl _ _⟩
  have hbig2 : ¬ (12 : Int) < (n : Int) := by omega
  have HM := Lib.hid hml
  clear hml
  go_enter Try.func4, Try.ntmps4
  go_wp2_with fail
  refine (rules_any mood h (by omega) HM.out (by omega)).mono ?_
  rintro e w1 ⟨A1, n1, c1, X1, rfl, h1, hn1, hm1, hb1⟩
  have HM2 : Hid (∀ x ∈ X1, x.r.m.length ≤ 17592186044416) := Lib.hid fun x hx => by have := hm1 x hx; omega
  have hz1 := hb1.size
  clear hm1 h HM
  go_wp2_with fail
  refine (pick_any state 7 _ (by omega)).mono ?_
  rintro e w' ⟨rfl, rfl⟩
  generalize pick state 7 = ps at *
  go_wp2_with fail
  refine (pick_any day 73049 _ (by omega)).mono ?_
  rintro e w' ⟨rfl, rfl⟩
  have hpd := pick_bd day 73049 (by omega)
  generalize pick day 73049 = pd at *
  have hD := Lib.hid ((isD_iff pd).2 hpd)
  go_wp2_with fail
  refine (tmembership_any ps h1 (by omega) HM2.out).mono ?_
  intro e w2 hr
  obtain ⟨m, k, Am, cm, HMN, rfl, hk, hm, hb2⟩ := RetNf.open hr (nf_bd _)
  clear hr
  have h2 := h1.to hb2
  have hz2 := hb2.size
  have hb12 := hb1.trans (hb2.mono hz1)
  have hz12 := hb12.size
  go_wp2_with fail
  refine (awk14_any _).mono ?_
  rintro e w3 ⟨rfl, hb3⟩
  have h3 := h2.to hb3
  have hm3 := hm.below hb3
  have hb13 := hb12.trans (hb3.mono hz12)
  have hz13 := hb13.size
  clear h1 h2 hm hb1 hb2 hb12 hb3
  go_wp2_with fail
  refine (rmembership_any ps h3 (by omega) HM2.out).mono ?_
  intro e w4 hr
  obtain ⟨m4, k4, A4, c4, HMN4, rfl, hk4, hm4, hb4⟩ := RetNf.open hr (nf_bd _)
  clear hr
  have h4 := h3.to hb4
  have hm34 := hm3.below hb4
  have hb14 := hb13.trans (hb4.mono hz13)
  have hz14 := hb14.size
  clear h3 hm3 hb13 hb4
  have HEQ : Hid (m = m4) := Lib.hid (by rw [HMN.out, HMN4.out])
  go_wp2_with fail
  refine (sames_true hm34 hm4 HEQ.out (by omega) (by omega)).mono ?_
  rintro e w5 ⟨rfl, hb5⟩
  have h5 := h4.to hb5
  have hm5 := hm34.below hb5
  have hb15 := hb14.trans (hb5.mono hz14)
  have hz15 := hb15.size
  clear h4 hm34 hm4 hb14 hb5
  have HDS : Hid (dset m pd = memT (X1.map Rv.r) ps pd) := Lib.hid (dset_of HMN hD.out)
  go_wp2_with fail
  refine (rcontains_nf pd hm5 (by omega)).mono ?_
  rintro e w6 ⟨rfl, hb6⟩
  rw [HDS.out]
  have h6 := h5.to hb6
  have hb16 := hb15.trans (hb6.mono hz15)
  go_wp2_with fail
  refine (tmember_any ps pd h6 (by omega) HM2.out).mono ?_
  rintro e w7 ⟨rfl, hb7⟩
  have hb17 := hb16.trans (hb7.mono hb16.size)
  go_wp2_with fail
  go_ret
  exact ⟨ret_bool (by simp), hb17⟩
end Go.Proofs.Ythncjohekjnjaaa
