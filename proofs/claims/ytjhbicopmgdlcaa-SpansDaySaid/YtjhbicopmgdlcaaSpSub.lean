/- The program's Subtract; the law of SpansSame. -/
import Derived.Test.YtjhbicopmgdlcaaSpCompl
import Derived.Test.YtjhbicopmgdlcaaSpItx
namespace Go.Proofs.Ytjhbicopmgdlcaa
open Go.RowKit

theorem nf_nil {S : Int → Bool} (h : ∀ x, isD x = true → S x = false) : nf S = [] :=
  (nf_unique (m := []) (by simp [Norm, NormFrom]) fun x hx => by rw [h x hx]; rfl).symm
theorem of_nf_nil {S : Int → Bool} (h : nf S = []) (x : Int) (hx : isD x = true) : S x = false := by
  have := nf_cov S x
  rw [h, hx, cov_nil, Bool.true_and] at this
  exact this.symm
theorem same_law (la lb : List Sp) : eqB (nf (dset la)) (nf (dset lb)) = (((nf fun x => dset la x && !dset lb x).length : Int) + ((nf fun x => dset lb x && !dset la x).length : Int) == 0) := by
  rw [Bool.eq_iff_iff, eqB_iff, beq_iff_eq]
  constructor
  · intro h
    have hp : ∀ x, isD x = true → dset la x = dset lb x := fun x hx => by
      have h1 := nf_cov (dset la) x
      rw [h, nf_cov, hx, Bool.true_and, Bool.true_and] at h1
      exact h1.symm
    rw [nf_nil fun x hx => by rw [hp x hx, Bool.and_not_self], nf_nil fun x hx => by rw [hp x hx, Bool.and_not_self]]
    rfl
  · intro h
    have h1 : (nf fun x => dset la x && !dset lb x) = [] := List.eq_nil_of_length_eq_zero (by omega)
    have h2 : (nf fun x => dset lb x && !dset la x) = [] := List.eq_nil_of_length_eq_zero (by omega)
    refine nf_congr fun x hx => ?_
    have h3 := of_nf_nil h1 x hx
    have h4 := of_nf_nil h2 x hx
    revert h3 h4
    cases dset la x <;> cases dset lb x <;> simp

set_option maxHeartbeats 2000000 in
theorem sub_any {A B : Option Addr} {n m c d : Nat} {la lb : List Sp} {w : World} (ha : Ds w A n la) (hb : Ds w B m lb) (hn : n ≤ 1000) (hm : m ≤ 1000) :
    Calls Try.prog 33 #[.slice A n c, .slice B m d] w (RetNf w fun x => dset la x && !dset lb x) := by
  have hnb := nf_length_le hb.2
  have hcn := nf_norm (dset lb)
  have hce : (nf fun x => !cov (nf (dset lb)) x).length ≤ (nf (dset lb)).length + 1 := by
    rw [← show compl 0 (nf (dset lb)) = nf fun x => !cov (nf (dset lb)) x from nf_unique (compl_norm hcn) fun x hx => by rw [compl_cov hcn, hx, Bool.true_and]]
    exact compl_length _ 0
  go_enter Try.func33, Try.ntmps33
  go_wp2_with fail
  refine (make_nf hb (by omega)).mono ?_
  rintro e w1 ⟨B1, d1, rfl, hown1, hb1⟩
  have hd1 := Ds.ofOwn hown1 rfl
  have ha1 := ha.below hb1
  have hz1 := hb1.size
  clear ha hb hown1
  go_wp2_with fail
  refine (compl_any hd1 hcn (by omega)).mono ?_
  rintro e w2 ⟨C1, e1, rfl, hown2, hb2⟩
  have hd2 := Ds.ofOwn hown2 rfl
  have ha2 := ha1.below hb2
  have hbb2 := hb1.trans (hb2.mono hz1)
  clear ha1 hd1 hown2 hb1 hb2
  go_wp2_with fail
  refine (intersect_any ha2 hd2 (by omega) (by omega)).mono ?_
  intro e w3 hr
  have hr2 := retNf_congr (T := fun x => dset la x && !dset lb x) (fun x hx => by simp [dset_nf, nf_cov, hx]) hr
  obtain ⟨A3, c3, rfl, hown3, hb3⟩ := hr2
  go_wp2_with fail
  go_ret
  exact ⟨A3, c3, rfl, ownsRow_base hown3 hbb2.size, hbb2.trans (hb3.mono hbb2.size)⟩
end Go.Proofs.Ytjhbicopmgdlcaa
