/- ClearingPayAgrees: for every input the law returns true, and its arguments read as they did; no condition. -/
import Derived.Test.YtldkblkcbffelaaClearingPayAgrees
import Derived.Test.YtldkblkcbffelaaOpenA
import Derived.Test.YtldkblkcbffelaaRows
import Derived.WalkKit
import Derived.ProofKit
import Derived.OpenShut
import Derived.ChangeOld
import Derived.Below
namespace Go.Proofs.Ytldkblkcbffelaa
open Go.ChangeShapes Go.WideShapes Go.ChangeAt Go.RowKit

theorem ownClearingPayAgrees : ownKnob Try.prog.godebug = none := by kernel_rfl
theorem laidClearingPayAgrees : laidOutB Try.prog = true := by kernel_rfl

set_option maxRecDepth 100000 in
theorem liftedClearingPayAgrees (os : Os) (started : os.Started) (H : Type) (enc : TypeId × Value → H) :
    ReturnsInHanded {} Try.checked os 11 .any (Rows.clearingPayAgreesSpec.pre6 enc Try.prog Try.f11 Rows.clearingPayAgreesRow.domain false) (Rows.clearingPayAgreesSpec.post enc Try.prog Try.f11 false true false false) := by
  refine returnsInHanded_of_change (C := Try.checked) ownClearingPayAgrees started (by kernel_rfl) Try.func11
    (ChangeSpec.witness6 (enc := enc) (C := Try.checked) false ⟨#[], #[.slice none 0 0, .slice none 0 0, .slice none 0 0], []⟩ 8 (by kernel_rfl) (by kernel_rfl) (by kernel_rfl) (by kernel_rfl)) ?_
  intro W base args ds gs before hval0 hW hcnd _
  have hval : ∀ (j : Nat) t v, Try.f11.params[j]? = some t → args[j]? = some v → Value.okWide Try.prog W .any base t v := hval0
  have hW' := hW
  obtain ⟨p, q, hA0, hV, rfl, hfz, hnd⟩ := hW
  have hA : DataW.TrodAll enc Try.prog W 0 (fun _ => true) true Try.f11.params.toList args.toList ds p := hA0
  rw [Try.params11] at hA hval
  obtain ⟨v0, vs0, d0, ds0, p0, q0, hargs, rfl, rfl, h0, r0⟩ := trodAll_cons hA
  obtain ⟨v1, vs1, d1, ds1, p1, q1, rfl, rfl, rfl, h1, r1⟩ := trodAll_cons r0
  obtain ⟨v2, vs2, d2, ds2, p2, q2, rfl, rfl, rfl, h2, r2⟩ := trodAll_cons r1
  obtain ⟨rfl, rfl, rfl⟩ := trodAll_nil r2
  obtain rfl : args = #[v0, v1, v2] := by cases args; simp_all
  obtain ⟨rfl, rfl⟩ := trodVars_none hV
  obtain ⟨A0, n0, c0, rfl⟩ := okWide_slice Try.underlying22 (hval 0 22 v0 rfl rfl)
  have k0 := h0
  have lt0 : ∀ x ∈ p0, x.block < W.heap.size := by obtain ⟨m, hm⟩ := k0; exact DataW.trod_lt m _ _ _ hm
  obtain ⟨l0, rd0, ok0, en0, mx0⟩ : ∃ l, Rd W W.heap.size 4 A0 n0 (flat Rw.cells l) ∧ (∀ r ∈ l, r.ok) ∧ n0 = l.length ∧ n0 ≤ maxLen := by
    obtain ⟨fuel, hf⟩ := h0
    obtain ⟨A, n, c, l, hcs, hrd, hok, hn, hm⟩ := rd_of_trod Try.underlying22 (e := 61) (by kernel_rfl) (by kernel_rfl) (by kernel_rfl) (by kernel_rfl) (by kernel_rfl) hf
    simp [Value.cells] at hcs
    obtain ⟨rfl, rfl, rfl⟩ := hcs
    exact ⟨l, hrd, hok, hn, hm⟩
  obtain ⟨A1, n1, c1, rfl⟩ := okWide_slice Try.underlying22 (hval 1 22 v1 rfl rfl)
  have k1 := h1
  have lt1 : ∀ x ∈ p1, x.block < W.heap.size := by obtain ⟨m, hm⟩ := k1; exact DataW.trod_lt m _ _ _ hm
  obtain ⟨l1, rd1, ok1, en1, mx1⟩ : ∃ l, Rd W W.heap.size 4 A1 n1 (flat Rw.cells l) ∧ (∀ r ∈ l, r.ok) ∧ n1 = l.length ∧ n1 ≤ maxLen := by
    obtain ⟨fuel, hf⟩ := h1
    obtain ⟨A, n, c, l, hcs, hrd, hok, hn, hm⟩ := rd_of_trod Try.underlying22 (e := 61) (by kernel_rfl) (by kernel_rfl) (by kernel_rfl) (by kernel_rfl) (by kernel_rfl) hf
    simp [Value.cells] at hcs
    obtain ⟨rfl, rfl, rfl⟩ := hcs
    exact ⟨l, hrd, hok, hn, hm⟩
  obtain ⟨A2, n2, c2, rfl⟩ := okWide_slice Try.underlying30 (hval 2 30 v2 rfl rfl)
  have k2 := h2
  have lt2 : ∀ x ∈ p2, x.block < W.heap.size := by obtain ⟨m, hm⟩ := k2; exact DataW.trod_lt m _ _ _ hm
  obtain ⟨l2, rd2, ok2, en2, mx2⟩ : ∃ l, Rd W W.heap.size 4 A2 n2 (flat Rw.cells l) ∧ (∀ r ∈ l, r.ok) ∧ n2 = l.length ∧ n2 ≤ maxLen := by
    obtain ⟨fuel, hf⟩ := h2
    obtain ⟨A, n, c, l, hcs, hrd, hok, hn, hm⟩ := rd_of_trod Try.underlying30 (e := 37) (by kernel_rfl) (by kernel_rfl) (by kernel_rfl) (by kernel_rfl) (by kernel_rfl) hf
    simp [Value.cells] at hcs
    obtain ⟨rfl, rfl, rfl⟩ := hcs
    exact ⟨l, hrd, hok, hn, hm⟩
  clear hA0 hval0
  refine (walkClearingPayAgrees A0 n0 c0 l0 A1 n1 c1 l1 A2 n2 c2 l2 W rd0 ok0 en0 mx0 rd1 ok1 en1 mx1 rd2 ok2 en2 mx2).mono fun e W' ⟨he, bel⟩ => ?_
  subst he
  exact ⟨_, rfl, _, _, _, [], _, [], hW', trodAll_mk1 (shut_bool Try.underlying4 _), (trodAll_cons_mk (Below.trod laidClearingPayAgrees (by kernel_rfl) (of_decide_eq_true (by kernel_rfl)) k0 bel lt0) (trodAll_cons_mk (Below.trod laidClearingPayAgrees (by kernel_rfl) (of_decide_eq_true (by kernel_rfl)) k1 bel lt1) (trodAll_cons_mk (Below.trod laidClearingPayAgrees (by kernel_rfl) (of_decide_eq_true (by kernel_rfl)) k2 bel lt2) trodAll_mk0))), rfl, bel.frame _, fun h => by cases h⟩

theorem overClearingPayAgrees : Rows.clearingPayAgreesRow.holds Try.pinned (OpenSpec.ofChange Rows.clearingPayAgreesSpec) :=
  OpenClaim.holds_of_wide 11 Try.f11 rfl rfl rfl rfl rfl rfl rfl ⟨rfl, rfl, rfl, rfl, rfl⟩ rfl rfl rfl rfl rfl (by kernel_rfl) Try.func11 (by kernel_rfl)
    (of_decide_eq_true (by kernel_rfl)) (by unfold Func.isWrapper; first | (rw [if_pos (by decide +kernel)]; kernel_rfl) | (rw [if_neg (by decide +kernel)]; exact ⟨rfl, rfl⟩))
    (fun os started H enc _ => liftedClearingPayAgrees os started H enc)

theorem provedClearingPayAgrees : Rows.ClearingPayAgreesSaid := overClearingPayAgrees
#print axioms provedClearingPayAgrees
end Go.Proofs.Ytldkblkcbffelaa
