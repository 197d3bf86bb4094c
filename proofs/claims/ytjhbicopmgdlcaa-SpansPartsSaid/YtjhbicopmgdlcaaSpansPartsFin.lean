/- SpansParts: for every input the law returns true, and its arguments read as they did; no condition. -/
import Derived.Test.YtjhbicopmgdlcaaSpansParts
import Derived.Test.YtjhbicopmgdlcaaRows
import Derived.WalkKit
import Derived.ProofKit
import Derived.OpenShut
import Derived.ChangeOld
import Derived.Below
import Derived.Lib.SmallJoins
namespace Go.Proofs.Ytjhbicopmgdlcaa
open Go.ChangeShapes Go.WideShapes Go.ChangeAt Go.RowKit

theorem ownSpansParts : ownKnob Try.prog.godebug = none := by kernel_rfl
theorem laidSpansParts : laidOutB Try.prog = true := by kernel_rfl

set_option maxRecDepth 100000 in
theorem liftedSpansParts (os : Os) (started : os.Started) (H : Type) (enc : TypeId × Value → H) :
    ReturnsInHanded {} Try.checked os 5 .any (Rows.spansPartsSpec.pre6 enc Try.prog Try.f5 Rows.spansPartsRow.domain false) (Rows.spansPartsSpec.post enc Try.prog Try.f5 false true false false) := by
  refine returnsInHanded_of_change (C := Try.checked) ownSpansParts started (by kernel_rfl) Try.func5
    (ChangeSpec.witness6 (enc := enc) (C := Try.checked) false ⟨#[], #[.slice none 0 0, .agg #[.int .i64 0, .int .i64 0], .int .i64 0, .int .i64 0], []⟩ 8 (by kernel_rfl) (by kernel_rfl) (by kernel_rfl) (by kernel_rfl)) ?_
  intro W base args ds gs before hval0 hW hcnd _
  have hval : ∀ (j : Nat) t v, Try.f5.params[j]? = some t → args[j]? = some v → Value.okWide Try.prog W .any base t v := hval0
  have hW' := hW
  obtain ⟨p, q, hA0, hV, rfl, hfz, hnd⟩ := hW
  have hA : DataW.TrodAll enc Try.prog W 0 (fun _ => true) true Try.f5.params.toList args.toList ds p := hA0
  rw [Try.params5] at hA hval
  obtain ⟨v0, vs0, d0, ds0, p0, q0, hargs, rfl, rfl, h0, r0⟩ := trodAll_cons hA
  obtain ⟨v1, vs1, d1, ds1, p1, q1, rfl, rfl, rfl, h1, r1⟩ := trodAll_cons r0
  obtain ⟨v2, vs2, d2, ds2, p2, q2, rfl, rfl, rfl, h2, r2⟩ := trodAll_cons r1
  obtain ⟨v3, vs3, d3, ds3, p3, q3, rfl, rfl, rfl, h3, r3⟩ := trodAll_cons r2
  obtain ⟨rfl, rfl, rfl⟩ := trodAll_nil r3
  obtain rfl : args = #[v0, v1, v2, v3] := by cases args; simp_all
  obtain ⟨rfl, rfl⟩ := trodVars_none hV
  obtain ⟨A0, n0, c0, rfl⟩ := okWide_slice Try.underlying22 (hval 0 22 v0 rfl rfl)
  have k0 := h0
  have lt0 : ∀ x ∈ p0, x.block < W.heap.size := by obtain ⟨m, hm⟩ := k0; exact DataW.trod_lt m _ _ _ hm
  obtain ⟨l0, rd0, ok0, mx0⟩ : ∃ l, Ds W A0 n0 l ∧ (∀ r ∈ l, r.ok) ∧ n0 ≤ maxLen := by
    obtain ⟨fuel, hf⟩ := h0
    obtain ⟨A, n, c, xs, hcs, hrd, hok, hm⟩ := ints_of_trod 2 Try.underlying22 (e := 36) (by kernel_rfl) (by kernel_rfl) (by kernel_rfl) (by kernel_rfl) (by omega) (by kernel_rfl) hf
    simp [Value.cells] at hcs
    obtain ⟨rfl, rfl, rfl⟩ := hcs
    obtain ⟨l, e, hl, ho⟩ := spans_of _ xs (by have := hrd.1; rwa [ints_length] at this) hok
    rw [e] at hrd
    exact ⟨l, ⟨hrd, hl⟩, ho, hm⟩
  obtain ⟨x1, z1, y1, yy1, m1, rfl, rfl, rfl, g1, gg1⟩ := Joins.open_agg2 Try.underlying36 (by kernel_rfl) (show Try.prog.cellsOf 36 = 2 by kernel_rfl) (hval 1 36 v1 rfl rfl) h1
  obtain ⟨a1, e0, rfl, wa1⟩ := DataW.trod_int Try.underlying3 g1
  obtain ⟨b1, e1, rfl, wb1⟩ := DataW.trod_int Try.underlying3 gg1
  simp at e0 e1
  subst e0 e1
  obtain ⟨a2, rfl, rfl, rfl, w2⟩ := open_int Try.underlying3 (hval 2 3 v2 rfl rfl) h2
  obtain ⟨a3, rfl, rfl, rfl, w3⟩ := open_int Try.underlying3 (hval 3 3 v3 rfl rfl) h3
  clear hA0 hval0
  refine (walkSpansParts A0 n0 c0 l0 a1 b1 a2 a3 W rd0 ok0 mx0 (wf_i64 wa1) (wf_i64 wb1) (wf_i64 w2) (wf_i64 w3)).mono fun e W' ⟨he, bel⟩ => ?_
  subst he
  exact ⟨_, rfl, _, _, _, [], _, [], hW', trodAll_mk1 (shut_bool Try.underlying4 _), (trodAll_cons_mk (Below.trod laidSpansParts (by kernel_rfl) (of_decide_eq_true (by kernel_rfl)) k0 bel lt0) (trodAll_cons_mk (Joins.shut_agg2 (y0 := (.lit (.int .i64 a1), [])) (y1 := (.lit (.int .i64 b1), [])) Try.underlying36 (by kernel_rfl) (show Try.prog.cellsOf 36 = 2 by kernel_rfl) (show DataW.Trod _ _ _ _ _ _ 3 (.int .i64 a1) (.lit (.int .i64 a1)) [] from shut_int Try.underlying3 wa1) (show DataW.Trod _ _ _ _ _ _ 3 (.int .i64 b1) (.lit (.int .i64 b1)) [] from shut_int Try.underlying3 wb1)) (trodAll_cons_mk (shut_int Try.underlying3 w2) (trodAll_cons_mk (shut_int Try.underlying3 w3) trodAll_mk0)))), rfl, bel.frame _, fun h => by cases h⟩

theorem overSpansParts : Rows.spansPartsRow.holds Try.pinned (OpenSpec.ofChange Rows.spansPartsSpec) :=
  OpenClaim.holds_of_wide 5 Try.f5 rfl rfl rfl rfl rfl rfl rfl ⟨rfl, rfl, rfl, rfl, rfl⟩ rfl rfl rfl rfl rfl (by kernel_rfl) Try.func5 (by kernel_rfl)
    (of_decide_eq_true (by kernel_rfl)) (by unfold Func.isWrapper; first | (rw [if_pos (by decide +kernel)]; kernel_rfl) | (rw [if_neg (by decide +kernel)]; exact ⟨rfl, rfl⟩))
    (fun os started H enc _ => liftedSpansParts os started H enc)

theorem provedSpansParts : Rows.SpansPartsSaid := overSpansParts
#print axioms provedSpansParts
end Go.Proofs.Ytjhbicopmgdlcaa
