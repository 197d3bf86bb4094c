/- slices.Backward at rules: its closure's contract for every loop body that keeps what lay below a bound. -/
import Derived.Test.YtghmmcdeejhcjaaGreatTrA
import Derived.RangeFuncBox
import Derived.RangeFuncLeaves
import Derived.Shelf.Abstract
import Derived.WalkKit
import Derived.OwnWalkIn
import Derived.TacticsInMore
import Derived.LoopNIn
import Derived.LoopIn
namespace Go.Proofs.YtghmmcdeejhcjaaGreat
open Go.RowKit Go.Shelf
attribute [local go_sem] Oper.semAt_some

/-- What has come when k rounds are over: the last k, from the last one on. -/
def bwd (X : List Rv) (k : Nat) : List (Nat × Rv) := (List.range k).map fun j => (X.length - 1 - j, X[X.length - 1 - j]?.getD ⟨⟨0, 0, 0, 0, []⟩, none, 0⟩)
theorem bwd_succ (X : List Rv) (k : Nat) : bwd X (k + 1) = bwd X k ++ [(X.length - 1 - k, X[X.length - 1 - k]?.getD ⟨⟨0, 0, 0, 0, []⟩, none, 0⟩)] := by simp [bwd, List.range_succ]
theorem bwd_length (X : List Rv) (k : Nat) : (bwd X k).length = k := by simp [bwd]

/-- What came, without the proof that it is of the list. -/
def strp {X : List Rv} (l : List (Nat × {x : Rv // x ∈ X})) : List (Nat × Rv) := l.map fun p => (p.1, p.2.1)
theorem strp_snoc {X : List Rv} (l : List (Nat × {x : Rv // x ∈ X})) (p : Nat × {x : Rv // x ∈ X}) : strp (l ++ [p]) = strp l ++ [(p.1, p.2.1)] := by simp [strp]
theorem strp_length {X : List Rv} (l : List (Nat × {x : Rv // x ∈ X})) : (strp l).length = l.length := by simp [strp]

set_option maxRecDepth 100000 in
set_option maxHeartbeats 4000000 in
theorem backward1_in (F : Fence) (n : Nat) (h8 : F.fn 30) (hro : F.round = none) (hn : 1 ≤ n) (l Bs n₀ len cap : Nat) (A : Option Addr) (X : List Rv) (hreach : len ≤ 1000000) (J Jx : List (Nat × {x : Rv // x ∈ X}) → World → Prop)
    (hY : ∀ pre x W, J pre W → pre.length < len → YieldAt F (n - 1) Tryz.prog l #[.int .i64 (x.1 : Int), x.2.1.agg] W fun e W' =>
      (e = .returned (.bool true) ∧ J (pre ++ [x]) W' ∧ Below n₀ W W') ∨ (e = .returned (.bool false) ∧ Jx (pre ++ [x]) W'))
    (W : World) (hBs : W.cell? ⟨Bs, 0, none⟩ = some (.slice A len cap)) (hBl : Bs < n₀) (hX : Rus W n₀ A len X) (h0 : J [] W) :
    CallsIn F n Tryz.prog 30 #[.func (.yield l) #[] #[], .pointer (some ⟨Bs, 0, none⟩)] W fun e W' => (∃ v, e = .returned v) ∧
      ((∃ ys, strp ys = bwd X len ∧ J ys W') ∨ (∃ pre, (∃ k, k ≤ len ∧ strp pre = bwd X k) ∧ Jx pre W')) := by
  have HX := hX.2.1
  have hw1 : IntKind.i64.wrap ((len : Int) - 1) = (len : Int) - 1 := IntWalk.i64_in _ (by omega)
  refine callsIn_of_wp Tryz.func30 rfl h8 ?_ hro
  simp only [Tryz.ntmps30, List.size_toArray, List.length_cons, List.length_nil, Nat.reduceAdd, Nat.reduceSub, Array.replicate_succ, Array.replicate_zero, List.push_toArray, List.append_toArray, List.nil_append, List.cons_append]
  gi_wp2
  gi_loopw [3] (fun i wr => ∃ (k : Nat) (pre : List (Nat × {x : Rv // x ∈ X})), k ≤ len ∧ i = .int .i64 ((len : Int) - 1 - (k : Int)) ∧ strp pre = bwd X k ∧ J pre wr ∧ Below n₀ W wr) (fun i _ => (intOf i + 1).toNat)
  case atStart => exact ⟨0, [], by omega, by simp, rfl, h0, Below.refl _ _⟩
  case round =>
    obtain ⟨k, pre, hk, rfl, hpre, hJs, hnx⟩ := hrel
    have hBs2 := (hnx.cell (p := ⟨Bs, 0, none⟩) hBl).trans hBs
    by_cases hlt : k < len
    · obtain ⟨x, hx⟩ : ∃ x, X[len - 1 - k]? = some x := ⟨_, List.getElem?_eq_getElem (by omega)⟩
      obtain ⟨_, b, o, rfl, hbb, c0, c1, c2, c3, c4, hm⟩ := rv_cells (hX.below hnx) hx
      obtain ⟨fn, tmps, assign, body, hy, hR⟩ := hY pre (len - 1 - k, ⟨x, List.mem_of_getElem? hx⟩) wr hJs (by rw [← strp_length, hpre, bwd_length]; exact hlt)
      have hbs : strp (pre ++ [(len - 1 - k, (⟨x, List.mem_of_getElem? hx⟩ : {x : Rv // x ∈ X}))]) = bwd X (k + 1) := by rw [strp_snoc, hpre, bwd_succ, HX, hx]; rfl
      have hi0 : (0 : Int) ≤ (len : Int) - 1 - (k : Int) := by omega
      have hi1 : (len : Int) - 1 - (k : Int) < (len : Int) := by omega
      have hit : ((len : Int) - 1 - (k : Int)).toNat = len - 1 - k := by omega
      have hic : ((len - 1 - k : Nat) : Int) = (len : Int) - 1 - (k : Int) := by omega
      have hw2 : IntKind.i64.wrap ((len : Int) - 1 - (k : Int) - 1) = (len : Int) - 1 - (k : Int) - 1 := IntWalk.i64_in _ (by omega)
      dsimp only [Rv.agg] at hy
      rw [hic] at hy
      gi_wp2
      refine hR.mono ?_
      rintro e W3 (⟨rfl, hJ3, hk3⟩ | ⟨rfl, hJx3⟩)
      · gi_wp2
        go_roundw
        case rel => exact ⟨k + 1, _, by omega, by go_num, hbs, hJ3, hnx.trans hk3⟩
        case measure => simp [intOf]; omega
      · gi_wp2
        refine bodyPost_ret (results_none rfl _ _ _) rfl ?_
        exact ⟨⟨_, rfl⟩, .inr ⟨_, ⟨k + 1, by omega, hbs⟩, hJx3⟩⟩
    · obtain rfl : k = len := by omega
      have hneg : decide ((0 : Int) ≤ (k : Int) - 1 - (k : Int)) = false := decide_eq_false (by omega)
      have hneg2 : ¬ (0 : Int) ≤ (k : Int) - 1 - (k : Int) := by omega
      gi_wp2
      go_end0
      exact ⟨⟨_, rfl⟩, .inl ⟨pre, hpre, hJs⟩⟩
end Go.Proofs.YtghmmcdeejhcjaaGreat
