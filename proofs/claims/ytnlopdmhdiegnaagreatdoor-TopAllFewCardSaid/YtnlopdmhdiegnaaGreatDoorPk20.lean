/- Lemmas (no conditions): TrB, Prl, Prm, Syd -/
import Derived.RangeFuncBox
import Derived.RangeFuncLeaves
import Derived.Shelf.Abstract
import Derived.OwnWalkIn
import Derived.TacticsInMore
import Derived.LoopNIn
import Derived.LoopIn
import Derived.Test.YtnlopdmhdiegnaaGreatDoorPk07
import Derived.Test.YtnlopdmhdiegnaaGreatDoorPk18
set_option linter.unusedSimpArgs false
set_option linter.unusedVariables false
set_option maxRecDepth 100000
set_option maxHeartbeats 64000000
namespace Go.Proofs.YtnlopdmhdiegnaaGreatDoor
open Go.RowKit
section
open Go.RowKit Go.Shelf
attribute [local go_sem] Oper.semAt_some
def bwd (X : List Rv) (k : Nat) : List (Nat × Rv) := (List.range k).map fun j => (X.length - 1 - j, X[X.length - 1 - j]?.getD ⟨⟨0, 0, 0, 0, []⟩, none, 0⟩)
theorem bwd_succ (X : List Rv) (k : Nat) : bwd X (k + 1) = bwd X k ++ [(X.length - 1 - k, X[X.length - 1 - k]?.getD ⟨⟨0, 0, 0, 0, []⟩, none, 0⟩)] := by simp [bwd, List.range_succ]
theorem bwd_length (X : List Rv) (k : Nat) : (bwd X k).length = k := by simp [bwd]
def strp {X : List Rv} (l : List (Nat × {x : Rv // x ∈ X})) : List (Nat × Rv) := l.map fun p => (p.1, p.2.1)
theorem strp_snoc {X : List Rv} (l : List (Nat × {x : Rv // x ∈ X})) (p : Nat × {x : Rv // x ∈ X}) : strp (l ++ [p]) = strp l ++ [(p.1, p.2.1)] := by simp [strp]
theorem strp_length {X : List Rv} (l : List (Nat × {x : Rv // x ∈ X})) : (strp l).length = l.length := by simp [strp]
theorem backward1_in (F : Fence) (n : Nat) (h8 : F.fn 117) (hro : F.round = none) (hn : 1 <= n) (l Bs n₀ len cap : Nat) (A : Option Addr) (X : List Rv) (hreach : len <= 1000000) (J Jx : List (Nat × {x : Rv // x ∈ X}) -> World -> Prop)
  (hY : ∀ pre x W, J pre W -> pre.length < len -> YieldAt F (n - 1) Tryz.prog l #[.int .i64 (x.1 : Int), x.2.1.agg] W fun e W' =>
    (e = .returned (.bool true) /\ J (pre ++ [x]) W' /\ Below n₀ W W') ∨ (e = .returned (.bool false) /\ Jx (pre ++ [x]) W'))
  (W : World) (hBs : W.cell? ⟨Bs, 0, none⟩ = some (.slice A len cap)) (hBl : Bs < n₀) (hX : Rus W n₀ A len X) (h0 : J [] W) :
  CallsIn F n Tryz.prog 117 #[.func (.yield l) #[] #[], .pointer (some ⟨Bs, 0, none⟩)] W fun e W' => (∃ v, e = .returned v) ∧
   ((∃ ys, strp ys = bwd X len /\ J ys W') ∨ (∃ pre, (∃ k, k <= len /\ strp pre = bwd X k) /\ Jx pre W')) := by
 have HX := hX.2.1
 have hw1 : IntKind.i64.wrap ((len : Int) - 1) = (len : Int) - 1 := IntWalk.i64_in _ (by omega)
 refine callsIn_of_wp Tryz.func117 rfl h8 ?_ hro
 simp only [Tryz.ntmps117, List.size_toArray, List.length_cons, List.length_nil, Nat.reduceAdd, Nat.reduceSub, Array.replicate_succ, Array.replicate_zero, List.push_toArray, List.append_toArray, List.nil_append, List.cons_append]
 gi_wp2
 gi_loopw [3] (fun i wr => ∃ (k : Nat) (pre : List (Nat × {x : Rv // x ∈ X})), k <= len /\ i = .int .i64 ((len : Int) - 1 - (k : Int)) /\ strp pre = bwd X k /\ J pre wr /\ Below n₀ W wr) (fun i _ => (intOf i + 1).toNat)
 case atStart => exact ⟨0, [], by omega, by simp, rfl, h0, Below.refl _ _⟩
 case round =>
  obtain ⟨k, pre, hk, rfl, hpre, hJs, hnx⟩ := hrel
  have hBs2 := (hnx.cell (p := ⟨Bs, 0, none⟩) hBl).trans hBs
  by_cases hlt : k < len
  ·obtain ⟨x, hx⟩ : ∃ x, X[len - 1 - k]? = some x := ⟨_, List.getElem?_eq_getElem (by omega)⟩
   obtain ⟨_, b, o, rfl, hbb, c0, c1, c2, c3, c4, hm⟩ := rv_cells (hX.below hnx) hx
   obtain ⟨fn, tmps, assign, body, hy, hR⟩ := hY pre (len - 1 - k, ⟨x, List.mem_of_getElem? hx⟩) wr hJs (by rw [<- strp_length, hpre, bwd_length]; exact hlt)
   have hbs : strp (pre ++ [(len - 1 - k, (⟨x, List.mem_of_getElem? hx⟩ : {x : Rv // x ∈ X}))]) = bwd X (k + 1) := by rw [strp_snoc, hpre, bwd_succ, HX, hx]; rfl
   have hi0 : (0 : Int) <= (len : Int) - 1 - (k : Int) := by omega
   have hi1 : (len : Int) - 1 - (k : Int) < (len : Int) := by omega
   have hit : ((len : Int) - 1 - (k : Int)).toNat = len - 1 - k := by omega
   have hic : ((len - 1 - k : Nat) : Int) = (len : Int) - 1 - (k : Int) := by omega
   have hw2 : IntKind.i64.wrap ((len : Int) - 1 - (k : Int) - 1) = (len : Int) - 1 - (k : Int) - 1 := IntWalk.i64_in _ (by omega)
   dsimp only [Rv.agg] at hy
   rw [hic] at hy
   gi_wp2
   refine hR.mono ?_
   rintro e W3 (⟨rfl, hJ3, hk3⟩ | ⟨rfl, hJx3⟩)
   ·gi_wp2
    go_roundw
    case rel => exact ⟨k + 1, _, by omega, by go_num, hbs, hJ3, hnx.trans hk3⟩
    case measure => simp [intOf]; omega
   ·gi_wp2
    refine bodyPost_ret (results_none rfl _ _ _) rfl ?_
    exact ⟨⟨_, rfl⟩, .inr ⟨_, ⟨k + 1, by omega, hbs⟩, hJx3⟩⟩
  ·obtain rfl : k = len := by omega
   have hneg : decide ((0 : Int) <= (k : Int) - 1 - (k : Int)) = false := decide_eq_false (by omega)
   have hneg2 : ¬ (0 : Int) <= (k : Int) - 1 - (k : Int) := by omega
   gi_wp2
   go_end0
   exact ⟨⟨_, rfl⟩, .inl ⟨pre, hpre, hJs⟩⟩
end
section
structure KV (R V : Nat) (o : Option Nat) (w w' : World) : Prop where
 os : w'.os = w.os
 tape : w'.tape = w.tape
 output : w'.output = w.output
 size : w.heap.size <= w'.heap.size
 block : ∀ i, i < w.heap.size -> i ≠ R -> i ≠ V -> some i ≠ o -> w'.heap[i]? = w.heap[i]?
theorem KV.trans {R V : Nat} {o : Option Nat} {a b c : World} (h : KV R V o a b) (k : KV R V o b c) : KV R V o a c :=
 ⟨k.os.trans h.os, k.tape.trans h.tape, k.output.trans h.output, Nat.le_trans h.size k.size, fun i hi h1 h2 h3 => (k.block i (Nat.lt_of_lt_of_le hi h.size) h1 h2 h3).trans (h.block i hi h1 h2 h3)⟩
theorem KV.kp {R V : Nat} {o : Option Nat} {w w' : World} (h : Kp R w w') : KV R V o w w' :=
 ⟨h.os, h.tape, h.output, h.size, fun i hi h1 _ _ => h.block i hi (fun e => h1 (by injection e))⟩
theorem KV.own {R V : Nat} {o : Option Nat} {w w' : World} (h : w.grownBy w' o) : KV R V o w w' :=
 ⟨h.os, h.tape, h.output, h.size, fun i hi _ _ h3 => h.block i hi h3⟩
theorem KV.set {R V : Nat} {o : Option Nat} (w : World) (j : Nat) (v : Value) : KV R V o w (w.setCell ⟨V, j, none⟩ v) :=
 ⟨rfl, rfl, rfl, by simp [World.setCell], fun k _ _ hk _ => Below.heap_setCell _ _ _ _ hk⟩
abbrev vRow (f m u : Int) (s3 s4 s5 s6 s7 : Value) : Obj := .cells #[.int .i64 f, .int .i64 m, .int .i64 u, s3, s4, s5, s6, s7] 87
theorem info_vcr : (Tryz.prog.info? 137).map (fun i => (i.zero, i.size, i.bytes)) = some (some (.agg #[.int .i64 0, .int .i64 0]), 2, 16) := by kernel_rfl
theorem info_vgr : (Tryz.prog.info? 146).map (fun i => (i.zero, i.size, i.bytes)) = some (some (.agg #[.int .i64 0, .int .i64 0, .int .i64 0, .int .i64 0, .int .i64 0, .string ⟨#[]⟩, .slice none 0 0, .int .i64 0, .int .i64 0, .int .i64 0, .int .i64 0, .string ⟨#[]⟩, .slice none 0 0]), 13, 152) := by kernel_rfl
theorem kept_own {R lo e sz n : Nat} {w w' : World} {v : Value} {xs : List Value} (h : w.ownsRow lo e sz v n xs) (hk : Kp R w w') (hR : R < lo) : w'.ownsRow lo e sz v n xs :=
 h.kept hk (.inr fun e => by have := (h.lt R e).1; omega)
theorem put_end {R V lo j T sz n : Nat} {L : List Tk} {w a b : World} {v u : Value} {xs : List Value} (hP : Prs w R L) (hRV : R < V) (hVlo : V < lo) (hlo : lo <= w.heap.size) (ha : Below w.heap.size w a) (ho : a.ownsRow lo T sz v n xs) (hg : a.grownBy b v.ownBlock) :
  Prs (b.setCell ⟨V, j, none⟩ u) R L /\ KV R V v.ownBlock w (b.setCell ⟨V, j, none⟩ u) /\ b.heap[V]? = w.heap[V]? := by
 have hz := ha.size
 have h1 : Below lo w b := (ha.mono hlo).trans ((Below.refl lo a).grown hg (Nat.le_trans hlo hz) (fun g e => (ho.lt g e).1))
 have h0 : Below (R + 1) w (b.setCell ⟨V, j, none⟩ u) := (h1.mono (by omega)).setCell (p := ⟨V, j, none⟩) (by show R + 1 <= V; omega) u
 exact ⟨hP.low h0, (KV.kp (Kp.of ha)).trans ((KV.own hg).trans (KV.set b j u)), h1.block V hVlo⟩
theorem clause_credit {R V lo n0 c0 : Nat} {x y z : Tk} {L : List Tk} {w : World} {f m u : Int} {A0 : Option Addr} {xs : List Value} {s4 s5 s6 s7 : Value} (h : Prs w R (x :: y :: z :: L)) (hx : isB x ⟨#[99, 114, 101, 100, 105, 116]⟩ = true) (hyk : y.k = 1) (hyt : y.t = ⟨#[118, 111, 108, 117, 110, 116, 97, 114, 121]⟩) (hz0 : isB z ⟨#[108, 105, 109, 105, 116]⟩ = false) (hz : isB z ⟨#[59]⟩ = true)
  (hV : w.heap[V]? = some (vRow f m u (.slice A0 n0 c0) s4 s5 s6 s7)) (hRV : R < V) (hVlo : V < lo) (hlo : lo <= w.heap.size) (ho : w.ownsRow lo 137 2 (.slice A0 n0 c0) n0 xs) (hn : n0 <= 30) :
  Calls Tryz.prog 51 #[.pointer (some ⟨R, 0, none⟩), .pointer (some ⟨V, 0, none⟩)] w fun e w' => e = .returned (.bool true) /\ Prs w' R L /\ ∃ A c, w'.heap[V]? = some (vRow f m u (.slice A (n0 + 1) c) s4 s5 s6 s7) /\ w'.ownsRow lo 137 2 (.slice A (n0 + 1) c) (n0 + 1) (xs ++ [.int .i64 6, .int .i64 0]) /\ KV R V (Value.slice A0 n0 c0).ownBlock w w' := by
 have hlt := h.lt
 obtain ⟨i0, hi0, hzz0, hzz1, hzz2⟩ := info_parts info_vcr
 go_enter Tryz.func51, Tryz.ntmps51
 go_wp2_with fail
 refine (accept_yes h hx).mono ?_
 rintro e w1 ⟨rfl, hP1, k1⟩
 go_wp2_with fail
 refine (kinds_ok w1).mono ?_
 rintro e w2 ⟨g, n, rfl, hT, b2⟩
 rw [<- hyt] at hT
 go_wp2_with fail
 refine (word_ok (hP1.to b2) hyk hT).mono ?_
 rintro e w3 ⟨rfl, hP3, k3⟩
 go_upto_region 4 with (fail)
 obtain ⟨w4, hw4, b4, r4⟩ := box_new w3 (.cells #[.int .i64 6, .int .i64 0] 137)
 rw [hw4]
 clear hw4
 go_wp2_with fail
 refine (accept_no (hP3.to b4) hz0).mono ?_
 rintro e w5 ⟨rfl, b5⟩
 have k15 : Kp R w w5 := k1.trans ((Kp.of b2).trans (k3.trans ((Kp.of b4).trans (Kp.of b5))))
 have hP5 := (hP3.to b4).to b5
 have z15 := k15.size
 have l4 := (gis r4).1
 have rX := (b5.block _ l4).trans r4
 have lX := (gis rX).1
 have rV := (k15.block V (by omega) (fun e => by injection e with e; omega)).trans hV
 have ho5 := kept_own ho k15 (by omega)
 have lV := (gis rV).1
 have y0 : w5.cell? ⟨w3.heap.size, 0, none⟩ = some (.int .i64 6) := by rw [cell_of_row _ _ _ _ _ _ rX]; rfl
 have y1 : w5.cell? ⟨w3.heap.size, 1, none⟩ = some (.int .i64 0) := by rw [cell_of_row _ _ _ _ _ _ rX]; rfl
 have c3 : w5.cell? ⟨V, 3, none⟩ = some (.slice A0 n0 c0) := by rw [cell_of_row _ _ _ _ _ _ rV]; rfl
 have z03 : w.heap.size <= w3.heap.size := Nat.le_trans k1.size (Nat.le_trans b2.size k3.size)
 clear r4 rX hT hP1 hP3 b2 b4 h k1 k3
 generalize w3.heap.size = X at *
 go_upto_region 6 with (fail)
 go_region_law (first
  | (refine step_append_rd (by rfl) (.tmp 26) (.tmp 28) 81 (by rfl) lo 137 i0 _ 2 16 Tryz.underlying81 hi0 hzz0 hzz1 hzz2 rfl (by omega) (.slice A0 n0 c0) n0 xs (by rfl) (by first | exact ho5.alloc _ | exact (ho5.alloc _).drew)
      (w5.heap.size + 1) (some ⟨w5.heap.size, 0, none⟩) 1 1 [.int .i64 6, .int .i64 0] (by rfl) (Rd.built (cs := #[.int .i64 6, .int .i64 0]) (heap_alloc_new w5 _) (by omega) rfl) (by intro u hu; simp at hu; rcases hu with rfl | rfl <;> rfl) (by unfold maxLen; omega) (by omega) (by simp; omega) ?_
     intro v6 w6 hown6 hg6 hat6
     obtain ⟨A6, c6, rfl, _, _, _⟩ := own_form hown6
     first
      | have hend := fun u => put_end (j := 3) (u := u) hP5 hRV hVlo (by omega) ((Below.refl w5.heap.size w5).alloc (Nat.le_refl _) (.cells #[.int .i64 6, .int .i64 0] 137)) (ho5.alloc _) hg6
      | have hend := fun u => put_end (j := 3) (u := u) hP5 hRV hVlo (by omega) ((Below.refl w5.heap.size w5).alloc (Nat.le_refl _) (.cells #[.int .i64 6, .int .i64 0] 137)).drew (ho5.alloc _).drew hg6
     have rV6 := (hend (.int .i64 0)).2.2.trans rV
     have z6 := frozen_of_row w6 V 3 _ _ rV6
     have q6 : w6.cell? ⟨V, 3, none⟩ = some (.slice A0 n0 c0) := by rw [cell_of_row _ _ _ _ _ _ rV6]; rfl))
 all_goals go_wp2_with fail
 all_goals
  obtain ⟨hP7, kv7, _⟩ := hend (.slice A6 (n0 + 1) c6)
  refine (expect_yes hP7 hz).mono ?_
  rintro e w8 ⟨rfl, hP8, k8⟩
  have r7 := heap_setCell_same w6 V 3 _ _ (.slice A6 (n0 + 1) c6) rV6
  have r8 := (k8.block V (gis r7).1 (fun e => by injection e with e; omega)).trans r7
  have o7 := ownsRow_setCell_ne hown6 (p := ⟨V, 3, none⟩) (fun e => by have := (hown6.lt V e).1; omega) (.slice A6 (n0 + 1) c6)
  have o8 := kept_own o7 k8 (by omega)
  go_wp2_with fail
  go_ret
  exact ⟨rfl, hP8, A6, c6, r8, o8, ((KV.kp k15).trans kv7).trans (KV.kp k8)⟩
end
section
def setLP (cur : Array Value) : Nat -> List Value -> Array Value
 | _, [] => cur
 | o, v :: r => setLP (cur.setIfInBounds o v) (o + 1) r
theorem setCells_midP (g : Nat) : ∀ (vs : List Value) (o : Nat) (w : World) (cur : Array Value) (t : TypeId), w.heap[g]? = some (.cells cur t (0, 0)) →
  (w.setCells g o vs).heap[g]? = some (.cells (setLP cur o vs) t (0, 0)) /\ w.grownBy (w.setCells g o vs) (some g) /\ (w.setCells g o vs).heap.size = w.heap.size
 | [], _, w, _, _, hg => ⟨hg, Kp.refl g w, rfl⟩
 | v :: r, o, w, cur, t, hg => by
  obtain ⟨h1, h2, h3⟩ := setCells_midP g r (o + 1) (w.setCell ⟨g, o, none⟩ v) _ t (heap_setCell_same w g o cur t v hg)
  exact ⟨h1, (Kp.set w o v).trans h2, h3.trans (by simp [World.setCell])⟩
theorem wpList_store_subP {P : Program} {ops : Array Oper} {rest : List Oper} {op : Oper} {a : Act} {w : World} {Q : Exit -> Act -> World -> Prop} (hgd : op.guard = none) (ty : TypeId) (x y : Operand) (ho : op.op = .store ty x y)
  (g o : Nat) (cur : Array Value) (t : TypeId) (vs : List Value) (hx : a.eval x = .pointer (some ⟨g, o, none⟩)) (hy : a.eval y = .agg vs.toArray) (hg : w.heap[g]? = some (.cells cur t (0, 0)))
  (hl : o + vs.length <= cur.size) (hi : (P.info? ty).map (·.size) = some vs.length) (h1 : ∀ v ∈ vs, v.oneCell' = true)
  (h : ∀ W' : World, W'.heap[g]? = some (.cells (setLP cur o vs) t (0, 0)) -> w.grownBy W' (some g) -> W'.heap.size = w.heap.size -> wpList P ops Q rest (a.put op.dst undef) W') : wpList P ops Q (op :: rest) a w := by
 refine wpList_store_mid hgd ty x y ho g o vs.toArray hx hy ?_ (by simpa using hi) (all_oneCell_toArray h1) ?_
 ·intro j hj
  have hj' : o + j < cur.size := by simp at hj; omega
  refine ⟨?_, frozen_of_row w g (o + j) _ _ hg⟩
  rw [cell_of_row w g (o + j) _ _ _ hg]
  simp [hj']
 ·obtain ⟨e1, e2, e3⟩ := setCells_midP g vs o w cur t hg
  have e : w.setCells g o vs.toArray.toList = w.setCells g o vs := by simp
  rw [e]
  exact h _ e1 e2 e3
def Sx.cells (x : Sx) : List Value := [.int .i64 x.o, .int .i64 x.n, .int .i64 x.d, .int .i64 x.m, .string x.s, .slice x.A x.k x.c]
theorem sx_one (x : Sx) : ∀ v ∈ x.cells, v.oneCell' = true := by
 intro v hv
 simp only [Sx.cells, List.mem_cons, List.not_mem_nil, or_false] at hv
 rcases hv with rfl | rfl | rfl | rfl | rfl | rfl <;> rfl
def grCells (X : Sx) (v : Lf) : List Value := .int .i64 1 :: (X.cells ++ v.cells)
theorem gr_one (X : Sx) (v : Lf) : ∀ u ∈ grCells X v, u.oneCell' = true := by
 intro u hu
 rcases List.mem_cons.1 hu with rfl | hu
 ·rfl
 ·rcases List.mem_append.1 hu with hu | hu
  ·exact sx_one _ u hu
  ·simp only [Lf.cells, List.mem_cons, List.not_mem_nil, or_false] at hu
   rcases hu with rfl | rfl | rfl | rfl | rfl | rfl <;> rfl
theorem TrX.kp {g : Nat} {t : Tr} {X : Sx} {lo : Nat} {w w' : World} (h : TrX t X lo w) (hk : w.grownBy w' (some g)) (hg : g < lo) : TrX t X lo w' :=
 h.keep fun i hi hl => hk.block i hl (fun e => by injection e with e; omega)
theorem lf_oneP (x : Lf) : ∀ v ∈ x.cells, v.oneCell' = true := by
 intro v hv
 simp only [Lf.cells, List.mem_cons, List.not_mem_nil, or_false] at hv
 rcases hv with rfl | rfl | rfl | rfl | rfl | rfl <;> rfl
theorem Prs.own {w w' : World} {R X : Nat} {L : List Tk} (h : Prs w R L) (hk : w.grownBy w' (some X)) (hX : R < X) : Prs w' R L :=
 h.low ⟨hk.os, hk.tape, hk.output, hk.size, fun i hi => hk.block i (by have := h.lt; omega) (fun e => by injection e with e; omega)⟩
theorem Kp.own {R X : Nat} {w a b : World} (h : Kp R w a) (hk : a.grownBy b (some X)) (hX : w.heap.size <= X) : Kp R w b :=
 ⟨hk.os.trans h.os, hk.tape.trans h.tape, hk.output.trans h.output, Nat.le_trans h.size hk.size, fun i hi hne => (hk.block i (by have := h.size; omega) (fun e => by injection e with e; omega)).trans (h.block i hi hne)⟩
abbrev gBox (o n d m : Int) (s : ByteArray) (A : Option Addr) (k c : Nat) (o2 n2 d2 m2 : Int) (s2 : ByteArray) : Obj := .cells #[.int .i64 1, .int .i64 o, .int .i64 n, .int .i64 d, .int .i64 m, .string s, .slice A k c, .int .i64 o2, .int .i64 n2, .int .i64 d2, .int .i64 m2, .string s2, .slice none 0 0] 146
theorem clause_grant {R V lo n0 c0 : Nat} {x y z q s : Tk} {L1 L2 L : List Tk} {t : Tr} {v : Lf} {w : World} {f m u : Int} {A0 : Option Addr} {xs : List Value} {s3 s4 s5 s7 : Value} (h : Prs w R (x :: y :: z :: L1)) (hx0 : NoB x [[99, 114, 101, 100, 105, 116], [105, 110, 100, 101, 120], [108, 101, 116]]) (hx : isB x ⟨#[103, 114, 97, 110, 116]⟩ = true) (hyk : y.k = 1) (hyt : y.t = ⟨#[111, 108, 100]⟩) (hz : isB z ⟨#[105, 102]⟩ = true)
  (hE1 : ∀ u, Prs u R L1 -> Calls Tryz.prog 100 #[.pointer (some ⟨R, 0, none⟩)] u (RetT R (q :: L2) t u)) (hq : isB q ⟨#[112, 97, 121]⟩ = true)
  (hE2 : ∀ u, Prs u R L2 -> Calls Tryz.prog 100 #[.pointer (some ⟨R, 0, none⟩)] u (RetT R (s :: L) (.leaf v) u)) (hs' : isB s ⟨#[59]⟩ = true)
  (hV : w.heap[V]? = some (vRow f m u s3 s4 s5 (.slice A0 n0 c0) s7)) (hRV : R < V) (hVlo : V < lo) (hlo : lo <= w.heap.size) (ho : w.ownsRow lo 146 13 (.slice A0 n0 c0) n0 xs) (hn : n0 <= 30) (hA0 : (Value.slice A0 n0 c0).ownBlock = none) :
  Calls Tryz.prog 51 #[.pointer (some ⟨R, 0, none⟩), .pointer (some ⟨V, 0, none⟩)] w fun e w' => e = .returned (.bool true) /\ Prs w' R L /\ ∃ A c X, w'.heap[V]? = some (vRow f m u s3 s4 s5 (.slice A (n0 + 1) c) s7) /\ w'.ownsRow lo 146 13 (.slice A (n0 + 1) c) (n0 + 1) (xs ++ grCells X v) /\ TrX t X lo w' /\ KV R V (Value.slice A0 n0 c0).ownBlock w w' := by
 have hlt := h.lt
 have n1 := hx0 [99, 114, 101, 100, 105, 116] (by decide)
 have n2 := hx0 [105, 110, 100, 101, 120] (by decide)
 have n3 := hx0 [108, 101, 116] (by decide)
 obtain ⟨i0, hi0, hzz0, hzz1, hzz2⟩ := info_parts info_vgr
 clear hx0
 go_enter Tryz.func51, Tryz.ntmps51
 go_wp2_with fail
 refine (accept_no h n1).mono ?_
 rintro e w1 ⟨rfl, b1⟩
 go_wp2_with fail
 refine (accept_no (h.to b1) n2).mono ?_
 rintro e w2 ⟨rfl, b2⟩
 have hb2 := b1.trans (b2.mono b1.size)
 go_wp2_with fail
 refine (accept_no (h.to hb2) n3).mono ?_
 rintro e w3 ⟨rfl, b3⟩
 have hb3 := hb2.trans (b3.mono hb2.size)
 go_wp2_with fail
 refine (accept_yes (h.to hb3) hx).mono ?_
 rintro e w4 ⟨rfl, hP4, k4⟩
 have k14 := (Kp.of (R := R) hb3).trans k4
 clear n1 n2 n3 b1 b2 b3 hb2 hb3 k4 h
 go_wp2_with fail
 refine (benefits_ok w4).mono ?_
 rintro e w5 ⟨g, n, rfl, hT, b5⟩
 rw [<- hyt] at hT
 go_wp2_with fail
 refine (word_ok (hP4.to b5) hyk hT).mono ?_
 rintro e w6 ⟨rfl, hP6, k6⟩
 have k16 : Kp R w w6 := k14.trans ((Kp.of b5).trans k6)
 clear hT hP4 b5 k6 k14
 go_upto_region 18 with (fail)
 obtain ⟨w7, hw7, b7, r7⟩ := box_new w6 (gBox 0 0 0 0 ⟨#[]⟩ none 0 0 0 0 0 0 ⟨#[]⟩)
 dsimp only [gBox] at hw7
 rw [hw7]
 clear hw7
 have hP7 := hP6.to b7
 have k17 : Kp R w w7 := k16.trans (Kp.of b7)
 have zw6 := k16.size
 generalize w6.heap.size = X at *
 have lX := (gis r7).1
 clear b7 hP6 k16
 go_wp2_with fail
 refine (expect_yes hP7 hz).mono ?_
 rintro e w8 ⟨rfl, hP8, k8⟩
 have r8 := (k8.block X lX (fun e => by injection e with e; omega)).trans r7
 have k18 := k17.trans k8
 clear k8 k17 hP7 r7 lX
 have lX := (gis r8).1
 go_wp2_with fail
 refine (hE1 w8 hP8).mono ?_
 rintro e w9 ⟨T, rfl, hP9, k9, hT9⟩
 have r9 := (k9.block X lX (fun e => by injection e with e; omega)).trans r8
 have k19 := k18.trans k9
 have hTlo : TrX t T (X + 1) w9 := hT9.mono (by omega)
 clear hT9 k18 r8 lX hE1
 obtain ⟨xo, xn, xd, xm, xs', xA, xk, xc⟩ := T
 dsimp only [Sx.agg]
 go_upto_region 20 with (refine wpList_store_subP (by rfl) 144 (.tmp 83) (.tmp 82) (by rfl) X 1 _ _ (Sx.cells ⟨xo, xn, xd, xm, xs', xA, xk, xc⟩) (by rfl) (by rfl) r9 (by simp [Sx.cells]) (by kernel_rfl) (sx_one _) ?_; intro w10 hw hg hs)
 have r10 : w10.heap[X]? = some (gBox xo xn xd xm xs' xA xk xc 0 0 0 0 ⟨#[]⟩) := hw
 have hP10 := hP9.own hg (by omega)
 have z19 := k19.size
 have hT10 := hTlo.kp hg (Nat.lt_succ_self X)
 have k110 : Kp R w w10 := k19.own hg zw6
 have lX := (gis r10).1
 clear hw hg hs r9 hP9 hTlo k19
 go_wp2_with fail
 refine (expect_yes hP10 hq).mono ?_
 rintro e w11 ⟨rfl, hP11, k11⟩
 have r11 := (k11.block X lX (fun e => by injection e with e; omega)).trans r10
 have hT11 := hT10.keep (fun i hi hl => k11.block i hl (fun e => by injection e with e; omega))
 have k111 := k110.trans k11
 clear k11 k110 hP10 r10 lX hT10
 have lX := (gis r11).1
 go_wp2_with fail
 refine (hE2 w11 hP11).mono ?_
 rintro e w12 ⟨Y, rfl, hP12, k12, hY⟩
 have r12 := (k12.block X lX (fun e => by injection e with e; omega)).trans r11
 have hT12 := hT11.keep (fun i hi hl => k12.block i hl (fun e => by injection e with e; omega))
 have k112 := k111.trans k12
 subst hY
 clear k111 r11 lX hE2 hT11 k12
 obtain ⟨po, pn, pd, pm, ps⟩ := v
 dsimp only [Sx.agg]
 go_upto_region 22 with (refine wpList_store_subP (by rfl) 144 (.tmp 88) (.tmp 87) (by rfl) X 7 _ _ (Lf.cells ⟨po, pn, pd, pm, ps⟩) (by rfl) (by rfl) r12 (by simp [Lf.cells]) (by kernel_rfl) (lf_oneP _) ?_; intro w13 hw hg hs)
 have r13 : w13.heap[X]? = some (gBox xo xn xd xm xs' xA xk xc po pn pd pm ps) := hw
 have hP13 := hP12.own hg (by omega)
 have hT13 := hT12.kp hg (Nat.lt_succ_self X)
 have k113 : Kp R w w13 := k112.own hg zw6
 have z113 := k113.size
 clear hw hg hs r12 hP12 hT12 k112
 have rV := (k113.block V (by omega) (fun e => by injection e with e; omega)).trans hV
 have ho5 := kept_own ho k113 (by omega)
 have lV := (gis rV).1
 have lX := (gis r13).1
 have c6 : w13.cell? ⟨V, 6, none⟩ = some (.slice A0 n0 c0) := by rw [cell_of_row _ _ _ _ _ _ rV]; rfl
 have y0 : w13.cell? ⟨X, 0, none⟩ = some (.int .i64 1) := by rw [cell_of_row _ _ _ _ _ _ r13]; rfl
 have y1 : w13.cell? ⟨X, 1, none⟩ = some (.int .i64 xo) := by rw [cell_of_row _ _ _ _ _ _ r13]; rfl
 have y2 : w13.cell? ⟨X, 2, none⟩ = some (.int .i64 xn) := by rw [cell_of_row _ _ _ _ _ _ r13]; rfl
 have y3 : w13.cell? ⟨X, 3, none⟩ = some (.int .i64 xd) := by rw [cell_of_row _ _ _ _ _ _ r13]; rfl
 have y4 : w13.cell? ⟨X, 4, none⟩ = some (.int .i64 xm) := by rw [cell_of_row _ _ _ _ _ _ r13]; rfl
 have y5 : w13.cell? ⟨X, 5, none⟩ = some (.string xs') := by rw [cell_of_row _ _ _ _ _ _ r13]; rfl
 have y6 : w13.cell? ⟨X, 6, none⟩ = some (.slice xA xk xc) := by rw [cell_of_row _ _ _ _ _ _ r13]; rfl
 have y7 : w13.cell? ⟨X, 7, none⟩ = some (.int .i64 po) := by rw [cell_of_row _ _ _ _ _ _ r13]; rfl
 have y8 : w13.cell? ⟨X, 8, none⟩ = some (.int .i64 pn) := by rw [cell_of_row _ _ _ _ _ _ r13]; rfl
 have y9 : w13.cell? ⟨X, 9, none⟩ = some (.int .i64 pd) := by rw [cell_of_row _ _ _ _ _ _ r13]; rfl
 have y10 : w13.cell? ⟨X, 10, none⟩ = some (.int .i64 pm) := by rw [cell_of_row _ _ _ _ _ _ r13]; rfl
 have y11 : w13.cell? ⟨X, 11, none⟩ = some (.string ps) := by rw [cell_of_row _ _ _ _ _ _ r13]; rfl
 have y12 : w13.cell? ⟨X, 12, none⟩ = some (.slice none 0 0) := by rw [cell_of_row _ _ _ _ _ _ r13]; rfl
 obtain ⟨go, hgo⟩ : ∃ o, o = gBox xo xn xd xm xs' xA xk xc po pn pd pm ps := ⟨_, rfl⟩
 go_region_law (first
  | (refine step_append_rd (by rfl) (.tmp 93) (.tmp 95) 84 (by rfl) lo 146 i0 _ 13 152 Tryz.underlying84 hi0 hzz0 hzz1 hzz2 rfl (by omega) (.slice A0 n0 c0) n0 xs (by rfl) (by first | exact ho5.alloc _ | exact (ho5.alloc _).drew)
      (w13.heap.size + 1) (some ⟨w13.heap.size, 0, none⟩) 1 1 (grCells ⟨xo, xn, xd, xm, xs', xA, xk, xc⟩ ⟨po, pn, pd, pm, ps⟩) (by rfl) (Rd.built (cs := (grCells ⟨xo, xn, xd, xm, xs', xA, xk, xc⟩ ⟨po, pn, pd, pm, ps⟩).toArray) (heap_alloc_new w13 _) (by omega) rfl) (gr_one _ _) (by unfold maxLen; omega) (by omega) (by simp; omega) ?_
     intro v6 w14 hown6 hg6 hat6
     obtain ⟨A6, c6', rfl, _, _, _⟩ := own_form hown6
     first
      | have hend := fun u => put_end (j := 6) (u := u) hP13 hRV hVlo (by omega) ((Below.refl w13.heap.size w13).alloc (Nat.le_refl _) (gBox xo xn xd xm xs' xA xk xc po pn pd pm ps)) (ho5.alloc _) hg6
      | have hend := fun u => put_end (j := 6) (u := u) hP13 hRV hVlo (by omega) ((Below.refl w13.heap.size w13).alloc (Nat.le_refl _) (gBox xo xn xd xm xs' xA xk xc po pn pd pm ps)).drew (ho5.alloc _).drew hg6
     have rV6 := (hend (.int .i64 0)).2.2.trans rV
     have hT14 : TrX t ⟨xo, xn, xd, xm, xs', xA, xk, xc⟩ (X + 1) w14 := hT13.keep (fun i hi hl => by
      have := hg6.block i (by simp; omega) (fun e => by rw [hA0] at e; cases e)
      rw [this]
      exact (Go.MapKept.heap_alloc w13 (gBox xo xn xd xm xs' xA xk xc po pn pd pm ps)).2 i (by omega))
     have z6 := frozen_of_row w14 V 6 _ _ rV6
     have q6 : w14.cell? ⟨V, 6, none⟩ = some (.slice A0 n0 c0) := by rw [cell_of_row _ _ _ _ _ _ rV6]; rfl))
 all_goals go_wp2_with fail
 all_goals
  obtain ⟨hP7, kv7, _⟩ := hend (.slice A6 (n0 + 1) c6')
  refine (expect_yes hP7 hs').mono ?_
  rintro e w16 ⟨rfl, hP8, k8⟩
  have r15 := heap_setCell_same w14 V 6 _ _ (.slice A6 (n0 + 1) c6') rV6
  have r16 := (k8.block V (gis r15).1 (fun e => by injection e with e; omega)).trans r15
  have o7 := ownsRow_setCell_ne hown6 (p := ⟨V, 6, none⟩) (fun e => by have := (hown6.lt V e).1; omega) (.slice A6 (n0 + 1) c6')
  have o8 := kept_own o7 k8 (by omega)
  have hT15 := (hT14.kp (Kp.set w14 6 (.slice A6 (n0 + 1) c6')) (by omega)).kp k8 (by omega)
  go_wp2_with fail
  go_ret
  exact ⟨rfl, hP8, A6, c6', _, r16, o8, hT15.mono (by omega), ((KV.kp k113).trans kv7).trans (KV.kp k8)⟩
theorem clause_end {R V : Nat} {x : Tk} {L : List Tk} {w : World} (h : Prs w R (x :: L)) (hx : NoB x [[99, 114, 101, 100, 105, 116], [105, 110, 100, 101, 120], [108, 101, 116], [103, 114, 97, 110, 116], [114, 101, 100, 117, 99, 101]]) :
  Calls Tryz.prog 51 #[.pointer (some ⟨R, 0, none⟩), .pointer (some ⟨V, 0, none⟩)] w fun e w' => e = .returned (.bool false) /\ Below w.heap.size w w' := by
 have n1 := hx [99, 114, 101, 100, 105, 116] (by decide)
 have n2 := hx [105, 110, 100, 101, 120] (by decide)
 have n3 := hx [108, 101, 116] (by decide)
 have n4 := hx [103, 114, 97, 110, 116] (by decide)
 have n5 := hx [114, 101, 100, 117, 99, 101] (by decide)
 clear hx
 go_enter Tryz.func51, Tryz.ntmps51
 go_wp2_with fail
 refine (accept_no h n1).mono ?_
 rintro e w1 ⟨rfl, b1⟩
 go_wp2_with fail
 refine (accept_no (h.to b1) n2).mono ?_
 rintro e w2 ⟨rfl, b2⟩
 have hb2 := b1.trans (b2.mono b1.size)
 go_wp2_with fail
 refine (accept_no (h.to hb2) n3).mono ?_
 rintro e w3 ⟨rfl, b3⟩
 have hb3 := hb2.trans (b3.mono hb2.size)
 go_wp2_with fail
 refine (accept_no (h.to hb3) n4).mono ?_
 rintro e w4 ⟨rfl, b4⟩
 have hb4 := hb3.trans (b4.mono hb3.size)
 go_wp2_with fail
 refine (accept_no (h.to hb4) n5).mono ?_
 rintro e w5 ⟨rfl, b5⟩
 have hb5 := hb4.trans (b5.mono hb4.size)
 go_wp2_with fail
 go_ret
 exact ⟨rfl, hb5⟩
end
section
structure Sd where
 cr : Bool
 ci : Tr
 py : Lf
def Sd.Ok (D : Sd) : Prop := TrOk D.ci /\ LfOk D.py
structure Vs where
 cA : Option Addr
 cn : Nat
 cc : Nat
 gA : Option Addr
 gc : Nat
def Vs.cells (x : Vs) : List Value := [.int .i64 0, .int .i64 1, .int .i64 1, .slice x.cA x.cn x.cc, .slice none 0 0, .slice none 0 0, .slice x.gA 1 x.gc, .slice none 0 0]
def Vs.agg (x : Vs) : Value := .agg #[.int .i64 0, .int .i64 1, .int .i64 1, .slice x.cA x.cn x.cc, .slice none 0 0, .slice none 0 0, .slice x.gA 1 x.gc, .slice none 0 0]
abbrev verBox (x : Vs) : Obj := .cells #[.int .i64 0, .int .i64 1, .int .i64 1, .slice x.cA x.cn x.cc, .slice none 0 0, .slice none 0 0, .slice x.gA 1 x.gc, .slice none 0 0] 87
structure VerR (w : World) (hi : Nat) (D : Sd) (x : Vs) : Prop where
 cr : (D.cr = true /\ ∃ b, x.cA = some ⟨b, 0, none⟩ /\ x.cn = 1 /\ 1 <= x.cc /\ Rz w hi b [.int .i64 6, .int .i64 0]) ∨ (D.cr = false /\ x.cA = none /\ x.cn = 0 /\ x.cc = 0)
 gr : ∃ b X, x.gA = some ⟨b, 0, none⟩ /\ 1 <= x.gc /\ Rz w hi b (grCells X D.py) /\ TrR D.ci X hi w
theorem VerR.below {w w' : World} {hi : Nat} {D : Sd} {x : Vs} (h : VerR w hi D x) (hb : Below hi w w') : VerR w' hi D x := by
 refine ⟨?_, ?_⟩
 ·rcases h.cr with ⟨h1, b, h2, h3, h4, h5⟩ | h1
  ·exact .inl ⟨h1, b, h2, h3, h4, h5.below hb⟩
  ·exact .inr h1
 ·obtain ⟨b, X, h1, h2, h3, h4⟩ := h.gr
  exact ⟨b, X, h1, h2, h3.below hb, h4.below hb⟩
theorem VerR.mono {w : World} {hi hi' : Nat} {D : Sd} {x : Vs} (h : VerR w hi D x) (hh : hi <= hi') : VerR w hi' D x := by
 refine ⟨?_, ?_⟩
 ·rcases h.cr with ⟨h1, b, h2, h3, h4, h5⟩ | h1
  ·exact .inl ⟨h1, b, h2, h3, h4, h5.mono hh⟩
  ·exact .inr h1
 ·obtain ⟨b, X, h1, h2, h3, h4⟩ := h.gr
  exact ⟨b, X, h1, h2, h3.mono hh, h4.mono hh⟩
theorem ver_new (w : World) (x : Vs) : ∃ W, w.alloc (verBox x) = W /\ Below w.heap.size w W /\ W.heap[w.heap.size]? = some (verBox x) :=
 ⟨_, rfl, (Below.refl _ _).alloc (Nat.le_refl _) _, heap_alloc_new w _⟩
theorem verbox {W : World} {g : Nat} {x : Vs} (hr : W.heap[g]? = some (verBox x)) : W.cell? ⟨g, 0, none⟩ = some (.int .i64 0) /\ W.cell? ⟨g, 1, none⟩ = some (.int .i64 1) /\ W.cell? ⟨g, 2, none⟩ = some (.int .i64 1) /\ W.cell? ⟨g, 3, none⟩ = some (.slice x.cA x.cn x.cc) /\ W.cell? ⟨g, 4, none⟩ = some (.slice none 0 0) /\ W.cell? ⟨g, 5, none⟩ = some (.slice none 0 0) /\ W.cell? ⟨g, 6, none⟩ = some (.slice x.gA 1 x.gc) /\ W.cell? ⟨g, 7, none⟩ = some (.slice none 0 0) := by
 refine ⟨?_, ?_, ?_, ?_, ?_, ?_, ?_, ?_⟩ <;> rw [cell_of_row _ _ _ _ _ _ hr] <;> rfl
abbrev grBox (X : Sx) (v : Lf) : Obj := .cells #[.int .i64 1, .int .i64 X.o, .int .i64 X.n, .int .i64 X.d, .int .i64 X.m, .string X.s, .slice X.A X.k X.c, .int .i64 v.o, .int .i64 v.n, .int .i64 v.d, .int .i64 v.m, .string v.s, .slice none 0 0] 146
theorem gr_new (w : World) (X : Sx) (v : Lf) : ∃ W, w.alloc (grBox X v) = W /\ Below w.heap.size w W /\ W.heap[w.heap.size]? = some (grBox X v) :=
 ⟨_, rfl, (Below.refl _ _).alloc (Nat.le_refl _) _, heap_alloc_new w _⟩
def GrAt (W : World) (g : Nat) (X : Sx) (v : Lf) : Prop := W.cell? ⟨g, 0, none⟩ = some (.int .i64 1) /\ (W.cell? ⟨g, 1, none⟩ = some (.int .i64 X.o) /\ W.cell? ⟨g, 2, none⟩ = some (.int .i64 X.n) /\ W.cell? ⟨g, 3, none⟩ = some (.int .i64 X.d) /\ W.cell? ⟨g, 4, none⟩ = some (.int .i64 X.m) /\ W.cell? ⟨g, 5, none⟩ = some (.string X.s) /\ W.cell? ⟨g, 6, none⟩ = some (.slice X.A X.k X.c)) ∧
  (W.cell? ⟨g, 7, none⟩ = some (.int .i64 v.o) /\ W.cell? ⟨g, 8, none⟩ = some (.int .i64 v.n) /\ W.cell? ⟨g, 9, none⟩ = some (.int .i64 v.d) /\ W.cell? ⟨g, 10, none⟩ = some (.int .i64 v.m) /\ W.cell? ⟨g, 11, none⟩ = some (.string v.s) /\ W.cell? ⟨g, 12, none⟩ = some (.slice none 0 0))
theorem grbox {W : World} {g : Nat} {X : Sx} {v : Lf} (hr : W.heap[g]? = some (grBox X v)) : GrAt W g X v := by
 refine ⟨?_, ⟨?_, ?_, ?_, ?_, ?_, ?_⟩, ?_, ?_, ?_, ?_, ?_, ?_⟩ <;> rw [cell_of_row _ _ _ _ _ _ hr] <;> rfl
theorem rz_gr {w : World} {hi g : Nat} {X : Sx} {v : Lf} (h : Rz w hi g (grCells X v)) : GrAt w g X v :=
 ⟨h.2 0 _ rfl, ⟨h.2 1 _ rfl, h.2 2 _ rfl, h.2 3 _ rfl, h.2 4 _ rfl, h.2 5 _ rfl, h.2 6 _ rfl⟩, h.2 7 _ rfl, h.2 8 _ rfl, h.2 9 _ rfl, h.2 10 _ rfl, h.2 11 _ rfl, h.2 12 _ rfl⟩
end
end Go.Proofs.YtnlopdmhdiegnaaGreatDoor
