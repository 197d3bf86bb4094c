/- Lemmas (no conditions): Pro, OvD -/
import Derived.Test.YtnlopdmhdiegnaaGreatDoorPk21
import Derived.Test.YtnlopdmhdiegnaaGreatDoorPk26
set_option linter.unusedSimpArgs false
set_option linter.unusedVariables false
set_option maxRecDepth 100000
set_option maxHeartbeats 64000000
namespace Go.Proofs.YtnlopdmhdiegnaaGreatDoor
open Go.RowKit
section
theorem step_calleeP {P : Program} {ops : Array Oper} {o : Oper} {a : Act} {w : World} {K : Act -> World -> Prop} {Q : Exit -> Act -> World -> Prop} {E : Prop} (hgd : o.guard = none) (f : FuncId) {fn : Func} (hfn : P.funcs[f]? = some fn) (hname : (fn.name == "runtime.NumGoroutine") = false) (hbody : fn.body.isSome = true) (args : List Operand) (ts : Array TypeId)
  (ho : o.op = .call { callee := .value (.func f), args := args.toArray, argTypes := ts }) (vs : List Value) (hv : args.map a.eval = vs) {R : Ending -> World -> Prop} (hc : Calls P f vs.toArray w R)
  (h : ∀ e w', R e w' -> ∃ v, e = .returned v /\ K (a.put o.dst v) w') : if Region.wanted o (yielded ops a.tmps) = true then Oper.wp P o a w K Q else E := by
 have hw : Region.wanted o (yielded ops a.tmps) = true := by simp [Region.wanted, hgd]
 rw [if_pos hw]
 have hrun : (execOp a.eval o).run P w = .ok (.enter f vs.toArray) w := by
  subst hv
  have h1 : ¬ fn.name = "runtime.NumGoroutine" := by simpa using hname
  have h2 : ¬ fn.body = none := by intro e; rw [e] at hbody; cases hbody
  simp [execOp, ho, resolve, invoke, Act.eval, Deferred.ofValue, callFunc, go_sem, hfn, h1, h2]
 unfold Oper.wp
 rw [hrun, Oper.upon_enter]
 refine hc.mono fun e w'' hh => ?_
 obtain ⟨v, rfl, hK⟩ := h e w'' hh
 exact hK
theorem info_ver : (Tryz.prog.info? 87).map (fun i => (i.zero, i.size, i.bytes)) = some (some (.agg #[.int .i64 0, .int .i64 0, .int .i64 0, .slice none 0 0, .slice none 0 0, .slice none 0 0, .slice none 0 0, .slice none 0 0]), 8, 144) := by kernel_rfl
theorem bel_kp {n R : Nat} {w a b : World} (h : Below n w a) (hk : Kp R a b) (hn : n <= a.heap.size) (hR : n <= R) : Below n w b :=
 ⟨hk.os.trans h.os, hk.tape.trans h.tape, hk.output.trans h.output, Nat.le_trans h.size hk.size, fun i hi => (hk.block i (by omega) (fun e => by injection e with e; omega)).trans (h.block i hi)⟩
abbrev stRow (s : ByteArray) (c : Int) (A : Option Addr) (n k : Nat) : Obj := .cells #[.string s, .int .i64 c, .slice A n k] 52
theorem Prs.setE {w : World} {R E : Nat} {L : List Tk} {s : ByteArray} {c : Int} {A : Option Addr} {n k : Nat} (h : Prs w R L) (hE : w.heap[E]? = some (stRow s c A n k)) (hne : E ≠ R) (h3 : 3 <= E) (j : Nat) (v : Value) : Prs (w.setCell ⟨E, j, none⟩ v) R L := by
 obtain ⟨B, cc, z, p, h1, h2, hr, hd⟩ := h.ex
 refine ⟨⟨B, cc, z, p, h1, h2, (Below.heap_setCell _ _ _ _ (fun e => hne e.symm)).trans hr, hd.1, fun hn => ?_⟩, h.len, h.ml.below ((Below.refl 3 w).setCell (p := ⟨E, j, none⟩) h3 v) (Nat.le_refl 3), h.r3⟩
 obtain ⟨b, o, e, hb, hc⟩ := hd.2 hn
 have hbE : b ≠ E := by
  rintro rfl
  obtain ⟨x, r, hL⟩ : ∃ x r, L = x :: r := by
   cases L with
   | nil => exact absurd hn (by simp)
   | cons x r => exact ⟨x, r, rfl⟩
  subst hL
  have e0 := hc 0 (.int .i64 x.k) rfl
  have e1 := hc 1 (.string x.t) rfl
  rw [cell_of_row _ _ _ _ _ _ hE] at e0 e1
  match o, e0, e1 with
  | 0, e0, _ => simp at e0
  | 1, _, e1 => simp at e1
  | 2, e0, _ => simp at e0
  | o + 3, e0, _ => simp at e0
 exact ⟨b, o, e, hb, fun i u hu => (World.cell?_setCell_other w ⟨E, j, none⟩ ⟨b, o + i, none⟩ v (fun e => by have := congrArg Addr.block e; exact hbE (by first | exact this | exact this.symm))).trans (hc i u hu)⟩
structure PTok (D : Sd) (nm : By) (L : List Tk) : Prop where
 ex : ∃ (t0 t1 t2 t3 t4 t5 d a1 a2 a3 a4 a5 r : Tk) (L6 : List Tk), L = t0 :: t1 :: t2 :: t3 :: t4 :: t5 :: d :: a1 :: a2 :: a3 :: a4 :: a5 :: L6 ∧
  isB t0 ⟨#[115, 116, 97, 116, 117, 116, 101]⟩ = true /\ t1.k = 1 /\ t1.t = bs nm /\ isB t2 ⟨#[99, 117, 114, 114, 101, 110, 99, 121]⟩ = true /\ t3.k = 2 /\ t3.t = bs (dgl 1) /\ isB t4 ⟨#[123]⟩ = true /\ isB t5 ⟨#[102, 114, 111, 109]⟩ = true ∧
  (d.k = 3 /\ d.t = bs (64 :: day0) /\ isB a1 ⟨#[123]⟩ = true /\ isB a2 ⟨#[114, 111, 117, 110, 100]⟩ = true /\ a3.k = 1 /\ a3.t = ⟨#[100, 111, 119, 110]⟩ /\ a4.k = 2 /\ a4.t = bs (dgl 1) /\ isB a5 ⟨#[59]⟩ = true) ∧
  VTok D L6 [r] /\ isB r ⟨#[102, 114, 111, 109]⟩ = false /\ isB r ⟨#[125]⟩ = true
theorem vs_one (x : Vs) : ∀ v ∈ x.cells, v.oneCell' = true := by
 intro v hv
 simp only [Vs.cells, List.mem_cons, List.not_mem_nil, or_false] at hv
 rcases hv with rfl | rfl | rfl | rfl | rfl | rfl | rfl | rfl <;> rfl
theorem strow {w : World} {g : Nat} {s : ByteArray} {c : Int} {A : Option Addr} {n k : Nat} (h : w.heap[g]? = some (stRow s c A n k)) : (w.cell? ⟨g, 0, none⟩ = some (.string s) /\ w.cell? ⟨g, 1, none⟩ = some (.int .i64 c) /\ w.cell? ⟨g, 2, none⟩ = some (.slice A n k)) /\ (w.frozen? ⟨g, 0, none⟩ = false /\ w.frozen? ⟨g, 1, none⟩ = false /\ w.frozen? ⟨g, 2, none⟩ = false) := by
 refine ⟨⟨?_, ?_, ?_⟩, frozen_of_row w g 0 _ _ h, frozen_of_row w g 1 _ _ h, frozen_of_row w g 2 _ _ h⟩ <;> rw [cell_of_row _ _ _ _ _ _ h] <;> rfl
structure PJ (w : World) (R : Nat) (L : List Tk) (s : ByteArray) (c : Int) (A : Option Addr) (n k : Nat) (wx : World) : Prop where
 p : Prs wx R L
 e : wx.heap[w.heap.size]? = some (stRow s c A n k)
 b : Below w.heap.size w wx
 r : w.heap.size < R
 z : w.heap.size < wx.heap.size
 h4 : 4 <= w.heap.size
theorem PJ.kp {w wx wy : World} {R : Nat} {L L' : List Tk} {s : ByteArray} {c : Int} {A : Option Addr} {n k : Nat} (h : PJ w R L s c A n k wx) (hP : Prs wy R L') (hk : Kp R wx wy) : PJ w R L' s c A n k wy :=
 ⟨hP, (hk.block _ h.z (fun e => by have := h.r; injection e with e; omega)).trans h.e, bel_kp h.b hk h.b.size (Nat.le_of_lt h.r), h.r, Nat.lt_of_lt_of_le h.z hk.size, h.h4⟩
theorem PJ.to {w wx wy : World} {R : Nat} {L : List Tk} {s : ByteArray} {c : Int} {A : Option Addr} {n k : Nat} (h : PJ w R L s c A n k wx) (hb : Below wx.heap.size wx wy) : PJ w R L s c A n k wy := h.kp (h.p.to hb) (Kp.of hb)
theorem PJ.set {w wx : World} {R : Nat} {L : List Tk} {s s' : ByteArray} {c c' : Int} {A A' : Option Addr} {n k n' k' : Nat} (h : PJ w R L s c A n k wx) (j : Nat) (v : Value) (hj : (#[.string s, .int .i64 c, .slice A n k] : Array Value).setIfInBounds j v = #[.string s', .int .i64 c', .slice A' n' k']) : PJ w R L s' c' A' n' k' (wx.setCell ⟨w.heap.size, j, none⟩ v) := by
 have hr := h.r
 have h4 := h.h4
 refine ⟨h.p.setE h.e (by omega) (by omega) j v, ?_, h.b.setCell (p := ⟨w.heap.size, j, none⟩) (Nat.le_refl _) v, h.r, by simpa [World.setCell] using h.z, h4⟩
 have := heap_setCell_same wx w.heap.size j _ _ v h.e
 rw [this, hj]
theorem Rz.kp {w w' : World} {R hi g : Nat} {xs : List Value} (h : Rz w hi g xs) (hk : Kp R w w') (hg : g ≠ R) (hh : hi <= w.heap.size) : Rz w' w'.heap.size g xs := by
 have h1 := h.1
 refine ⟨Nat.lt_of_lt_of_le (Nat.lt_of_lt_of_le h1 hh) hk.size, fun j u hu => ?_⟩
 rw [World.cell?_of_block (hk.block g (by omega) (fun e => hg (by injection e))) ]
 exact h.2 j u hu
theorem own_baseP {w : World} {base base' e sz n : Nat} {v : Value} {xs : List Value} (h : w.ownsRow base e sz v n xs) (hb : base' <= base) : w.ownsRow base' e sz v n xs := by
 refine ⟨h.1, ?_⟩
 rcases h.2 with h0 | ⟨g, cap, cur, hv, hg, r⟩
 ·exact .inl h0
 ·exact .inr ⟨g, cap, cur, hv, Nat.le_trans hb hg, r⟩
theorem VerX.base {w : World} {lo lo' : Nat} {D : Sd} {x : Vs} (h : VerX w lo D x) (hb : lo' <= lo) : VerX w lo' D x := by
 refine ⟨?_, ?_⟩
 ·rcases h.cr with ⟨h1, h2, h3⟩ | h1
  ·exact .inl ⟨h1, h2, own_baseP h3 hb⟩
  ·exact .inr h1
 ·obtain ⟨X, h1, h2⟩ := h.gr
  exact ⟨X, own_baseP h1 hb, h2.mono hb⟩
structure StX (w : World) (lo : Nat) (D : Sd) (x : St) : Prop where
 c1 : 1 <= x.c
 low : lo <= x.b
 ex : ∃ v : Vs, Rz w w.heap.size x.b v.cells /\ VerX w lo D v
theorem StX.rd {w : World} {lo : Nat} {D : Sd} {x : St} (h : StX w lo D x) : StR w w.heap.size D x := by
 obtain ⟨v, h1, h2⟩ := h.ex
 exact ⟨h.c1, v, h1, h2.rd⟩
theorem StX.kp {w w' : World} {R lo : Nat} {D : Sd} {x : St} (h : StX w lo D x) (hk : Kp R w w') (hR : R < lo) : StX w' lo D x := by
 obtain ⟨v, h1, h2⟩ := h.ex
 have := h.low
 exact ⟨h.c1, h.low, v, h1.kp hk (by omega) (Nat.le_refl _), h2.kp hk hR⟩
theorem three_kp (w : World) (g : Nat) (v0 v1 v2 : Value) : Kp g w (((w.setCell ⟨g, 0, none⟩ v0).setCell ⟨g, 1, none⟩ v1).setCell ⟨g, 2, none⟩ v2) :=
 ((Kp.set w 0 v0).trans (Kp.set _ 1 v1)).trans (Kp.set _ 2 v2)
theorem parse_of {D : Sd} {nm q : By} {ts : List (Int × By)} (hq : LxL q ts) (hl : q.length <= 8000) (hn : Nm nm) (hT : ∀ L, Toks L ts -> PTok D nm L) {w : World} (hw : Mt w) (h4 : 4 <= w.heap.size)
  (hval : ∀ {x : St} {u : World}, StR u u.heap.size D x -> Mt u -> Calls Tryz.prog 30 #[x.agg nm] u fun e w' => e = .returned (.bool true) /\ Below u.heap.size u w') :
  Calls Tryz.prog 18 #[.string (bs q)] w fun e w' => ∃ x : St, e = .returned (.tuple #[x.agg nm, .int .i64 0, .int .i64 0]) /\ StX w' (w.heap.size + 1) D x /\ Below w.heap.size w w' := by
 obtain ⟨i0, hi0, hq0, hq1, hq2⟩ := info_parts info_ver
 obtain ⟨W, hW, bW, rW⟩ := box_new w (stRow ⟨#[]⟩ 0 none 0 0)
 have lW := (gis rW).1
 have hst := start_ok hq hl W (hw.kp bW).ml
 generalize bs q = S at *
 dsimp only [stRow] at hW
 go_enter Tryz.func18, Tryz.ntmps18
 go_upto_region 1 with (fail)
 clear hW
 go_wp2_with fail
 refine hst.mono ?_
 rintro e w1 ⟨R, L, hTk, rfl, hR, hP1, b1⟩
 obtain ⟨t0, t1, t2, t3, t4, t5, d, a1, a2, a3, a4, a5, r, L6, rfl, g0, g1k, g1t, g2, g3k, g3t, g4, g5, ⟨hdk, hdt, hb1, hb2, hb3k, hb3t, hb4k, hb4t, hb5⟩, hVT, gr0, gr⟩ := (hT L hTk).ex
 have hI1 : PJ w R _ ⟨#[]⟩ 0 none 0 0 w1 := ⟨hP1, (b1.block _ lW).trans rW, bW.trans (b1.mono bW.size), by omega, Nat.lt_of_lt_of_le lW b1.size, h4⟩
 clear hst hTk hT hP1 b1 rW lW bW
 go_wp2_with fail
 refine (expect_yes hI1.p g0).mono ?_
 rintro e w2 ⟨rfl, hP2, k2⟩
 have hI2 := hI1.kp hP2 k2
 clear hI1 hP2 k2
 go_wp2_with fail
 refine (name_ok hI2.p g1k g1t hn).mono ?_
 rintro e w3 ⟨rfl, hP3, k3⟩
 have hI3 := hI2.kp hP3 k3
 obtain ⟨⟨c0, _, _⟩, z0, _, _⟩ := strow hI3.e
 have hI4 := hI3.set (s' := bs nm) (c' := 0) (A' := none) (n' := 0) (k' := 0) 0 (.string (bs nm)) rfl
 clear hI2 hP3 k3 hI3
 generalize hS2 : bs nm = S2 at *
 go_wp2_with fail
 obtain ⟨w4, hw4⟩ : ∃ u, w3.setCell ⟨w.heap.size, 0, none⟩ (.string S2) = u := ⟨_, rfl⟩
 rw [hw4] at hI4 ⊢
 clear hw4 c0 z0
 refine (expect_yes hI4.p g2).mono ?_
 rintro e w5 ⟨rfl, hP5, k5⟩
 have hI5 := hI4.kp hP5 k5
 clear hI4 hP5 k5
 go_wp2_with fail
 have hnum := number_ok (n := 1) (lo := 1) (hi := 999) hI5.p g3k g3t (by omega) (by omega) (by omega)
 refine hnum.mono ?_
 rintro e w6 ⟨rfl, hP6, k6⟩
 have hI6 := hI5.kp hP6 k6
 obtain ⟨⟨_, c1, _⟩, _, z1, _⟩ := strow hI6.e
 have hI7 := hI6.set (s' := S2) (c' := 1) (A' := none) (n' := 0) (k' := 0) 1 (.int .i64 1) rfl
 clear hI5 hP6 k6 hI6 hnum
 go_wp2_with fail
 obtain ⟨w7, hw7⟩ : ∃ u, w6.setCell ⟨w.heap.size, 1, none⟩ (.int .i64 1) = u := ⟨_, rfl⟩
 rw [hw7] at hI7 ⊢
 clear hw7 c1 z1
 refine (expect_yes hI7.p g4).mono ?_
 rintro e w8 ⟨rfl, hP8, k8⟩
 have hI8 := hI7.kp hP8 k8
 clear hI7 hP8 k8
 go_wp2_with fail
 refine (expect_yes hI8.p g5).mono ?_
 rintro e w9 ⟨rfl, hP9, k9⟩
 have hI9 := hI8.kp hP9 k9
 clear hI8 hP9 k9
 obtain ⟨⟨_, _, c2⟩, _, _, z2⟩ := strow hI9.e
 have hId := hI9.to (Below.refl _ _).drew
 have hz9 := hI9.z
 have hr9 := hI9.r
 go_upto_region 10 with (fail)
 go_region_law (first
  | (refine step_calleeP (by rfl) 27 Tryz.func27 (by rfl) (by rfl) [.tmp 35] _ (by rfl) [.pointer (some ⟨R, 0, none⟩)] (by rfl) (version_ok hId.p hdk hdt hb1 hb2 hb3k hb3t hb4k hb4t hb5 hVT) ?_
     rintro e w10 ⟨⟨cA, cn, cc, gA, gc⟩, rfl, hP10, k10, hx10⟩
     refine ⟨_, rfl, ?_⟩
     dsimp only [Vs.agg]
     have hI10 := hId.kp hP10 k10
     obtain ⟨⟨_, _, c2'⟩, _, _, z2'⟩ := strow hI10.e
     have c2a : (w10.alloc (verBox ⟨cA, cn, cc, gA, gc⟩)).cell? ⟨w.heap.size, 2, none⟩ = some (.slice none 0 0) := (World.cell?_alloc_lt w10 _ ⟨w.heap.size, 2, none⟩ hI10.z).trans c2')
  | (refine step_append_rd (by rfl) (.tmp 34) (.tmp 37) 50 (by rfl) w10.heap.size 87 i0 _ 8 144 Tryz.underlying50 hi0 hq0 hq1 hq2 rfl (by omega) (.slice none 0 0) 0 [] (by rfl) (World.ownsRow_nil _ _ _ _) (w10.heap.size + 1) (some ⟨w10.heap.size, 0, none⟩) 1 1 (Vs.cells ⟨cA, cn, cc, gA, gc⟩) (by rfl) (Rd.built (cs := (Vs.cells ⟨cA, cn, cc, gA, gc⟩).toArray) (heap_alloc_new w10 _) (by omega) rfl) (vs_one _) (by unfold maxLen; omega) (by omega) (by simp) ?_
     intro v11 w11 hown11 hg11 hat11
     obtain ⟨A11, c11, rfl, _, _, _⟩ := own_form hown11
     have hb11 : Below w10.heap.size w10 w11 := by
      first
       | exact ((Below.refl w10.heap.size w10).alloc (Nat.le_refl _) (verBox ⟨cA, cn, cc, gA, gc⟩)).grown hg11 (by simp) (by simp [Value.ownBlock])
       | exact ((Below.refl w10.heap.size w10).alloc (Nat.le_refl _) (verBox ⟨cA, cn, cc, gA, gc⟩)).drew.grown hg11 (by simp) (by simp [Value.ownBlock])
     have hI11 := hI10.to hb11
     obtain ⟨⟨_, _, c2''⟩, _, _, z2''⟩ := strow hI11.e))
 all_goals go_wp2_with fail
 all_goals
  obtain ⟨g11, rfl, hr11, hlo11, hc11⟩ := Rz.ofOwn hown11 (by omega)
  have z10 := hI10.z
  have hRl := hId.p.lt
  have hx12 := (hx10.kp (Kp.of (R := R) hb11) (by omega)).kp (Kp.set (R := w.heap.size) w11 2 (.slice (some ⟨g11, 0, none⟩) 1 c11)) (by omega)
  have hr12 := hr11.kp (Kp.set (R := w.heap.size) w11 2 (.slice (some ⟨g11, 0, none⟩) 1 c11)) (by omega) (Nat.le_refl _)
  have hI12 := hI11.set (s' := S2) (c' := 1) (A' := some ⟨g11, 0, none⟩) (n' := 1) (k' := c11) 2 (.slice (some ⟨g11, 0, none⟩) 1 c11) rfl
  obtain ⟨w12, hw12⟩ : ∃ u, w11.setCell ⟨w.heap.size, 2, none⟩ (.slice (some ⟨g11, 0, none⟩) 1 c11) = u := ⟨_, rfl⟩
  have hlo : R < w9.drew.heap.size + 2 := by omega
  have hEl : w.heap.size < w9.drew.heap.size + 2 := by omega
  have hgE : g11 ≠ w.heap.size := by omega
  have hgR : g11 ≠ R := by have := k10.size; omega
  try rw [hw12] at hI12 hx12 hr12 ⊢
  clear hw12 hI11 hI10 hx10 hP10 k10 hId hown11 hg11 hat11 hb11 hr11
  refine wp_loop_rounds 1 ?_
  rw [rounds_succ]
  go_wp2_with fail
  refine (accept_no hI12.p gr0).mono ?_
  rintro e w13 ⟨rfl, b13⟩
  have hI13 := hI12.to b13
  have hx13 := hx12.kp (Kp.of (R := R) b13) hlo
  have hr13 := hr12.kp (Kp.of (R := R) b13) hgR (Nat.le_refl _)
  clear hI12 hx12 hr12 b13
  go_wp2_with fail
  refine (expect_yes hI13.p gr).mono ?_
  rintro e w14 ⟨rfl, hP14, k14⟩
  have hI14 := hI13.kp hP14 k14
  have hx14 := hx13.kp k14 hlo
  have hr14 := hr13.kp k14 hgR (Nat.le_refl _)
  clear hI13 hx13 hr13 k14 hP14
  go_wp2_with fail
  refine (finish_ok hI14.p).mono ?_
  rintro e w15 ⟨pp, rfl, b15⟩
  have hI15 := hI14.to b15
  have hx15 := hx14.kp (Kp.of (R := R) b15) hlo
  have hr15 := hr14.kp (Kp.of (R := R) b15) hgR (Nat.le_refl _)
  clear hI14 hx14 hr14 b15
  obtain ⟨⟨f0, f1, f2⟩, _⟩ := strow hI15.e
  have hv := hval (x := ⟨g11, c11⟩) (u := w15) ⟨by show 1 <= c11; omega, ⟨cA, cn, cc, gA, gc⟩, hr15, hx15.rd⟩ (hw.kp hI15.b)
  unfold St.agg at hv
  dsimp only at hv
  rw [hS2] at hv
  go_wp2_with fail
  refine hv.mono ?_
  rintro e w16 ⟨rfl, b16⟩
  have hI16 := hI15.to b16
  have hx16 := hx15.kp (Kp.of (R := R) b16) hlo
  have hr16 := hr15.kp (Kp.of (R := R) b16) hgR (Nat.le_refl _)
  clear hI15 hx15 hr15 b16 f0 f1 f2 hv
  obtain ⟨⟨f0, f1, f2⟩, y0, y1, y2⟩ := strow hI16.e
  have k3 := three_kp w16 w.heap.size (.string S2) (.int .i64 1) (.slice (some ⟨g11, 0, none⟩) 1 c11)
  have hx17 := hx16.kp k3 hEl
  have hr17 := hr16.kp k3 hgE (Nat.le_refl _)
  have hb17 : Below w.heap.size w (((w16.setCell ⟨w.heap.size, 0, none⟩ (.string S2)).setCell ⟨w.heap.size, 1, none⟩ (.int .i64 1)).setCell ⟨w.heap.size, 2, none⟩ (.slice (some ⟨g11, 0, none⟩) 1 c11)) :=
   ((hI16.b.setCell (p := ⟨w.heap.size, 0, none⟩) (Nat.le_refl _) _).setCell (p := ⟨w.heap.size, 1, none⟩) (Nat.le_refl _) _).setCell (p := ⟨w.heap.size, 2, none⟩) (Nat.le_refl _) _
  clear hx16 hr16 hI16 k3
  go_wp2_with fail
  exact bodyPost_ret (v := .tuple #[.agg #[.string S2, .int .i64 1, .slice (some ⟨g11, 0, none⟩) 1 c11], .int .i64 0, .int .i64 0]) (by simp [results, Tryz.f18, go_sem, f0, f1, f2]) rfl ⟨⟨g11, c11⟩, by unfold St.agg; rw [hS2], ⟨by show 1 <= c11; omega, by show _ <= g11; omega, ⟨cA, cn, cc, gA, gc⟩, hr17, hx17.base (by omega)⟩, hb17⟩
end
section
theorem rk_hit {C : List Pr} {x : Int} {k : Nat} (hk : k < 7) (h0 : ∀ q : Nat, q < k -> stL C ((q : Int) + 1) x = []) (h1 : stL C ((k : Int) + 1) x ≠ []) : rkC C x = some ((k : Int) + 1) := by
 have h1' : (!(stL C ((k : Int) + 1) x).isEmpty) = true := by simpa using h1
 have c : k = 0 ∨ k = 1 ∨ k = 2 ∨ k = 3 ∨ k = 4 ∨ k = 5 ∨ k = 6 := by omega
 refine List.find?_eq_some_iff_append.2 ⟨h1', (List.range k).map (fun q : Nat => (q : Int) + 1), (List.range (6 - k)).map (fun q : Nat => ((k + 1 + q : Nat) : Int) + 1), ?_, fun a ha => ?_⟩
 ·rcases c with rfl | rfl | rfl | rfl | rfl | rfl | rfl <;> rfl
 ·obtain ⟨q, hq, rfl⟩ := List.mem_map.1 ha
  rw [h0 q (List.mem_range.1 hq)]
  rfl
theorem rk_none {C : List Pr} {x : Int} (h0 : ∀ q : Nat, q < 7 -> stL C ((q : Int) + 1) x = []) : rkC C x = none := by
 unfold rkC
 refine List.find?_eq_none.2 fun r hr => ?_
 have : ∃ q : Nat, q < 7 /\ r = (q : Int) + 1 := by
  simp [ranks] at hr
  rcases hr with rfl | rfl | rfl | rfl | rfl | rfl | rfl
  ·exact ⟨0, by omega, rfl⟩
  ·exact ⟨1, by omega, rfl⟩
  ·exact ⟨2, by omega, rfl⟩
  ·exact ⟨3, by omega, rfl⟩
  ·exact ⟨4, by omega, rfl⟩
  ·exact ⟨5, by omega, rfl⟩
  ·exact ⟨6, by omega, rfl⟩
 obtain ⟨q, hq, rfl⟩ := this
 rw [h0 q hq]
 simp
def stT (C : List Pr) (r x : Int) (i : Nat) : List Int := (states.take i).filter fun s => Dd C s r x
theorem states_at {i : Nat} (h : i < 6) : states[i]? = some (i : Int) := by
 have c : i = 0 ∨ i = 1 ∨ i = 2 ∨ i = 3 ∨ i = 4 ∨ i = 5 := by omega
 rcases c with rfl | rfl | rfl | rfl | rfl | rfl <;> rfl
theorem stT_succ (C : List Pr) (r x : Int) {i : Nat} (h : i < 6) : stT C r x (i + 1) = if Dd C (i : Int) r x = true then stT C r x i ++ [(i : Int)] else stT C r x i := by
 unfold stT
 rw [List.take_add_one, states_at h, Option.toList_some, List.filter_append, List.filter_cons]
 by_cases hc : Dd C (i : Int) r x = true
 ·rw [if_pos hc, if_pos hc]; rfl
 ·rw [if_neg hc, if_neg hc, List.filter_nil, List.append_nil]
theorem stT_all (C : List Pr) (r x : Int) : stT C r x 6 = stL C r x := rfl
theorem stT_length (C : List Pr) (r x : Int) (i : Nat) : (stT C r x i).length <= i := Nat.le_trans (List.length_filter_le _ _) (by rw [List.length_take]; omega)
theorem stL_bd {C : List Pr} {r x s : Int} (h : s ∈ stL C r x) : ∃ i : Nat, i < 6 /\ s = (i : Int) := by
 have := ((mem_stL C r x s).1 h).1
 simp [states] at this
 rcases this with rfl | rfl | rfl | rfl | rfl | rfl
 ·exact ⟨0, by omega, rfl⟩
 ·exact ⟨1, by omega, rfl⟩
 ·exact ⟨2, by omega, rfl⟩
 ·exact ⟨3, by omega, rfl⟩
 ·exact ⟨4, by omega, rfl⟩
 ·exact ⟨5, by omega, rfl⟩
def RetCl (w : World) (C : List Pr) (x : Int) (e : Ending) (w' : World) : Prop :=
 Below w.heap.size w w' /\ ((rkC C x = none /\ e = .returned (.tuple #[.int .i64 0, .slice none 0 0])) ∨
  ∃ (r : Int) (A : Option Addr) (c : Nat), rkC C x = some r /\ 1 <= r /\ r <= 7 /\ e = .returned (.tuple #[.int .i64 r, .slice A (stL C r x).length c]) /\ (stL C r x).length <= 6 /\ w'.ownsRow w.heap.size 3 1 (.slice A (stL C r x).length c) (stL C r x).length (ints (stL C r x)))
theorem claimants_any {w : World} {base g : Nat} {C : List Pr} (x : Int) (h : Bd w base g C) (hC : C.length <= 100) :
  Calls Tryz.prog 235 #[.pointer (some ⟨g, 0, none⟩), .int .i64 x] w (RetCl w C x) := by
 obtain ⟨i1, hi1, hy0, hy1, hy2⟩ := info_parts info_int
 go_enter Tryz.func235, Tryz.ntmps235
 go_wp2_with fail
 go_loopw [5, 6] (fun v i wr => ∃ (k : Nat) (A : Option Addr) (c : Nat), k <= 7 /\ i = .int .i64 (k : Int) /\ v = .slice A 0 c /\ (∀ q : Nat, q < k -> stL C ((q : Int) + 1) x = []) /\ wr.ownsRow w.heap.size 3 1 (.slice A 0 c) 0 [] /\ Below w.heap.size w wr) (fun _ i _ => 7 - (intOf i).toNat)
 case atStart => exact ⟨0, none, 0, by omega, rfl, rfl, fun q hq => by omega, World.ownsRow_nil _ _ _ _, Below.refl _ _⟩
 case round =>
  obtain ⟨k, A0, c0, hk, rfl, rfl, hno, hown0, hb⟩ := hrel
  have HNO := Lib.hid hno
  clear hno
  obtain ⟨wo, rfl⟩ : ∃ wo : World, wo = wr := ⟨_, rfl⟩
  by_cases hlt : k < 7
  ·have hlo : (0 : Int) <= (k : Int) := by omega
   have hhi : (k : Int) < 7 := by omega
   go_wp2_with fail
   go_loopw [5, 12] (fun v i wr => ∃ (a : Nat), a <= 6 /\ i = .int .i64 (a : Int) /\ wr.ownsRow w.heap.size 3 1 v (stT C ((k : Int) + 1) x a).length (ints (stT C ((k : Int) + 1) x a)) /\ Below w.heap.size w wr) (fun _ i _ => 6 - (intOf i).toNat)
   case atStart => exact ⟨0, by omega, rfl, hown0, hb⟩
   case round =>
    clear hown0 hb
    obtain ⟨a, ha, rfl, hown, hb⟩ := hrel
    have hwsz := hb.size
    obtain ⟨A1, c1, rfl, hnc1, hcm1, hA1⟩ := own_form hown
    have hstl := stT_length C ((k : Int) + 1) x a
    by_cases hla : a < 6
    ·obtain ⟨A, N, c, l, hc, hds, hN, hD⟩ := (h.under hb).at hla hlt
     have hdx := hD x
     have HDX := Lib.hid hdx
     have hst := stT_succ C ((k : Int) + 1) x hla
     rw [<- hdx] at hst
     have HST := Lib.hid hst
     have hlo2 : (0 : Int) <= (a : Int) := by omega
     have hhi2 : (a : Int) < 6 := by omega
     clear hdx hst hD
     generalize stT C ((k : Int) + 1) x a = O at *
     go_wp2_with fail
     refine (contains_any x hds (by omega)).mono ?_
     rintro e w2 ⟨rfl, hb2⟩
     have hown2 := own_under hown hb2
     have hbb2 := hb.trans (hb2.mono hwsz)
     have hz2 := hbb2.size
     clear hown hb hb2 hc hds
     cases hd : dset l x with
     | false =>
      rw [hd] at HST
      clear hd HDX
      go_wp2_with fail
      go_roundw
      case rel => exact ⟨a + 1, by omega, by go_num, by rw [HST.out]; exact hown2, hbb2⟩
      case measure => simp [intOf]; omega
     | true =>
      rw [hd] at HST
      clear hd HDX
      go_wp2_with (at_builtin; go_loud (refine wpList_append_rd (by rfl) (.tmp 24) (.tmp 26) 45 (by rfl) w.heap.size 3 i1 _ 1 8 Tryz.underlying45 hi1 hy0 hy1 hy2 rfl (by omega) _ O.length (ints O) (by rfl) (hown2.alloc _) (w2.heap.size + 1) (some ⟨w2.heap.size, 0, none⟩) 1 1 [.int .i64 (a : Int)] (by rfl) (Rd.built (heap_alloc_new w2 _) (by omega) rfl) (by intro u hu; simp at hu; rcases hu with rfl; rfl) (by unfold maxLen; omega) (by omega) (by simp; omega) ?_); intro v4 w4 hown4 hg4 hat4)
      have e1' : (O ++ [(a : Int)]).length = O.length + 1 := by simp
      have hb4 := (hbb2.alloc hz2 (.cells #[.int .i64 (a : Int)] 3)).grown hg4 (by simp; omega) (fun g e => (hown2.lt g e).1)
      have E1 := Lib.hid e1'
      clear e1'
      go_roundw
      case rel => exact ⟨a + 1, by omega, by go_num, by rw [HST.out, if_pos trivial, E1.out, ints_append]; exact hown4, hb4⟩
      case measure => simp [intOf]; omega
    ·obtain rfl : a = 6 := by omega
     rw [stT_all] at *
     by_cases hS : stL C ((k : Int) + 1) x = []
     ·have HNO2 : Hid (∀ q : Nat, q < k + 1 -> stL C ((q : Int) + 1) x = []) := fun q hq => by
       by_cases e : q = k
       ·rw [e]; exact hS
       ·exact HNO.out q (by omega)
      rw [hS] at hown ⊢
      clear hS HNO hstl
      have hown' : wr.ownsRow w.heap.size 3 1 (.slice A1 0 c1) 0 [] := hown
      go_wp2_with fail
      go_roundw
      case rel => exact ⟨k + 1, A1, c1, by omega, by go_num, rfl, HNO2.out, hown', hb⟩
      case measure => simp [intOf]; omega
     ·have hrk := rk_hit hlt HNO.out hS
      have hlp := List.length_pos_iff.2 hS
      have HRK := Lib.hid hrk
      have hlp2 : (0 : Int) < ((stL C ((k : Int) + 1) x).length : Int) := by omega
      clear hS HNO hrk
      generalize hL : stL C ((k : Int) + 1) x = L at *
      have HL := Lib.hid hL
      clear hL
      go_wp2_with fail
      go_ret2
      refine ⟨hb, .inr ⟨(k : Int) + 1, A1, c1, HRK.out, by omega, by omega, ?_, ?_, ?_⟩⟩
      ·rw [HL.out]; rfl
      ·rw [HL.out]; exact hstl
      ·rw [HL.out]; exact hown
  ·have hn7 := rk_none (C := C) (x := x) fun q hq => HNO.out q (by omega)
   have HN7 := Lib.hid hn7
   clear hn7 HNO
   go_wp2_with fail
   go_ret2
   exact ⟨hb, .inl ⟨HN7.out, rfl⟩⟩
theorem own_at {w : World} {base n c : Nat} {A : Option Addr} {L : List Int} (h : w.ownsRow base 3 1 (.slice A n c) n (ints L)) {k : Nat} {s : Int} (hs : L[k]? = some s) : ∃ g, A = some ⟨g, 0, none⟩ /\ k < n /\ w.cell? ⟨g, k, none⟩ = some (.int .i64 s) := by
 have hl : L.length = n := by have := h.1; rw [ints_length] at this; omega
 have hk := (List.getElem?_eq_some_iff.1 hs).1
 obtain ⟨_, g, rfl, _, hc⟩ := own_int h (by intro e; rw [e] at hk; simp at hk)
 refine ⟨g, rfl, by omega, ?_⟩
 have := hc k hk
 rw [Nat.zero_add] at this
 rw [this, show L.getD k 0 = s by simp [List.getD, hs]]
theorem bestP_take (P : Int -> Int) (a : Int) {r : List Int} {k : Nat} {s : Int} (hs : r[k]? = some s) : bestP P a (r.take (k + 1)) = if P (bestP P a (r.take k)) < P s then s else bestP P a (r.take k) := by
 rw [take_snocI hs, bestP_snoc]
theorem bestF_take (F : Int -> Int) (a : Int) {r : List Int} {k : Nat} {s : Int} (hs : r[k]? = some s) : bestF F a (r.take (k + 1)) = if F s < F (bestF F a (r.take k)) then s else bestF F a (r.take k) := by
 rw [take_snocI hs, bestF_snoc]
theorem closest_any {w : World} {base base2 g n c : Nat} {A : Option Addr} {C : List Pr} {L : List Int} (d : Int) (h : Bd w base g C) (hL : w.ownsRow base2 3 1 (.slice A n c) n (ints L)) (hne : L ≠ []) (hst : ∀ s ∈ L, ∃ i : Nat, i < 6 /\ s = (i : Int)) (hn : n <= 6) (hC : C.length <= 100) (hd0 : 0 <= d) (hd1 : d <= 73049) (hnc : n <= c) :
  Calls Tryz.prog 236 #[.pointer (some ⟨g, 0, none⟩), .slice A n c, .int .i64 d] w fun e w' => e = .returned (.int .i64 (clo (fun s => prevD (Dd C s 1) d) (fun s => follD (Dd C s 1) d) L)) /\ Below w.heap.size w w' := by
 obtain ⟨a, r, rfl⟩ : ∃ a r, L = a :: r := by
  cases L with
  | nil => exact absurd rfl hne
  | cons a r => exact ⟨a, r, rfl⟩
 have hlen : (a :: r).length = n := by have := hL.1; rw [ints_length] at this; omega
 obtain ⟨gL, rfl, hn0, hc0⟩ := own_at hL (k := 0) (s := a) rfl
 have hmem := fun k => bestP_mem (fun s => prevD (Dd C s 1) d) (r.take k) a
 have hmem2 : ∀ k, ∃ i : Nat, i < 6 /\ bestP (fun s => prevD (Dd C s 1) d) a (r.take k) = (i : Int) := fun k => by
  refine hst _ ?_
  rcases List.mem_cons.1 (hmem k) with h1 | h1
  ·rw [h1]; simp
  ·exact List.mem_cons_of_mem _ (List.mem_of_mem_take h1)
 have HM := Lib.hid hmem2
 have HST := Lib.hid hst
 have HLEN := Lib.hid hlen
 have hn1 : (1 : Int) <= (n : Int) := by omega
 have hnc' : (n : Int) <= (c : Int) := by omega
 have hr1 : r.length = n - 1 := by simp at hlen; omega
 have HR1 := Lib.hid hr1
 clear hmem hmem2 hst hlen hne hr1
 by_cases hc1 : c = 1
 ·subst hc1
  go_enter Tryz.func236, Tryz.ntmps236
  go_upto_region 3 with (fail)
  go_loopw [7, 18] (fun v i wr => ∃ k : Nat, k <= n - 1 /\ i = .int .i64 (k : Int) /\ v = .int .i64 (bestP (fun s => prevD (Dd C s 1) d) a (r.take k)) /\ Below w.heap.size w wr) (fun _ i _ => n - 1 - (intOf i).toNat)
  case atStart => exact ⟨0, by omega, rfl, rfl, Below.refl _ _⟩
  case round =>
   obtain ⟨k, hk, rfl, rfl, hb⟩ := hrel
   have hwsz := hb.size
   obtain ⟨ib, hib, eib⟩ := HM.out k
   by_cases hlt : k < n - 1
   ·exfalso
    omega
   ·have hkr : r.take k = r := List.take_of_length_le (by have := HR1.out; omega)
    have hbd := h.under hb
    rw [hkr] at eib
    rw [hkr, eib]
    have hcl : clo (fun s => prevD (Dd C s 1) d) (fun s => follD (Dd C s 1) d) (a :: r) = if 0 <= prevD (Dd C (ib : Int) 1) d then (ib : Int) else bestF (fun s => follD (Dd C s 1) d) (ib : Int) (a :: r) := by
     show (if 0 <= prevD (Dd C (bestP (fun s => prevD (Dd C s 1) d) a r) 1) d then bestP (fun s => prevD (Dd C s 1) d) a r else bestF (fun s => follD (Dd C s 1) d) (bestP (fun s => prevD (Dd C s 1) d) a r) (a :: r)) = _
     rw [eib]
    have HCL := Lib.hid hcl
    clear hkr eib hcl
    go_wp2_with fail
    refine (previous_any ib d hbd hib hC hd0 hd1).mono ?_
    rintro e w2 ⟨rfl, hb2⟩
    have hbb2 := hb.trans (hb2.mono hwsz)
    clear hb2 hbd hb
    by_cases hp : 0 <= prevD (Dd C (ib : Int) 1) d
    ·have HR : Hid (clo (fun s => prevD (Dd C s 1) d) (fun s => follD (Dd C s 1) d) (a :: r) = (ib : Int)) := by have := HCL.out; rw [if_pos hp] at this; exact this
     have hpd : decide (0 <= prevD (Dd C (ib : Int) 1) d) = true := by simpa using hp
     clear HCL
     generalize prevD (Dd C (ib : Int) 1) d = pb at *
     go_wp2_with fail
     go_ret
     exact ⟨ret_int HR.out.symm, hbb2⟩
    ·have HR : Hid (clo (fun s => prevD (Dd C s 1) d) (fun s => follD (Dd C s 1) d) (a :: r) = bestF (fun s => follD (Dd C s 1) d) (ib : Int) (a :: r)) := by have := HCL.out; rw [if_neg hp] at this; exact this
     have hpd : decide (0 <= prevD (Dd C (ib : Int) 1) d) = false := by simpa using hp
     clear HCL
     generalize prevD (Dd C (ib : Int) 1) d = pb at *
     have hmf : ∀ j, ∃ i : Nat, i < 6 /\ bestF (fun s => follD (Dd C s 1) d) (ib : Int) ((a :: r).take j) = (i : Int) := fun j => by
      rcases List.mem_cons.1 (bestF_mem (fun s => follD (Dd C s 1) d) ((a :: r).take j) (ib : Int)) with h1 | h1
      ·exact ⟨ib, hib, h1⟩
      ·exact HST.out _ (List.mem_of_mem_take h1)
     have HMF := Lib.hid hmf
     clear hmf HM
     have hz2 := hbb2.size
     go_wp2_with fail
     go_loopw [7, 41] (fun v i wr => ∃ j : Nat, j <= n /\ i = .int .i64 (j : Int) /\ v = .int .i64 (bestF (fun s => follD (Dd C s 1) d) (ib : Int) ((a :: r).take j)) /\ Below w.heap.size w wr) (fun _ i _ => n - (intOf i).toNat)
     case atStart => exact ⟨0, by omega, rfl, rfl, hbb2⟩
     case round =>
      clear hbb2 hz2
      obtain ⟨j, hj, rfl, rfl, hb⟩ := hrel
      have hwsz := hb.size
      obtain ⟨jb, hjb, ejb⟩ := HMF.out j
      by_cases hlj : j < n
      ·obtain ⟨s, hs⟩ : ∃ s, (a :: r)[j]? = some s := ⟨_, List.getElem?_eq_getElem (by have := HLEN.out; omega)⟩
       obtain ⟨is, his, eis⟩ := HST.out s (List.mem_of_getElem? hs)
       obtain ⟨_, eA, hkn, hck⟩ := own_at (own_under hL hb) hs
       injection eA with eA
       injection eA with eA
       subst eA
       have hbt := bestF_take (fun s => follD (Dd C s 1) d) (ib : Int) hs
       rw [ejb, eis] at hbt
       have hbt2 : bestF (fun s => follD (Dd C s 1) d) (ib : Int) ((a :: r).take (j + 1)) = if follD (Dd C (is : Int) 1) d < follD (Dd C (jb : Int) 1) d then (is : Int) else (jb : Int) := hbt
       have HBT := Lib.hid hbt2
       rw [eis] at hck
       have hlo : (0 : Int) <= (j : Int) := by omega
       have hhi : (j : Int) < (n : Int) := by omega
       have hbd := h.under hb
       clear hbt hbt2 hs eis
       rw [ejb]
       clear ejb
       go_wp2_with fail
       refine (following_any is d hbd his hC hd0 hd1).mono ?_
       rintro e w5 ⟨rfl, hb2⟩
       have hbd2 := hbd.under hb2
       have hbb2 := hb.trans (hb2.mono hwsz)
       go_wp2_with fail
       refine (following_any jb d hbd2 hjb hC hd0 hd1).mono ?_
       rintro e w3 ⟨rfl, hb3⟩
       have hbb3 := hbb2.trans (hb3.mono hbb2.size)
       clear hb2 hb3 hbb2 hbd hbd2 hb hck
       generalize follD (Dd C (is : Int) 1) d = ps at *
       generalize follD (Dd C (jb : Int) 1) d = pq at *
       by_cases hp2 : ps < pq
       ·have HB2 : Hid (bestF (fun s => follD (Dd C s 1) d) (ib : Int) ((a :: r).take (j + 1)) = (is : Int)) := by have := HBT.out; rw [if_pos hp2] at this; exact this
        clear HBT
        go_wp2_with fail
        go_roundw
        case rel => exact ⟨j + 1, by omega, by go_num, by rw [HB2.out], hbb3⟩
        case measure => simp [intOf]; omega
       ·have HB2 : Hid (bestF (fun s => follD (Dd C s 1) d) (ib : Int) ((a :: r).take (j + 1)) = (jb : Int)) := by have := HBT.out; rw [if_neg hp2] at this; exact this
        clear HBT
        go_wp2_with fail
        go_roundw
        case rel => exact ⟨j + 1, by omega, by go_num, by rw [HB2.out], hbb3⟩
        case measure => simp [intOf]; omega
      ·have hjr : (a :: r).take j = a :: r := List.take_of_length_le (by have := HLEN.out; omega)
       have hre := HR.out
       rw [<- hjr] at hre
       rw [ejb] at hre
       rw [hjr] at hre
       rw [ejb]
       have HRE := Lib.hid hre
       clear hjr hre ejb
       go_wp2_with fail
       go_ret
       exact ⟨ret_int HRE.out.symm, hb⟩
 go_enter Tryz.func236, Tryz.ntmps236
 go_upto_region 3 with (fail)
 go_loopw [7, 18] (fun v i wr => ∃ k : Nat, k <= n - 1 /\ i = .int .i64 (k : Int) /\ v = .int .i64 (bestP (fun s => prevD (Dd C s 1) d) a (r.take k)) /\ Below w.heap.size w wr) (fun _ i _ => n - 1 - (intOf i).toNat)
 case atStart => exact ⟨0, by omega, rfl, rfl, Below.refl _ _⟩
 case round =>
  obtain ⟨k, hk, rfl, rfl, hb⟩ := hrel
  have hwsz := hb.size
  obtain ⟨ib, hib, eib⟩ := HM.out k
  by_cases hlt : k < n - 1
  ·obtain ⟨s, hs⟩ : ∃ s, r[k]? = some s := ⟨_, List.getElem?_eq_getElem (by have := HR1.out; omega)⟩
   obtain ⟨is, his, eis⟩ := HST.out s (List.mem_cons_of_mem _ (List.mem_of_getElem? hs))
   obtain ⟨_, eA, hkn, hck⟩ := own_at (own_under hL hb) (k := k + 1) (s := s) (by simpa using hs)
   injection eA with eA
   injection eA with eA
   subst eA
   have hbt := bestP_take (fun s => prevD (Dd C s 1) d) a hs
   rw [eib, eis] at hbt
   have hbt2 : bestP (fun s => prevD (Dd C s 1) d) a (r.take (k + 1)) = if prevD (Dd C (ib : Int) 1) d < prevD (Dd C (is : Int) 1) d then (is : Int) else (ib : Int) := hbt
   have HBT := Lib.hid hbt2
   have hck2 : wr.cell? ⟨gL, 1 + k, none⟩ = some (.int .i64 (is : Int)) := by rw [Nat.add_comm, <- eis]; exact hck
   have hlo : (0 : Int) <= (k : Int) := by omega
   have hhi : (k : Int) < ((n - 1 : Nat) : Int) := by omega
   have hbd := h.under hb
   clear hck hbt hbt2 hs eis
   rw [eib]
   clear eib
   go_wp2_with fail
   refine (previous_any is d hbd his hC hd0 hd1).mono ?_
   rintro e w2 ⟨rfl, hb2⟩
   have hbd2 := hbd.under hb2
   have hbb2 := hb.trans (hb2.mono hwsz)
   go_wp2_with fail
   refine (previous_any ib d hbd2 hib hC hd0 hd1).mono ?_
   rintro e w3 ⟨rfl, hb3⟩
   have hbb3 := hbb2.trans (hb3.mono hbb2.size)
   clear hb2 hb3 hbb2 hbd hbd2 hb hck2
   generalize prevD (Dd C (is : Int) 1) d = ps at *
   generalize prevD (Dd C (ib : Int) 1) d = pb at *
   by_cases hp : pb < ps
   ·have HB2 : Hid (bestP (fun s => prevD (Dd C s 1) d) a (r.take (k + 1)) = (is : Int)) := by have := HBT.out; rw [if_pos hp] at this; exact this
    clear HBT
    go_wp2_with fail
    go_roundw
    case rel => exact ⟨k + 1, by omega, by go_num, by rw [HB2.out], hbb3⟩
    case measure => simp [intOf]; omega
   ·have HB2 : Hid (bestP (fun s => prevD (Dd C s 1) d) a (r.take (k + 1)) = (ib : Int)) := by have := HBT.out; rw [if_neg hp] at this; exact this
    clear HBT
    go_wp2_with fail
    go_roundw
    case rel => exact ⟨k + 1, by omega, by go_num, by rw [HB2.out], hbb3⟩
    case measure => simp [intOf]; omega
  ·have hkr : r.take k = r := List.take_of_length_le (by have := HR1.out; omega)
   have hbd := h.under hb
   rw [hkr] at eib
   rw [hkr, eib]
   have hcl : clo (fun s => prevD (Dd C s 1) d) (fun s => follD (Dd C s 1) d) (a :: r) = if 0 <= prevD (Dd C (ib : Int) 1) d then (ib : Int) else bestF (fun s => follD (Dd C s 1) d) (ib : Int) (a :: r) := by
    show (if 0 <= prevD (Dd C (bestP (fun s => prevD (Dd C s 1) d) a r) 1) d then bestP (fun s => prevD (Dd C s 1) d) a r else bestF (fun s => follD (Dd C s 1) d) (bestP (fun s => prevD (Dd C s 1) d) a r) (a :: r)) = _
    rw [eib]
   have HCL := Lib.hid hcl
   clear hkr eib hcl
   go_wp2_with fail
   refine (previous_any ib d hbd hib hC hd0 hd1).mono ?_
   rintro e w2 ⟨rfl, hb2⟩
   have hbb2 := hb.trans (hb2.mono hwsz)
   clear hb2 hbd hb
   by_cases hp : 0 <= prevD (Dd C (ib : Int) 1) d
   ·have HR : Hid (clo (fun s => prevD (Dd C s 1) d) (fun s => follD (Dd C s 1) d) (a :: r) = (ib : Int)) := by have := HCL.out; rw [if_pos hp] at this; exact this
    have hpd : decide (0 <= prevD (Dd C (ib : Int) 1) d) = true := by simpa using hp
    clear HCL
    generalize prevD (Dd C (ib : Int) 1) d = pb at *
    go_wp2_with fail
    go_ret
    exact ⟨ret_int HR.out.symm, hbb2⟩
   ·have HR : Hid (clo (fun s => prevD (Dd C s 1) d) (fun s => follD (Dd C s 1) d) (a :: r) = bestF (fun s => follD (Dd C s 1) d) (ib : Int) (a :: r)) := by have := HCL.out; rw [if_neg hp] at this; exact this
    have hpd : decide (0 <= prevD (Dd C (ib : Int) 1) d) = false := by simpa using hp
    clear HCL
    generalize prevD (Dd C (ib : Int) 1) d = pb at *
    have hmf : ∀ j, ∃ i : Nat, i < 6 /\ bestF (fun s => follD (Dd C s 1) d) (ib : Int) ((a :: r).take j) = (i : Int) := fun j => by
     rcases List.mem_cons.1 (bestF_mem (fun s => follD (Dd C s 1) d) ((a :: r).take j) (ib : Int)) with h1 | h1
     ·exact ⟨ib, hib, h1⟩
     ·exact HST.out _ (List.mem_of_mem_take h1)
    have HMF := Lib.hid hmf
    clear hmf HM
    have hz2 := hbb2.size
    go_wp2_with fail
    go_loopw [7, 41] (fun v i wr => ∃ j : Nat, j <= n /\ i = .int .i64 (j : Int) /\ v = .int .i64 (bestF (fun s => follD (Dd C s 1) d) (ib : Int) ((a :: r).take j)) /\ Below w.heap.size w wr) (fun _ i _ => n - (intOf i).toNat)
    case atStart => exact ⟨0, by omega, rfl, rfl, hbb2⟩
    case round =>
     clear hbb2 hz2
     obtain ⟨j, hj, rfl, rfl, hb⟩ := hrel
     have hwsz := hb.size
     obtain ⟨jb, hjb, ejb⟩ := HMF.out j
     by_cases hlj : j < n
     ·obtain ⟨s, hs⟩ : ∃ s, (a :: r)[j]? = some s := ⟨_, List.getElem?_eq_getElem (by have := HLEN.out; omega)⟩
      obtain ⟨is, his, eis⟩ := HST.out s (List.mem_of_getElem? hs)
      obtain ⟨_, eA, hkn, hck⟩ := own_at (own_under hL hb) hs
      injection eA with eA
      injection eA with eA
      subst eA
      have hbt := bestF_take (fun s => follD (Dd C s 1) d) (ib : Int) hs
      rw [ejb, eis] at hbt
      have hbt2 : bestF (fun s => follD (Dd C s 1) d) (ib : Int) ((a :: r).take (j + 1)) = if follD (Dd C (is : Int) 1) d < follD (Dd C (jb : Int) 1) d then (is : Int) else (jb : Int) := hbt
      have HBT := Lib.hid hbt2
      rw [eis] at hck
      have hlo : (0 : Int) <= (j : Int) := by omega
      have hhi : (j : Int) < (n : Int) := by omega
      have hbd := h.under hb
      clear hbt hbt2 hs eis
      rw [ejb]
      clear ejb
      go_wp2_with fail
      refine (following_any is d hbd his hC hd0 hd1).mono ?_
      rintro e w5 ⟨rfl, hb2⟩
      have hbd2 := hbd.under hb2
      have hbb2 := hb.trans (hb2.mono hwsz)
      go_wp2_with fail
      refine (following_any jb d hbd2 hjb hC hd0 hd1).mono ?_
      rintro e w3 ⟨rfl, hb3⟩
      have hbb3 := hbb2.trans (hb3.mono hbb2.size)
      clear hb2 hb3 hbb2 hbd hbd2 hb hck
      generalize follD (Dd C (is : Int) 1) d = ps at *
      generalize follD (Dd C (jb : Int) 1) d = pq at *
      by_cases hp2 : ps < pq
      ·have HB2 : Hid (bestF (fun s => follD (Dd C s 1) d) (ib : Int) ((a :: r).take (j + 1)) = (is : Int)) := by have := HBT.out; rw [if_pos hp2] at this; exact this
       clear HBT
       go_wp2_with fail
       go_roundw
       case rel => exact ⟨j + 1, by omega, by go_num, by rw [HB2.out], hbb3⟩
       case measure => simp [intOf]; omega
      ·have HB2 : Hid (bestF (fun s => follD (Dd C s 1) d) (ib : Int) ((a :: r).take (j + 1)) = (jb : Int)) := by have := HBT.out; rw [if_neg hp2] at this; exact this
       clear HBT
       go_wp2_with fail
       go_roundw
       case rel => exact ⟨j + 1, by omega, by go_num, by rw [HB2.out], hbb3⟩
       case measure => simp [intOf]; omega
     ·have hjr : (a :: r).take j = a :: r := List.take_of_length_le (by have := HLEN.out; omega)
      have hre := HR.out
      rw [<- hjr] at hre
      rw [ejb] at hre
      rw [hjr] at hre
      rw [ejb]
      have HRE := Lib.hid hre
      clear hjr hre ejb
      go_wp2_with fail
      go_ret
      exact ⟨ret_int HRE.out.symm, hb⟩
def atV (C : List Pr) (x : Int) : Value := match atC C x with
 | some (s, r) => .tuple #[.int .i64 s, .int .i64 r, .bool true]
 | none => .tuple #[.int .i64 (-1), .int .i64 0, .bool false]
theorem atV_some {C : List Pr} {x r : Int} (h : rkC C x = some r) : atV C x = .tuple #[.int .i64 (cloC C r x), .int .i64 r, .bool true] := by unfold atV atC; rw [h]; rfl
theorem atV_none {C : List Pr} {x : Int} (h : rkC C x = none) : atV C x = .tuple #[.int .i64 (-1), .int .i64 0, .bool false] := by unfold atV atC; rw [h]; rfl
theorem at_any {w : World} {base g : Nat} {C : List Pr} (d : Int) (h : Bd w base g C) (hC : C.length <= 100) (hd0 : 0 <= d) (hd1 : d <= 73049) :
  Calls Tryz.prog 190 #[.pointer (some ⟨g, 0, none⟩), .int .i64 d] w fun e w' => e = .returned (atV C d) /\ Below w.heap.size w w' := by
 go_enter Tryz.func190, Tryz.ntmps190
 go_wp2_with fail
 refine (claimants_any d h hC).mono ?_
 rintro e w1 ⟨hb1, hcl⟩
 rcases hcl with ⟨hrk, rfl⟩ | ⟨r, A, c, hrk, hr1, hr7, rfl, hl6, hown⟩
 ·have HV := Lib.hid (atV_none hrk)
  clear hrk
  go_wp2_with fail
  go_ret3
  exact ⟨congrArg Ending.returned HV.out.symm, hb1⟩
 ·have HV := Lib.hid (atV_some hrk)
  obtain ⟨_, hne⟩ := rkC_some hrk
  have hrb : (r == 0) = false := beq_eq_false_iff_ne.2 (by omega)
  have hst : ∀ s ∈ stL C r d, ∃ i : Nat, i < 6 /\ s = (i : Int) := fun s hs => stL_bd hs
  have HVD : Hid (cloC C r d = clo (fun s => prevD (Dd C s 1) d) (fun s => follD (Dd C s 1) d) (stL C r d)) := rfl
  obtain ⟨_, _, hvf, hnc, _, _⟩ := own_form hown
  injection hvf with hvA _ hvc
  subst hvA hvc
  clear hrk
  generalize stL C r d = L at *
  go_wp2_with fail
  refine (closest_any d (h.under hb1) hown hne hst hl6 hC hd0 hd1 hnc).mono ?_
  rintro e w2 ⟨rfl, hb2⟩
  go_wp2_with fail
  go_ret3
  refine ⟨?_, hb1.trans (hb2.mono hb1.size)⟩
  rw [HV.out, HVD.out]
  rfl
end
end Go.Proofs.YtnlopdmhdiegnaaGreatDoor
