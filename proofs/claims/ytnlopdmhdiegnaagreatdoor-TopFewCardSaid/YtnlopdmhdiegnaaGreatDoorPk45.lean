/- Lemmas (no conditions): Bnf -/
import Derived.Test.YtnlopdmhdiegnaaGreatDoorPk44
import Derived.Test.YtnlopdmhdiegnaaGreatDoorSx
set_option linter.unusedSimpArgs false
set_option linter.unusedVariables false
set_option maxRecDepth 100000
set_option maxHeartbeats 64000000
namespace Go.Proofs.YtnlopdmhdiegnaaGreatDoor
open Go.RowKit
section
abbrev awBox (s bn d : Int) (few : Bool) (ind theo pro num den amt : Int) (SA : Option Addr) (sn sc : Nat) : Obj := .cells #[.int .i64 s, .int .i64 bn, .int .i64 d, .int .i64 0, .bool few, .int .i64 ind, .int .i64 theo, .int .i64 pro, .int .i64 num, .int .i64 den, .int .i64 amt, .slice SA sn sc] 43
theorem awbox {W : World} {g : Nat} {s bn d : Int} {few : Bool} {ind theo pro num den amt : Int} {SA : Option Addr} {sn sc : Nat} (hr : W.heap[g]? = some (awBox s bn d few ind theo pro num den amt SA sn sc)) :
  (W.cell? ⟨g, 0, none⟩ = some (.int .i64 s) /\ W.cell? ⟨g, 1, none⟩ = some (.int .i64 bn) /\ W.cell? ⟨g, 2, none⟩ = some (.int .i64 d) /\ W.cell? ⟨g, 3, none⟩ = some (.int .i64 0)) ∧
  (W.cell? ⟨g, 4, none⟩ = some (.bool few) /\ W.cell? ⟨g, 5, none⟩ = some (.int .i64 ind) /\ W.cell? ⟨g, 6, none⟩ = some (.int .i64 theo) /\ W.cell? ⟨g, 7, none⟩ = some (.int .i64 pro)) ∧
  W.cell? ⟨g, 8, none⟩ = some (.int .i64 num) /\ W.cell? ⟨g, 9, none⟩ = some (.int .i64 den) /\ W.cell? ⟨g, 10, none⟩ = some (.int .i64 amt) /\ W.cell? ⟨g, 11, none⟩ = some (.slice SA sn sc) := by
 refine ⟨⟨?_, ?_, ?_, ?_⟩, ⟨?_, ?_, ?_, ?_⟩, ?_, ?_, ?_, ?_⟩ <;> rw [cOr hr] <;> rfl
def awdC (ws : List Sp) (md : Int) (N M d : Nat) (x : Nat × Option Addr × Nat) : List Value :=
 [.int .i64 (x.1 : Int), .int .i64 1, .int .i64 (d : Int), .int .i64 0, .bool (fW ws md x.1), .int .i64 (aI ws md N M x.1), .int .i64 (aT ws md N M x.1), .int .i64 (aP ws md N M x.1), .int .i64 (frW ws md x.1).1, .int .i64 (frW ws md x.1).2, .int .i64 (aA ws md N M x.1), .slice x.2.1 (aS ws md N M x.1) x.2.2]
theorem VerR.aw {w w' : World} {R hi : Nat} {cr : Bool} {a b py : Lf} {x : Vs} {s bn d : Int} {few : Bool} {ind theo pro num den amt : Int} {SA : Option Addr} {sn sc : Nat} (h : VerR w hi ⟨cr, .cmp a b, py⟩ x) (hk : Kp R w w') (hr : w.heap[R]? = some (awBox s bn d few ind theo pro num den amt SA sn sc)) (hs : s ≠ 6) : VerR w' hi ⟨cr, .cmp a b, py⟩ x := by
 obtain ⟨⟨c0, _, _, _⟩, ⟨c4, c5, _, _⟩, _⟩ := awbox hr
 refine ⟨?_, ?_⟩
 ·rcases h.cr with ⟨h1, g, h2, h3, h4, h5⟩ | h1
  ·exact .inl ⟨h1, g, h2, h3, h4, h5.own (j := 0) hk rfl (by rw [c0]; simp; omega)⟩
  ·exact .inr h1
 ·obtain ⟨g, X, h1, h2, h3, g2, c, h5, h6, h7⟩ := h.gr
  exact ⟨g, X, h1, h2, h3.own (j := 5) hk rfl (by rw [c5]; simp), g2, c, h5, h6, h7.own (j := 4) hk rfl (by rw [c4]; simp)⟩
theorem Mt.four {w : World} (h : Mt w) : 4 <= w.heap.size := by
 have h1 := h.tp
 unfold Lib.TabIs World.var? at h1
 rw [show Tryz.prog.globalNamed "internal/strconv.uint64pow10" = some 3 by kernel_rfl] at h1
 simp only [Option.bind_some] at h1
 rcases Nat.lt_or_ge 3 w.heap.size with h' | h'
 ·exact h'
 ·rw [Array.getElem?_eq_none h'] at h1; cases h1
theorem Mt.low {n : Nat} {w v : World} (h : Mt w) (hb : Below n w v) (hn : 4 <= n) : Mt v := by
 refine ⟨h.ml.below hb (by omega), ?_⟩
 have h1 := h.tp
 unfold Lib.TabIs World.var? at h1 ⊢
 rw [show Tryz.prog.globalNamed "internal/strconv.uint64pow10" = some 3 by kernel_rfl] at h1 ⊢
 simp only [Option.bind_some] at h1 ⊢
 rw [hb.block 3 (by omega)]
 exact h1
theorem Kp.drew {R : Nat} {w v : World} (h : Kp R w v) : Kp R w v.drew := ⟨h.os, h.tape, h.output, h.size, h.block⟩
theorem awdC_eq {ws : List Sp} {md : Int} {N M d s xc sn : Nat} {XA : Option Addr} {fw : Bool} {nu de ind theo pro amt : Int} (h1 : fW ws md s = fw) (h2 : frW ws md s = (nu, de)) (h3 : aI ws md N M s = ind) (h4 : aT ws md N M s = theo) (h5 : aP ws md N M s = pro) (h6 : aA ws md N M s = amt) (h7 : aS ws md N M s = sn) :
  awdC ws md N M d (s, XA, xc) = [.int .i64 (s : Int), .int .i64 1, .int .i64 (d : Int), .int .i64 0, .bool fw, .int .i64 ind, .int .i64 theo, .int .i64 pro, .int .i64 nu, .int .i64 de, .int .i64 amt, .slice XA sn xc] := by
 unfold awdC
 dsimp only
 rw [h1, h2, h3, h4, h5, h6, h7]
theorem st_cont {u v : World} {A : Nat} {P : Prop} (b : Below u.heap.size u v) (h : u.heap[A]? = some (.cells #[.string ⟨#[]⟩, .int .i64 0, .slice none 0 0] 52)) (k : ((v.cell? ⟨A, 0, none⟩ = some (.string ⟨#[]⟩) /\ v.cell? ⟨A, 1, none⟩ = some (.int .i64 0) /\ v.cell? ⟨A, 2, none⟩ = some (.slice none 0 0)) /\ (v.frozen? ⟨A, 0, none⟩ = false /\ v.frozen? ⟨A, 1, none⟩ = false /\ v.frozen? ⟨A, 2, none⟩ = false) /\ v.heap[A]? = some (.cells #[.string ⟨#[]⟩, .int .i64 0, .slice none 0 0] 52)) /\ A < v.heap.size /\ A ≠ v.heap.size /\ v.heap.size ≠ A -> P) : P := by
 have hv := (b.block _ (gis h).1).trans h
 have hl := (gis hv).1
 exact k ⟨⟨(st_row hv).1, (st_row hv).2, hv⟩, hl, by omega, by omega⟩
theorem vz_cont {u v : World} {A : Nat} {P : Prop} (b : Below u.heap.size u v) (h : u.heap[A]? = some vzBox) (k : ((v.cell? ⟨A, 0, none⟩ = some (.int .i64 0) /\ v.cell? ⟨A, 1, none⟩ = some (.int .i64 0) /\ v.cell? ⟨A, 2, none⟩ = some (.int .i64 0) /\ v.cell? ⟨A, 3, none⟩ = some (.slice none 0 0) /\ v.cell? ⟨A, 4, none⟩ = some (.slice none 0 0) /\ v.cell? ⟨A, 5, none⟩ = some (.slice none 0 0) /\ v.cell? ⟨A, 6, none⟩ = some (.slice none 0 0) /\ v.cell? ⟨A, 7, none⟩ = some (.slice none 0 0)) ∧
  (v.frozen? ⟨A, 0, none⟩ = false /\ v.frozen? ⟨A, 1, none⟩ = false /\ v.frozen? ⟨A, 2, none⟩ = false /\ v.frozen? ⟨A, 3, none⟩ = false /\ v.frozen? ⟨A, 4, none⟩ = false /\ v.frozen? ⟨A, 5, none⟩ = false /\ v.frozen? ⟨A, 6, none⟩ = false /\ v.frozen? ⟨A, 7, none⟩ = false) /\ v.heap[A]? = some vzBox) /\ A < v.heap.size /\ A ≠ v.heap.size /\ v.heap.size ≠ A -> P) : P := by
 have hv := (b.block _ (gis h).1).trans h
 have hl := (gis hv).1
 exact k ⟨⟨(vzbox hv).1, (vzbox hv).2, hv⟩, hl, by omega, by omega⟩
theorem row_three {w : World} {g A : Nat} {o : Obj} (hne : g ≠ A) (a b c : Value) (h : w.heap[g]? = some o) : (((w.setCell ⟨A, 0, none⟩ a).setCell ⟨A, 1, none⟩ b).setCell ⟨A, 2, none⟩ c).heap[g]? = some o :=
 ((((Kp.set w 0 a (R := A)).trans (Kp.set _ 1 b)).trans (Kp.set _ 2 c)).at h hne)
theorem row_newA {w : World} {o o' : Obj} (h : o = o') : (w.alloc o).heap[w.heap.size]? = some o' := by rw [<- h]; exact hAn w o
theorem row_newB {w : World} {o o' p : Obj} (h : o = o') : ((w.alloc p).alloc o).heap[w.heap.size + 1]? = some o' := by rw [<- h]; exact row_new2 w o p
theorem row_newI {w : World} {i : Nat} {o o' : Obj} (hi : i = w.heap.size) (h : o = o') : (w.alloc o).heap[i]? = some o' := by rw [hi, <- h]; exact hAn w o
theorem vwz_cont {u v : World} {A : Nat} {P : Prop} (b : Below u.heap.size u v) (h : u.heap[A]? = some (vRow13 0 0 0 0 0 0 0 0 0 0 0 0 none 0 0)) (k : ((v.cell? ⟨A, 0, none⟩ = some (.int .i64 0) /\ v.cell? ⟨A, 1, none⟩ = some (.int .i64 0) /\ v.cell? ⟨A, 2, none⟩ = some (.int .i64 0) /\ v.cell? ⟨A, 3, none⟩ = some (.int .i64 0) /\ v.cell? ⟨A, 4, none⟩ = some (.int .i64 0) /\ v.cell? ⟨A, 5, none⟩ = some (.int .i64 0) /\ v.cell? ⟨A, 6, none⟩ = some (.int .i64 0) /\ v.cell? ⟨A, 7, none⟩ = some (.int .i64 0) /\ v.cell? ⟨A, 8, none⟩ = some (.int .i64 0) /\ v.cell? ⟨A, 9, none⟩ = some (.int .i64 0) /\ v.cell? ⟨A, 10, none⟩ = some (.int .i64 0) /\ v.cell? ⟨A, 11, none⟩ = some (.int .i64 0) /\ v.cell? ⟨A, 12, none⟩ = some (.slice none 0 0)) /\ (v.frozen? ⟨A, 0, none⟩ = false /\ v.frozen? ⟨A, 1, none⟩ = false /\ v.frozen? ⟨A, 2, none⟩ = false /\ v.frozen? ⟨A, 3, none⟩ = false /\ v.frozen? ⟨A, 4, none⟩ = false /\ v.frozen? ⟨A, 5, none⟩ = false /\ v.frozen? ⟨A, 6, none⟩ = false /\ v.frozen? ⟨A, 7, none⟩ = false /\ v.frozen? ⟨A, 8, none⟩ = false /\ v.frozen? ⟨A, 9, none⟩ = false /\ v.frozen? ⟨A, 10, none⟩ = false /\ v.frozen? ⟨A, 11, none⟩ = false /\ v.frozen? ⟨A, 12, none⟩ = false) /\ v.heap[A]? = some (vRow13 0 0 0 0 0 0 0 0 0 0 0 0 none 0 0)) /\ A < v.heap.size /\ A ≠ v.heap.size /\ v.heap.size ≠ A -> P) : P := by
 have hv := (b.block _ (gis h).1).trans h
 have hl := (gis hv).1
 obtain ⟨⟨a0, a1, a2⟩, ⟨a3, a4, a5, a6, a7, a8, a9⟩, a10, a11, a12⟩ := vrow13 hv
 exact k ⟨⟨⟨a0, a1, a2, a3, a4, a5, a6, a7, a8, a9, a10, a11, a12⟩, ⟨fZr 0 hv, fZr 1 hv, fZr 2 hv, fZr 3 hv, fZr 4 hv, fZr 5 hv, fZr 6 hv, fZr 7 hv, fZr 8 hv, fZr 9 hv, fZr 10 hv, fZr 11 hv, fZr 12 hv⟩, hv⟩, hl, by omega, by omega⟩
theorem VerR.alo {u : World} {hi : Nat} {D : Sd} {y : Vs} (h : VerR u hi D y) (hh : hi <= u.heap.size) (o : Obj) : VerR (u.alloc o) hi D y := h.below ((Below.refl hi u).alloc hh o)
theorem verS {u : World} {hi A N M : Nat} {cr : Bool} {y : Vs} {t : ByteArray} {a b c : Value} (h : VerR u hi (Sd.of cr N M) y) (hq : u.cell? ⟨A, 0, none⟩ = some (.string t)) : VerR (((u.setCell ⟨A, 0, none⟩ a).setCell ⟨A, 1, none⟩ b).setCell ⟨A, 2, none⟩ c) hi (Sd.of cr N M) y :=
 VerR.st (Q := A) h (((Kp.set u 0 a).trans (Kp.set _ 1 b)).trans (Kp.set _ 2 c)) hq
theorem verV {u : World} {hi A N M : Nat} {cr : Bool} {y : Vs} {v0 v1 v2 v3 v4 v5 v6 v7 : Value} (h : VerR u hi (Sd.of cr N M) y) (hq : u.cell? ⟨A, 0, none⟩ = some (.int .i64 0)) (hq3 : u.cell? ⟨A, 3, none⟩ = some (.slice none 0 0)) : VerR ((((((((u.setCell ⟨A, 0, none⟩ v0).setCell ⟨A, 1, none⟩ v1).setCell ⟨A, 2, none⟩ v2).setCell ⟨A, 3, none⟩ v3).setCell ⟨A, 4, none⟩ v4).setCell ⟨A, 5, none⟩ v5).setCell ⟨A, 6, none⟩ v6).setCell ⟨A, 7, none⟩ v7) hi (Sd.of cr N M) y :=
 VerR.vz (Q := A) h (eight_kp u A v0 v1 v2 v3 v4 v5 v6 v7) hq hq3
theorem three_cell {u : World} {A B j : Nat} {a b c : Value} (hne : B ≠ A) : (((u.setCell ⟨A, 0, none⟩ a).setCell ⟨A, 1, none⟩ b).setCell ⟨A, 2, none⟩ c).cell? ⟨B, j, none⟩ = u.cell? ⟨B, j, none⟩ := by
 rw [World.cell?_setCell_far _ _ _ _ (fun e => hne e.symm), World.cell?_setCell_far _ _ _ _ (fun e => hne e.symm), World.cell?_setCell_far _ _ _ _ (fun e => hne e.symm)]
abbrev bnCells (w' : World) (P : Nat) (SA : Option Addr) (k sc : Nat) (RA : Option Addr) (rc : Nat) (d0 md : Int) (MA : Option Addr) (mc : Nat) : Prop := w'.cell? ⟨P, 0, none⟩ = some (.slice SA k sc) /\ w'.cell? ⟨P, 1, none⟩ = some (.slice RA 1 rc) /\ w'.cell? ⟨P, 2, none⟩ = some (.slice none 0 0) /\ w'.cell? ⟨P, 3, none⟩ = some (.int .i64 d0) /\ w'.cell? ⟨P, 4, none⟩ = some (.int .i64 0) /\ w'.cell? ⟨P, 5, none⟩ = some (.int .i64 md) /\ w'.cell? ⟨P, 6, none⟩ = some (.int .i64 730) /\ w'.cell? ⟨P, 7, none⟩ = some (.int .i64 25) /\ w'.cell? ⟨P, 8, none⟩ = some (.slice MA k mc)
theorem totcells {ws : List Sp} {md : Int} {W : World} {g : Nat} (hr : W.heap[g]? = some (.cells #[.int .i64 (dW ws 0), .int .i64 (dW ws 1), .int .i64 (dW ws 2), .int .i64 (dW ws 3), .int .i64 (dW ws 4), .int .i64 (dW ws 5), .bool (fW ws md 0), .bool (fW ws md 1), .bool (fW ws md 2), .bool (fW ws md 3), .bool (fW ws md 4), .bool (fW ws md 5), .int .i64 (sT ws 6), .int .i64 (bT ws md 6), .int .i64 (lT ws 6)] 109)) : W.cell? ⟨g, 0, none⟩ = some (.int .i64 (dW ws 0)) /\ W.cell? ⟨g, 1, none⟩ = some (.int .i64 (dW ws 1)) /\ W.cell? ⟨g, 2, none⟩ = some (.int .i64 (dW ws 2)) /\ W.cell? ⟨g, 3, none⟩ = some (.int .i64 (dW ws 3)) /\ W.cell? ⟨g, 4, none⟩ = some (.int .i64 (dW ws 4)) /\ W.cell? ⟨g, 5, none⟩ = some (.int .i64 (dW ws 5)) /\ W.cell? ⟨g, 6, none⟩ = some (.bool (fW ws md 0)) /\ W.cell? ⟨g, 7, none⟩ = some (.bool (fW ws md 1)) /\ W.cell? ⟨g, 8, none⟩ = some (.bool (fW ws md 2)) /\ W.cell? ⟨g, 9, none⟩ = some (.bool (fW ws md 3)) /\ W.cell? ⟨g, 10, none⟩ = some (.bool (fW ws md 4)) /\ W.cell? ⟨g, 11, none⟩ = some (.bool (fW ws md 5)) /\ W.cell? ⟨g, 12, none⟩ = some (.int .i64 (sT ws 6)) /\ W.cell? ⟨g, 13, none⟩ = some (.int .i64 (bT ws md 6)) /\ W.cell? ⟨g, 14, none⟩ = some (.int .i64 (lT ws 6)) := by
 refine ⟨?_, ?_, ?_, ?_, ?_, ?_, ?_, ?_, ?_, ?_, ?_, ?_, ?_, ?_, ?_⟩ <;> rw [cOr hr] <;> rfl
theorem rs_cont {u v : World} {A : Nat} {P : Prop} (b : Below u.heap.size u v) (h : u.heap[A]? = some (rsBox false 0 0 none 0 0)) (k : ((v.cell? ⟨A, 0, none⟩ = some (.bool false) /\ v.cell? ⟨A, 1, none⟩ = some (.int .i64 0) /\ v.cell? ⟨A, 2, none⟩ = some (.int .i64 0) /\ v.cell? ⟨A, 3, none⟩ = some (.slice none 0 0)) /\ (v.frozen? ⟨A, 0, none⟩ = false /\ v.frozen? ⟨A, 1, none⟩ = false /\ v.frozen? ⟨A, 2, none⟩ = false /\ v.frozen? ⟨A, 3, none⟩ = false) /\ v.heap[A]? = some (rsBox false 0 0 none 0 0)) /\ A < v.heap.size /\ A ≠ v.heap.size /\ v.heap.size ≠ A -> P) : P := by
 have hv := (b.block _ (gis h).1).trans h
 have hl := (gis hv).1
 exact k ⟨⟨(rsbox hv).1, (rsbox hv).2, hv⟩, hl, by omega, by omega⟩
theorem vwflat {W : World} {g : Nat} {v : Vw} (hr : W.heap[g]? = some (vwBox v)) : W.cell? ⟨g, 0, none⟩ = some (.int .i64 v.ag) /\ W.cell? ⟨g, 1, none⟩ = some (.int .i64 v.yr) /\ W.cell? ⟨g, 2, none⟩ = some (.int .i64 v.ch) /\ W.cell? ⟨g, 3, none⟩ = some (.int .i64 v.d0) /\ W.cell? ⟨g, 4, none⟩ = some (.int .i64 v.d1) /\ W.cell? ⟨g, 5, none⟩ = some (.int .i64 v.d2) /\ W.cell? ⟨g, 6, none⟩ = some (.int .i64 v.d3) /\ W.cell? ⟨g, 7, none⟩ = some (.int .i64 v.d4) /\ W.cell? ⟨g, 8, none⟩ = some (.int .i64 v.d5) /\ W.cell? ⟨g, 9, none⟩ = some (.int .i64 v.d6) /\ W.cell? ⟨g, 10, none⟩ = some (.int .i64 (v.bn : Int)) /\ W.cell? ⟨g, 11, none⟩ = some (.int .i64 (v.bd : Int)) /\ W.cell? ⟨g, 12, none⟩ = some (.slice v.A v.n v.c) := by
 obtain ⟨⟨a0, a1, a2⟩, ⟨a3, a4, a5, a6, a7, a8, a9⟩, a10, a11, a12⟩ := vwbox hr
 exact ⟨a0, a1, a2, a3, a4, a5, a6, a7, a8, a9, a10, a11, a12⟩
theorem fill_ok {b : Bn} {x : St} {nm : By} {cr : Bool} {N M n c d s R : Nat} {rv : Rv} {A : Option Addr} {L : List Fc} {ws : List Sp} {w : World} (hP : Pur b nm N M n L ws rv d) (hI : Inp w R b x nm cr N M rv A n L)
  (hM : w.ownsRow (R + 1) 3 1 (.slice b.MA b.k b.mc) b.k (ints (sts b.k))) (hs : s < b.k) (hw : Mt w) (hR : w.heap[R]? = some (awBox s 1 d false 0 0 0 0 0 0 none 0 0)) (hR4 : 4 <= R) :
  Calls Tryz.prog 21 #[b.agg, .pointer (some ⟨R, 0, none⟩), .slice A n c] w fun e w' => e = .returned (.int .i64 0) /\ (∃ XA xc, w'.heap[R]? = some (.cells (awdC ws b.md N M d (s, XA, xc)).toArray 43)) /\ Kp R w w' := by
 obtain ⟨W, hW, bW, rW⟩ := bn_new w b
 have lR := (gis hR).1
 have lW := (gis rW).1
 have hzW := bW.size
 have kW : Kp R w W := Kp.of bW
 have rR : W.heap[R]? = some (awBox s 1 d false 0 0 0 0 0 0 none 0 0) := (bW.block _ lR).trans hR
 have h6 : ws.length <= 6 := lTr hP.hk hP.k6
 have hs6 : s < 6 := lLt hs hP.k6
 have hIu : ∀ u, Kp R W u -> Inp u u.heap.size b x nm cr N M rv A n L := fun u hu => by
  have k1 := kW.trans hu
  exact (hI.below (k1.bel (Nat.le_refl R) lR)).mono (by have := k1.size; omega)
 have hMu : ∀ u, Kp R W u -> Rd u u.heap.size 1 b.MA b.k (ints (sts b.k)) := fun u hu => Rd.ofOwn (own_kp hM (kW.trans hu) (by omega))
 have HMT := hID (fun (u : World) (hu : Kp R W u) => hw.low ((kW.trans hu).bel (Nat.le_refl R) lR) hR4)
 have HBX := hID (fun (u : World) (hu : Kp R W u) => bnbox (hu.at rW (by omega)))
 have HVE := hID (fun (u : World) (hu : Kp R W u) => bversion_ok (w := u) (hIu u hu).S hs hP.k6 (show StR u u.heap.size ⟨cr, ciN N, pyM M⟩ x from (hIu u hu).T) hP.d3 hP.day)
 have HCN := hID (fun (u : World) (hu : Kp R W u) => counted_ok (c := c) (w := u) hP (hIu u hu) (hMu u hu) hs)
 have HVW := hID (fun (u : World) (hu : Kp R W u) (total : Bool) (KA : Option Addr) (kc : Nat) (K : List Pr) (hC : Ctd ws K) (hK : Rd u u.heap.size 4 KA K.length (flat Pr.ccells K)) => view_ok (c := c) (kc := kc) (w := u) total hP (hIu u hu) hC hK hs)
 have HME := hID (fun (u : World) (hu : Kp R W u) => (member_ok (b := b) (w := u) (s : Int) (hMu u hu) hP.k0 hP.k6).mono (R' := fun e w' => e = .returned (.bool true) /\ Below u.heap.size u w') (fun e w' h => ⟨by rw [h.1, mem_sts, decide_eq_true hs], h.2⟩))
 have hmd : 0 <= b.md /\ b.md <= 73049 := by rw [<- hP.rd]; exact hP.ru.d
 have HCO := hID (fun (u : World) (KA : Option Addr) (kc : Nat) (K : List Pr) (hC : Ctd ws K) (hK : Rd u u.heap.size 4 KA K.length (flat Pr.ccells K)) => compute_any (c := kc) (md := b.md) (ws := ws) (lo := 0) (w := u) hK rfl (by have := hC.1; omega) (Int.le_refl 0) hP.hw h6 (fun i => ctd_nf hC (Int.le_refl 0) hP.hw i (.inl rfl)) hmd |>.mono (R' := fun e w' => e = .returned (.agg #[.int .i64 (dW ws 0), .int .i64 (dW ws 1), .int .i64 (dW ws 2), .int .i64 (dW ws 3), .int .i64 (dW ws 4), .int .i64 (dW ws 5), .bool (fW ws b.md 0), .bool (fW ws b.md 1), .bool (fW ws b.md 2), .bool (fW ws b.md 3), .bool (fW ws b.md 4), .bool (fW ws b.md 5), .int .i64 (sT ws 6), .int .i64 (bT ws b.md 6), .int .i64 (lT ws 6)]) /\ Below u.heap.size u w') (fun e w' h => ⟨by rw [h.1]; rfl, h.2⟩))
 have hFR := fun u => fraction_any ws b.md hs6 u
 have hfb := frW_bd (md := b.md) (Int.le_refl 0) (by omega) hP.hw h6 hs6
 obtain ⟨fw, hfw⟩ : ∃ fw, fW ws b.md s = fw := ⟨_, rfl⟩
 obtain ⟨nu, hnu⟩ : ∃ nu : Nat, (frW ws b.md s).1 = (nu : Int) := ⟨(frW ws b.md s).1.toNat, by omega⟩
 obtain ⟨de, hde⟩ : ∃ de : Nat, (frW ws b.md s).2 = (de : Int) := ⟨(frW ws b.md s).2.toNat, by omega⟩
 rw [hnu, hde] at hfb hFR
 have hDo := dW_bd (Int.le_refl 0) hP.hw s
 have hDt := (sumW_bd hP.hw (by omega)).1
 obtain ⟨Do, hDo2⟩ : ∃ Do : Nat, dW ws s = (Do : Int) := ⟨(dW ws s).toNat, by omega⟩
 obtain ⟨Dt, hDt2⟩ : ∃ Dt : Nat, sumW ws = (Dt : Int) := ⟨(sumW ws).toNat, by omega⟩
 obtain ⟨OO, hOO⟩ : ∃ OO : Nat, (if N <= Do then (M : Int) else 0) = (OO : Int) := by
  by_cases h : N <= Do
  ·exact ⟨M, by simp [h]⟩
  ·exact ⟨0, by simp [h]⟩
 obtain ⟨TT, hTT⟩ : ∃ TT : Nat, (if N <= Dt then (M : Int) else 0) = (TT : Int) := by
  by_cases h : N <= Dt
  ·exact ⟨M, by simp [h]⟩
  ·exact ⟨0, by simp [h]⟩
 have hTM : TT <= 1000000 := by have := hP.hM; split at hTT <;> omega
 obtain ⟨on, hon⟩ : ∃ on : Nat, (if N <= Do then 2 else 1) = on := ⟨_, rfl⟩
 obtain ⟨tn, htn⟩ : ∃ tn : Nat, (if N <= Dt then 2 else 1) = tn := ⟨_, rfl⟩
 have HPO := hID (fun (u : World) (hu : Kp R W u) (y : Vs) (v : Vw) (hy : VerR u u.heap.size (Sd.of cr N M) y) (hv : VwOk u u.heap.size v) (hd : v.d0 = dW ws s) => (pay_ok (D0 := Do) hy hv (lRf) hP.hN hP.hM (hd.trans hDo2) (HMT.out u hu)).mono (R' := fun r w' => ∃ (A : Option Addr) (c : Nat) (y : Bool), r = .returned (.tuple #[.agg #[.bool y, .int .i64 (OO : Int), .int .i64 1, .slice A on c], .int .i64 (OO : Int), .int .i64 0]) /\ Below u.heap.size u w') (fun r w' h => by
  obtain ⟨A, c, e, hb⟩ := h
  rw [hOO, hon] at e
  exact ⟨A, c, _, e, hb⟩))
 have HPT := hID (fun (u : World) (hu : Kp R W u) (y : Vs) (v : Vw) (hy : VerR u u.heap.size (Sd.of cr N M) y) (hv : VwOk u u.heap.size v) (hd : v.d0 = sumW ws) => (pay_ok (D0 := Dt) hy hv (lRf) hP.hN hP.hM (hd.trans hDt2) (HMT.out u hu)).mono (R' := fun r w' => ∃ (A : Option Addr) (c : Nat) (y : Bool), r = .returned (.tuple #[.agg #[.bool y, .int .i64 (TT : Int), .int .i64 1, .slice A tn c], .int .i64 (TT : Int), .int .i64 0]) /\ Below u.heap.size u w') (fun r w' h => by
  obtain ⟨A, c, e, hb⟩ := h
  rw [hTT, htn] at e
  exact ⟨A, c, _, e, hb⟩))
 obtain ⟨PP, hPP⟩ : ∃ PP : Nat, TT * nu / de = PP := ⟨_, rfl⟩
 have hSH := fun u => share_ok TT nu de hTM (by omega) (by omega) (by omega) (by omega) u
 rw [hPP] at hSH
 have HFI : Hid (∀ (ind theo pro amt : Int) (sn : Nat) (XA : Option Addr) (xc : Nat), ind = (if fw then 0 else (OO : Int)) -> theo = (if nu = 0 then 0 else (TT : Int)) -> pro = (if nu = 0 then 0 else (PP : Int)) -> amt = (if ind < pro then pro else ind) -> sn = (if ind < pro then tn else if fw then 0 else on) →
   awdC ws b.md N M d (s, XA, xc) = [.int .i64 (s : Int), .int .i64 1, .int .i64 (d : Int), .int .i64 0, .bool fw, .int .i64 ind, .int .i64 theo, .int .i64 pro, .int .i64 (nu : Int), .int .i64 (de : Int), .int .i64 amt, .slice XA sn xc]) := hID (by
  intro ind theo pro amt sn XA xc e1 e2 e3 e4 e5
  have a1 : aI ws b.md N M s = ind := by
   unfold aI
   rw [hfw, e1, hDo2, <- hOO]
   simp only [Int.ofNat_le]
  have a2 : aT ws b.md N M s = theo := by
   unfold aT
   rw [hnu, e2, hDt2, <- hTT]
   simp only [Int.ofNat_le, Int.natCast_eq_zero]
  have a3 : aP ws b.md N M s = pro := by
   unfold aP
   rw [a2, hnu, hde, e3, e2, <- hPP]
   by_cases h0 : nu = 0
   ·simp [h0]
   ·rw [if_neg (by omega), if_neg h0, if_neg h0]
    simp
  refine awdC_eq hfw (Prod.ext hnu hde) a1 a2 a3 ?_ ?_
  ·unfold aA
   rw [a1, a3, e4]
  ·unfold aS
   rw [a1, a3, e5, hfw, hDo2, hDt2, <- hon, <- htn]
   simp only [Int.ofNat_le])
 have hfwT : (totA ws b.md 6)[6 + s]? = some (.bool fw) := by rw [(tot_at ws b.md s hs6).2, hfw]
 have HFW := hID hfwT
 have hmdb := hP.rd
 clear hOO hTT hon htn hPP hDo hDt hDo2 hDt2 hnu hde hfw hfwT hIu hMu hI hM hw hP h6 hmd hmdb hTM
 obtain ⟨SA, k, sc, RA, rc, d0, md, MA, mc⟩ := b
 unfold Bn.agg at *
 unfold St.agg at HVE
 unfold totV at hFR
 dsimp only [bnBox] at hW hs HBX HVE HCN HVW HME HCO hFR HFI ⊢
 go_enter Tryz.func21, Tryz.ntmps21
 go_upto_region 1 with (fail)
 clear hW
 have k0 : Kp R W W := Kp.refl _ _
 obtain ⟨c0, c1, c2, c3, c4, c5, c6, c7, c8⟩ := HBX.out W k0
 obtain ⟨⟨q0, q1, _, _⟩, _⟩ := awbox rR
 have HS1 := hID (fun (u : World) (hu : Below W.heap.size W u) => (And.intro (HBX.out u (Kp.of hu)) (awbox ((hu.block _ (lLt lR hzW)).trans rR)).1.1))
 go_cut [8, 9] from 20 to 30 (fun q e wx => ∃ (B : Nat) (y : Vs), q = .pointer (some ⟨B, 0, none⟩) /\ e = .int .i64 0 /\ wx.heap[B]? = some (verBox y) /\ VerR wx wx.heap.size (Sd.of cr N M) y /\ Below W.heap.size W wx /\ R < B)
 case first =>
  have hn12 : W.heap.size ≠ W.heap.size + 1 := by omega
  have hn21 : W.heap.size + 1 ≠ W.heap.size := by omega
  go_region_held3 (fun w' => (w'.cell? ⟨w.heap.size, 0, none⟩ = some (.slice SA k sc) /\ w'.cell? ⟨w.heap.size, 1, none⟩ = some (.slice RA 1 rc) /\ w'.cell? ⟨w.heap.size, 2, none⟩ = some (.slice none 0 0) /\ w'.cell? ⟨w.heap.size, 3, none⟩ = some (.int .i64 d0) /\ w'.cell? ⟨w.heap.size, 4, none⟩ = some (.int .i64 0) /\ w'.cell? ⟨w.heap.size, 5, none⟩ = some (.int .i64 md) /\ w'.cell? ⟨w.heap.size, 6, none⟩ = some (.int .i64 730) /\ w'.cell? ⟨w.heap.size, 7, none⟩ = some (.int .i64 25) /\ w'.cell? ⟨w.heap.size, 8, none⟩ = some (.slice MA k mc)) /\ w'.cell? ⟨R, 0, none⟩ = some (.int .i64 (s : Int))) (exact HS1.out _ (by (focus ((repeat (first | (with_reducible assumption) | (with_reducible exact bRf) | (with_reducible refine Below.drew ?_) | (with_reducible refine bel_alloc ?_ _) | (with_reducible refine bel_set ?_ _ (by first | exact lRf | exact Nat.le_succ _ | exact hz3 | exact Nat.le_succ_of_le hz3)))); done)))) ((go_at_call 34; (with_reducible refine (HVE.out _ (Kp.of (by (focus ((repeat (first | (with_reducible assumption) | (with_reducible exact bRf) | (with_reducible refine Below.drew ?_) | (with_reducible refine bel_alloc ?_ _) | (with_reducible refine bel_set ?_ _ (by first | exact lRf | exact Nat.le_succ _ | exact hz3 | exact Nat.le_succ_of_le hz3)))); done))))).mono ?_); rintro e w3 ⟨y, rfl, hy, b3⟩; have bb3 : Below W.heap.size W w3 := below_at b3 (by (focus ((repeat (first | (with_reducible assumption) | (with_reducible exact bRf) | (with_reducible refine Below.drew ?_) | (with_reducible refine bel_alloc ?_ _) | (with_reducible refine bel_set ?_ _ (by first | exact lRf | exact Nat.le_succ _ | exact hz3 | exact Nat.le_succ_of_le hz3)))); done))); have hz3 := bb3.size; have hyS : VerR w3 w3.heap.size (Sd.of cr N M) y := hy; dsimp only [Vs.agg]; (try (refine st_cont (A := W.heap.size) b3 ?_ ?_; (focus ((repeat (first | (with_reducible assumption) | ((with_reducible refine row_newA ?_); rfl) | ((with_reducible refine row_newB ?_); rfl) | ((with_reducible refine row_newI (by simp only [World.size_setCell]) ?_); rfl) | (with_reducible refine row_drew ?_) | (with_reducible refine row_alloc _ ?_))); done)); rintro ⟨⟨⟨ka0, ka1, ka2⟩, ⟨kb0, kb1, kb2⟩, lar⟩, la1, la2, la3⟩)); (try (refine st_cont (A := W.heap.size + 1) b3 ?_ ?_; (focus ((repeat (first | (with_reducible assumption) | ((with_reducible refine row_newA ?_); rfl) | ((with_reducible refine row_newB ?_); rfl) | ((with_reducible refine row_newI (by simp only [World.size_setCell]) ?_); rfl) | (with_reducible refine row_drew ?_) | (with_reducible refine row_alloc _ ?_))); done)); rintro ⟨⟨⟨kc0, kc1, kc2⟩, ⟨kd0, kd1, kd2⟩, lbr⟩, lb1, lb2, lb3⟩)); (try (refine vz_cont (A := W.heap.size) b3 ?_ ?_; (focus ((repeat (first | (with_reducible assumption) | ((with_reducible refine row_newA ?_); rfl) | ((with_reducible refine row_newB ?_); rfl) | ((with_reducible refine row_newI (by simp only [World.size_setCell]) ?_); rfl) | (with_reducible refine row_drew ?_) | (with_reducible refine row_alloc _ ?_))); done)); rintro ⟨⟨⟨ke0, ke1, ke2, ke3, ke4, ke5, ke6, ke7⟩, ⟨kf0, kf1, kf2, kf3, kf4, kf5, kf6, kf7⟩, lcr⟩, lc1, lc2, lc3⟩)); (try (refine vz_cont (A := W.heap.size + 1) b3 ?_ ?_; (focus ((repeat (first | (with_reducible assumption) | ((with_reducible refine row_newA ?_); rfl) | ((with_reducible refine row_newB ?_); rfl) | ((with_reducible refine row_newI (by simp only [World.size_setCell]) ?_); rfl) | (with_reducible refine row_drew ?_) | (with_reducible refine row_alloc _ ?_))); done)); rintro ⟨⟨⟨kg0, kg1, kg2, kg3, kg4, kg5, kg6, kg7⟩, ⟨kh0, kh1, kh2, kh3, kh4, kh5, kh6, kh7⟩, ldr⟩, ld1, ld2, ld3⟩))))
  all_goals
   go_wp2_with fail
   go_meet
   refine ⟨_, y, rfl, rfl, ?_, ?_, ?_, ?_⟩
   ·(focus ((repeat (first | (with_reducible assumption) | ((with_reducible refine row_newA ?_); rfl) | ((with_reducible refine row_newB ?_); rfl) | ((with_reducible refine row_newI (by simp only [World.size_setCell]) ?_); rfl) | (with_reducible refine row_drew ?_) | (with_reducible refine row_alloc _ ?_) | (with_reducible refine eight_row ?_ y) | (with_reducible refine row_three (by first | assumption | omega | (simp; omega)) _ _ _ ?_))); done))
   ·refine VerR.mono (hi := w3.heap.size) ?_ (by (try simp only [World.size_alloc, World.size_setCell]) <;> omega)
    repeat (first
     | (with_reducible exact hyS)
     | (with_reducible refine VerR.alo ?_ (by (try simp only [World.size_alloc, World.size_setCell]) <;> omega) _)
     | (with_reducible refine verS ?_ (by first | (with_reducible exact ka0) | (with_reducible exact kc0)))
     | (with_reducible refine verV ?_ (by first | (with_reducible exact ke0) | (with_reducible exact kg0) | (rw [three_cell hn12]; (with_reducible exact ke0)) | (rw [three_cell hn21]; (with_reducible exact kg0))) (by first | (with_reducible exact ke3) | (with_reducible exact kg3) | (rw [three_cell hn12]; (with_reducible exact ke3)) | (rw [three_cell hn21]; (with_reducible exact kg3)))))
   ·(focus ((repeat (first | (with_reducible assumption) | (with_reducible exact bRf) | (with_reducible refine Below.drew ?_) | (with_reducible refine bel_alloc ?_ _) | (with_reducible refine bel_set ?_ _ (by first | exact lRf | exact Nat.le_succ _ | exact hz3 | exact Nat.le_succ_of_le hz3)))); done))
   ·first | omega | (simp; omega)
 case rest =>
  obtain ⟨B, y, rfl, rfl, rB, hyV, hbB, hRB⟩ := hcut
  clear HS1 c0 c1 c2 c3 c4 c5 c6 c7 c8 q0 q1
  obtain ⟨wa, hwa⟩ : ∃ u, u = wc := ⟨_, rfl⟩
  subst hwa
  have kc : Kp R W wa := Kp.of hbB
  have rRc := (hbB.block _ (lLt lR hzW)).trans rR
  have lRc := (gis rRc).1
  have hzc := hbB.size
  have HS2 := hID (fun (u : World) (hu : Below wa.heap.size wa u) => (And.intro (HBX.out u (kc.trans (Kp.of hu))) (awbox ((hu.block _ lRc).trans rRc)).1.1))
  obtain ⟨⟨c0, c1, c2, c3, c4, c5, c6, c7, c8⟩, q0⟩ := HS2.out wa (bRf)
  go_wp2_with fail
  go_cut [10] from 33 to 40 (fun q wx => ∃ (KA : Option Addr) (kc : Nat) (K : List Pr), q = .slice KA K.length kc /\ Ctd ws K /\ wx.ownsRow wa.heap.size 236 4 (.slice KA K.length kc) K.length (flat Pr.ccells K) /\ Below wa.heap.size wa wx)
  case first =>
   go_region_held3 (fun w' => (w'.cell? ⟨w.heap.size, 0, none⟩ = some (.slice SA k sc) /\ w'.cell? ⟨w.heap.size, 1, none⟩ = some (.slice RA 1 rc) /\ w'.cell? ⟨w.heap.size, 2, none⟩ = some (.slice none 0 0) /\ w'.cell? ⟨w.heap.size, 3, none⟩ = some (.int .i64 d0) /\ w'.cell? ⟨w.heap.size, 4, none⟩ = some (.int .i64 0) /\ w'.cell? ⟨w.heap.size, 5, none⟩ = some (.int .i64 md) /\ w'.cell? ⟨w.heap.size, 6, none⟩ = some (.int .i64 730) /\ w'.cell? ⟨w.heap.size, 7, none⟩ = some (.int .i64 25) /\ w'.cell? ⟨w.heap.size, 8, none⟩ = some (.slice MA k mc)) /\ w'.cell? ⟨R, 0, none⟩ = some (.int .i64 (s : Int))) (exact HS2.out _ (by (focus ((repeat (first | (with_reducible assumption) | (with_reducible exact bRf) | (with_reducible refine Below.drew ?_) | (with_reducible refine bel_alloc ?_ _) | (with_reducible refine bel_set ?_ _ (by first | exact lRf | exact Nat.le_succ _ | exact hz3 | exact Nat.le_succ_of_le hz3)))); done)))) ((go_at_call 35; (with_reducible refine (HCN.out _ kc.drew).mono ?_); rintro e w3 ⟨KA, kc2, K, rfl, hC, hoK, b3⟩; have bb3 : Below wa.heap.size wa w3 := (Below.refl wa.heap.size wa).drew.trans b3; have hz3 := bb3.size))
   all_goals
    go_wp2_with fail
    go_meet
    exact ⟨KA, kc2, K, rfl, hC, hoK, bb3⟩
  case rest =>
   obtain ⟨KA, kc2, K, rfl, hC, hoK, bK⟩ := hcut
   obtain ⟨wk, hwk⟩ : ∃ u, u = wc := ⟨_, rfl⟩
   subst hwk
   clear HS2 c0 c1 c2 c3 c4 c5 c6 c7 c8 q0
   have kk : Kp R W wk := kc.trans (Kp.of bK)
   have rRk := (bK.block _ lRc).trans rRc
   have lRk := (gis rRk).1
   have HS3 := hID (fun (u : World) (hu : Below wk.heap.size wk u) => (And.intro (HBX.out u (kk.trans (Kp.of hu))) (awbox ((hu.block _ lRk).trans rRk)).1.1))
   obtain ⟨⟨c0, c1, c2, c3, c4, c5, c6, c7, c8⟩, q0⟩ := HS3.out wk (bRf)
   have HKR := hID (fun (u : World) (hu : Below wk.heap.size wk u) => Rd.ofOwn (own_underF hoK hu))
   go_wp2_with fail
   go_cut [11, 9] from 40 to 51 (fun q e wx => ∃ (V1 : Nat) (v : Vw), q = .pointer (some ⟨V1, 0, none⟩) /\ e = .int .i64 0 /\ wx.heap[V1]? = some (vwBox v) /\ R < V1 /\ v.d0 = dW ws s /\ (∀ u, Up wk.heap.size wx u -> VwOk u u.heap.size v) /\ Below wk.heap.size wk wx)
   case first =>
    go_region_held3 (fun w' => (w'.cell? ⟨w.heap.size, 0, none⟩ = some (.slice SA k sc) /\ w'.cell? ⟨w.heap.size, 1, none⟩ = some (.slice RA 1 rc) /\ w'.cell? ⟨w.heap.size, 2, none⟩ = some (.slice none 0 0) /\ w'.cell? ⟨w.heap.size, 3, none⟩ = some (.int .i64 d0) /\ w'.cell? ⟨w.heap.size, 4, none⟩ = some (.int .i64 0) /\ w'.cell? ⟨w.heap.size, 5, none⟩ = some (.int .i64 md) /\ w'.cell? ⟨w.heap.size, 6, none⟩ = some (.int .i64 730) /\ w'.cell? ⟨w.heap.size, 7, none⟩ = some (.int .i64 25) /\ w'.cell? ⟨w.heap.size, 8, none⟩ = some (.slice MA k mc)) /\ w'.cell? ⟨R, 0, none⟩ = some (.int .i64 (s : Int))) (exact HS3.out _ (by (focus ((repeat (first | (with_reducible assumption) | (with_reducible exact bRf) | (with_reducible refine Below.drew ?_) | (with_reducible refine bel_alloc ?_ _) | (with_reducible refine bel_set ?_ _ (by first | exact lRf | exact Nat.le_succ _ | exact hz3 | exact Nat.le_succ_of_le hz3)))); done)))) ((go_at_call 36; (with_reducible refine (HVW.out _ (kk.trans (Kp.of (by (focus ((repeat (first | (with_reducible assumption) | (with_reducible exact bRf) | (with_reducible refine Below.drew ?_) | (with_reducible refine bel_alloc ?_ _) | (with_reducible refine bel_set ?_ _ (by first | exact lRf | exact Nat.le_succ _ | exact hz3 | exact Nat.le_succ_of_le hz3)))); done))))) false KA kc2 K hC (HKR.out _ (by (focus ((repeat (first | (with_reducible assumption) | (with_reducible exact bRf) | (with_reducible refine Below.drew ?_) | (with_reducible refine bel_alloc ?_ _) | (with_reducible refine bel_set ?_ _ (by first | exact lRf | exact Nat.le_succ _ | exact hz3 | exact Nat.le_succ_of_le hz3)))); done))))).mono ?_); rintro e w3 ⟨v, rfl, hv, hv0, b3, hvu⟩; have bb3 : Below wk.heap.size wk w3 := below_at b3 (by (focus ((repeat (first | (with_reducible assumption) | (with_reducible exact bRf) | (with_reducible refine Below.drew ?_) | (with_reducible refine bel_alloc ?_ _) | (with_reducible refine bel_set ?_ _ (by first | exact lRf | exact Nat.le_succ _ | exact hz3 | exact Nat.le_succ_of_le hz3)))); done))); have hz3 := bb3.size; have hd0 : Hid (v.d0 = dW ws s) := hID hv0; clear hv0; dsimp only [Vw.agg]; (try (refine vwz_cont (A := wk.heap.size) b3 ?_ ?_; (focus ((repeat (first | (with_reducible assumption) | ((with_reducible refine row_newA ?_); rfl) | (with_reducible refine row_drew ?_) | (with_reducible refine row_alloc _ ?_))); done)); rintro ⟨⟨⟨va0, va1, va2, va3, va4, va5, va6, va7, va8, va9, va10, va11, va12⟩, ⟨vb0, vb1, vb2, vb3, vb4, vb5, vb6, vb7, vb8, vb9, vb10, vb11, vb12⟩, ver⟩, ve1, ve2, ve3⟩))))
    all_goals
     go_wp2_with fail
     go_meet
    ·refine ⟨_, v, rfl, rfl, row_newA rfl, by omega, hd0.out, fun u hu => hvu u ((Up.bel ((Below.refl w3.heap.size w3).alloc (lRf) _)).trans hu), ?_⟩
     (focus ((repeat (first | (with_reducible assumption) | (with_reducible exact bRf) | (with_reducible refine Below.drew ?_) | (with_reducible refine bel_alloc ?_ _) | (with_reducible refine bel_set ?_ _ (by first | exact lRf | exact Nat.le_succ _ | exact hz3 | exact Nat.le_succ_of_le hz3)))); done))
    ·refine ⟨_, v, rfl, rfl, (setCells_at (vs := [.int .i64 v.ag, .int .i64 v.yr, .int .i64 v.ch, .int .i64 v.d0, .int .i64 v.d1, .int .i64 v.d2, .int .i64 v.d3, .int .i64 v.d4, .int .i64 v.d5, .int .i64 v.d6, .int .i64 (v.bn : Int), .int .i64 (v.bd : Int), .slice v.A v.n v.c]) ver rfl).1, lRk, hd0.out, fun u hu => hvu u (((Up.of (n := wk.heap.size + 1) (setCells_at (vs := [.int .i64 v.ag, .int .i64 v.yr, .int .i64 v.ch, .int .i64 v.d0, .int .i64 v.d1, .int .i64 v.d2, .int .i64 v.d3, .int .i64 v.d4, .int .i64 v.d5, .int .i64 v.d6, .int .i64 (v.bn : Int), .int .i64 (v.bd : Int), .slice v.A v.n v.c]) ver rfl).2 (by omega)).trans (hu.weak (by omega))).weak (by show _ <= (World.alloc _ _).heap.size; rw [World.size_alloc]; exact lRf)), ?_⟩
     (focus ((repeat (first | (with_reducible assumption) | (with_reducible exact bRf) | (with_reducible refine Below.drew ?_) | (with_reducible refine bel_alloc ?_ _) | (with_reducible refine bel_set ?_ _ (by first | exact lRf | exact Nat.le_succ _ | exact hz3 | exact Nat.le_succ_of_le hz3)))); done))
   case rest =>
    obtain ⟨V1, v, rfl, rfl, rV, hRV, hd0, hvu, bV⟩ := hcut
    obtain ⟨wy, hwy⟩ : ∃ u, u = wc := ⟨_, rfl⟩
    subst hwy
    clear HS3 c0 c1 c2 c3 c4 c5 c6 c7 c8 q0 HKR
    have lBa := (gis rB).1
    have hzk := bK.size
    have hzy := bV.size
    have ky : Kp R W wy := kk.trans (Kp.of bV)
    have rRy := (bV.block _ lRk).trans rRk
    have rBy := (bV.block _ (lLt lBa hzk)).trans ((bK.block _ lBa).trans rB)
    have hoKy := own_underF hoK bV
    have hyVy : VerR wy wy.heap.size (Sd.of cr N M) y := (((hyV.below bK).mono hzk).below bV).mono hzy
    have HK : Hid (∀ u, Kp R wy u -> bnCells u w.heap.size SA k sc RA rc d0 md MA mc /\ u.heap[B]? = some (verBox y) /\ u.heap[V1]? = some (vwBox v) /\ Rd u u.heap.size 4 KA K.length (flat Pr.ccells K) /\ VerR u u.heap.size (Sd.of cr N M) y /\ VwOk u u.heap.size v /\ Kp R W u) := hID (fun u hu =>
     ⟨HBX.out u (ky.trans hu), hu.at rBy (by omega), hu.at rV (by omega), Rd.ofOwn (own_kp hoKy hu (by omega)), (VerR.aw (cr := cr) (a := _) (b := _) (py := pyM M) hyVy hu rRy (by omega)).mono hu.size, hvu u (Up.of hu (by omega)), ky.trans hu⟩)
    have hv0 := hID hd0
    clear hd0 hvu hoKy hyVy hyV hoK rB rBy bV bK rV
    obtain ⟨⟨v0, v1, v2, v3⟩, ⟨v4, v5, v6, v7⟩, v8, v9, v10, v11⟩ := awbox rRy
    have y9 := fZr 9 rRy
    go_upto_region 9 with (fail)
    obtain ⟨u1, hu1⟩ : ∃ u, wy.setCell ⟨R, 9, none⟩ (.int .i64 1) = u := ⟨_, rfl⟩
    have r1 : u1.heap[R]? = some (awBox s 1 d false 0 0 0 0 1 0 none 0 0) := by rw [<- hu1]; exact hSs wy R 9 _ _ _ rRy
    have k1 : Kp R wy u1 := by rw [<- hu1]; exact Kp.set wy 9 _
    rw [hu1]
    clear hu1 v0 v1 v2 v3 v4 v5 v6 v7 v8 v9 v10 v11 y9 rRy
    have l1 := (gis r1).1
    obtain ⟨⟨v0, _, _, _⟩, _⟩ := awbox r1
    have HS4 := hID (fun (u : World) (hu : Below u1.heap.size u1 u) => (And.intro (HK.out u (k1.trans (Kp.of hu))).1 (awbox ((hu.block _ l1).trans r1)).1.1))
    obtain ⟨⟨c0, c1, c2, c3, c4, c5, c6, c7, c8⟩, q0⟩ := HS4.out u1 (bRf)
    go_region_held3 (fun w' => (w'.cell? ⟨w.heap.size, 0, none⟩ = some (.slice SA k sc) /\ w'.cell? ⟨w.heap.size, 1, none⟩ = some (.slice RA 1 rc) /\ w'.cell? ⟨w.heap.size, 2, none⟩ = some (.slice none 0 0) /\ w'.cell? ⟨w.heap.size, 3, none⟩ = some (.int .i64 d0) /\ w'.cell? ⟨w.heap.size, 4, none⟩ = some (.int .i64 0) /\ w'.cell? ⟨w.heap.size, 5, none⟩ = some (.int .i64 md) /\ w'.cell? ⟨w.heap.size, 6, none⟩ = some (.int .i64 730) /\ w'.cell? ⟨w.heap.size, 7, none⟩ = some (.int .i64 25) /\ w'.cell? ⟨w.heap.size, 8, none⟩ = some (.slice MA k mc)) /\ w'.cell? ⟨R, 0, none⟩ = some (.int .i64 (s : Int))) (first | exact HS4.out _ (bRf).drew | exact HS4.out _ bb9) ((go_at_call 37; (with_reducible refine (HME.out _ ((HK.out u1 k1).2.2.2.2.2.2).drew).mono ?_); rintro e w9 ⟨rfl, b9⟩; have bb9 : Below u1.heap.size u1 w9 := (Below.refl u1.heap.size u1).drew.trans b9))
    have k9 : Kp R wy w9 := k1.trans (Kp.of bb9)
    have r9 := (bb9.block _ l1).trans r1
    clear c0 c1 c2 c3 c4 c5 c6 c7 c8 q0 HS4 v0
    obtain ⟨c0, c1, c2, c3, c4, c5, c6, c7, c8⟩ := (HK.out w9 k9).1
    go_wp2_with fail
    refine (HCO.out w9 KA kc2 K hC (HK.out w9 k9).2.2.2.1).mono ?_
    rintro e w10 ⟨rfl, b10⟩
    have k10 : Kp R wy w10 := k9.trans (Kp.of b10)
    have r10 := (b10.block _ (gis r9).1).trans r9
    clear c0 c1 c2 c3 c4 c5 c6 c7 c8
    go_upto_region 11 with (fail)
    obtain ⟨w11, hw11, b11, r11⟩ := box_new w10 (.cells #[.int .i64 (dW ws 0), .int .i64 (dW ws 1), .int .i64 (dW ws 2), .int .i64 (dW ws 3), .int .i64 (dW ws 4), .int .i64 (dW ws 5), .bool (fW ws md 0), .bool (fW ws md 1), .bool (fW ws md 2), .bool (fW ws md 3), .bool (fW ws md 4), .bool (fW ws md 5), .int .i64 (sT ws 6), .int .i64 (bT ws md 6), .int .i64 (lT ws 6)] 109)
    rw [hw11]
    clear hw11
    have k11 : Kp R wy w11 := k10.trans (Kp.of b11)
    have rR11 := (b11.block _ (gis r10).1).trans r10
    have hRT : R < w10.heap.size := (gis r10).1
    have r11t : w11.heap[w10.heap.size]? = some (.cells (totA ws md 6).toArray 109 (0, 0)) := r11
    have hix : w11.cell? ⟨w10.heap.size, 6 + s, none⟩ = some (.bool fw) := row_cell r11t HFW.out
    have hlo : (0 : Int) <= (s : Int) := by omega
    have hhi : (s : Int) < 6 := by omega
    obtain ⟨⟨q0, _, _, _⟩, ⟨q4, _, _, _⟩, _⟩ := awbox rR11
    have y4 := fZr 4 rR11
    go_upto_region 12 with (fail)
    obtain ⟨u2, hu2⟩ : ∃ u, w11.setCell ⟨R, 4, none⟩ (.bool fw) = u := ⟨_, rfl⟩
    have r2 : u2.heap[R]? = some (awBox s 1 d fw 0 0 0 0 1 0 none 0 0) := by rw [<- hu2]; exact hSs w11 R 4 _ _ _ rR11
    have kRT : Kp R w11 u2 := by rw [<- hu2]; exact Kp.set w11 4 _
    have k2 : Kp R wy u2 := k11.trans kRT
    have t2 := kRT.at r11 (by omega)
    rw [hu2]
    clear hu2 hix q0 q4 y4 r11t rR11 r11 kRT b11 r10 k10
    have l2 := (gis r2).1
    have lt2 := (gis t2).1
    have HS5 := hID (fun (u : World) (hu : Below u2.heap.size u2 u) => (And.intro (totcells ((hu.block _ lt2).trans t2)) (awbox ((hu.block _ l2).trans r2)).1.1))
    obtain ⟨⟨t0, t1, t2', t3, t4, t5, t6, t7, t8, t9, t10, t11, t12, t13, t14⟩, q0⟩ := HS5.out u2 (bRf)
    go_cut [] from 78 to 93 (fun wx => wx.heap[R]? = some (awBox s 1 d fw 0 0 0 nu de 0 none 0 0) /\ Kp R wy wx)
    case first =>
     go_region_held3 (fun w' => (w'.cell? ⟨w10.heap.size, 0, none⟩ = some (.int .i64 (dW ws 0)) /\ w'.cell? ⟨w10.heap.size, 1, none⟩ = some (.int .i64 (dW ws 1)) /\ w'.cell? ⟨w10.heap.size, 2, none⟩ = some (.int .i64 (dW ws 2)) /\ w'.cell? ⟨w10.heap.size, 3, none⟩ = some (.int .i64 (dW ws 3)) /\ w'.cell? ⟨w10.heap.size, 4, none⟩ = some (.int .i64 (dW ws 4)) /\ w'.cell? ⟨w10.heap.size, 5, none⟩ = some (.int .i64 (dW ws 5)) /\ w'.cell? ⟨w10.heap.size, 6, none⟩ = some (.bool (fW ws md 0)) /\ w'.cell? ⟨w10.heap.size, 7, none⟩ = some (.bool (fW ws md 1)) /\ w'.cell? ⟨w10.heap.size, 8, none⟩ = some (.bool (fW ws md 2)) /\ w'.cell? ⟨w10.heap.size, 9, none⟩ = some (.bool (fW ws md 3)) /\ w'.cell? ⟨w10.heap.size, 10, none⟩ = some (.bool (fW ws md 4)) /\ w'.cell? ⟨w10.heap.size, 11, none⟩ = some (.bool (fW ws md 5)) /\ w'.cell? ⟨w10.heap.size, 12, none⟩ = some (.int .i64 (sT ws 6)) /\ w'.cell? ⟨w10.heap.size, 13, none⟩ = some (.int .i64 (bT ws md 6)) /\ w'.cell? ⟨w10.heap.size, 14, none⟩ = some (.int .i64 (lT ws 6))) /\ w'.cell? ⟨R, 0, none⟩ = some (.int .i64 (s : Int))) (first | exact HS5.out _ (bRf).drew | exact HS5.out _ bb13 | exact ⟨totcells ta, (awbox ra).1.1⟩ | exact ⟨totcells tb, (awbox rb).1.1⟩) ((go_at_call 39; (with_reducible refine (hFR _).mono ?_); rintro e w13 ⟨rfl, b13⟩; have bb13 : Below u2.heap.size u2 w13 := (Below.refl u2.heap.size u2).drew.trans b13; have r13 := (bb13.block _ l2).trans r2; have e8 := (awbox r13).2.2.1; have e9 := (awbox r13).2.2.2.1; have y8 := fZr 8 r13; have y9 := fZr 9 r13; have tt := (bb13.block _ lt2).trans t2; have ra := hSs w13 R 8 _ _ (.int .i64 (nu : Int)) r13; have rb := hSs (w13.setCell ⟨R, 8, none⟩ (.int .i64 (nu : Int))) R 9 _ _ (.int .i64 (de : Int)) ra; have ta := (Kp.set (R := R) w13 8 (.int .i64 (nu : Int))).at tt (by omega); have tb := ((Kp.set (R := R) w13 8 (.int .i64 (nu : Int))).trans (Kp.set _ 9 (.int .i64 (de : Int)))).at tt (by omega)))
     all_goals
      go_wp2_with fail
      go_meet
      exact ⟨rb, (k2.trans (Kp.of bb13)).trans ((Kp.set w13 8 _).trans (Kp.set _ 9 _))⟩
    case rest =>
     obtain ⟨w14, hw14⟩ : ∃ u, u = wc := ⟨_, rfl⟩
     subst hw14
     obtain ⟨r14, k14⟩ := hcut
     clear HS5 t0 t1 t2' t3 t4 t5 t6 t7 t8 t9 t10 t11 t12 t13 t14 q0 t2 r2 k2 l2 lt2 k11 k9 r9
     obtain ⟨⟨q0, q1, q2, q3⟩, ⟨q4, q5, q6, q7⟩, q8, q9, q10, q11⟩ := awbox r14
     go_upto_if 97 with (fail)
     go_cut [] from 98 to 121 (fun wx => ∃ (XA : Option Addr) (xc : Nat), wx.heap[R]? = some (awBox s 1 d fw (if fw then 0 else (OO : Int)) 0 0 nu de 0 XA (if fw then 0 else on) xc) /\ Kp R wy wx)
     case first =>
      cases fw
      case true =>
       go_wp2_with fail
       go_meet
       exact ⟨none, 0, r14, k14⟩
      case false =>
       have l14 := (gis r14).1
       have HS6 := hID (fun (u : World) (hu : Below w14.heap.size w14 u) => (And.intro (verbox (HK.out u (k14.trans (Kp.of hu))).2.1) (And.intro (vwflat (HK.out u (k14.trans (Kp.of hu))).2.2.1) (awbox ((hu.block _ l14).trans r14)).1.2.1)))
       obtain ⟨⟨e0, e1, e2, e3, e4, e5, e6, e7⟩, ⟨f0, f1, f2, f3, f4, f5, f6, f7, f8, f9, f10, f11, f12⟩, g1⟩ := HS6.out w14 (bRf)
       have HPU := hID (fun (u : World) (hu : Below w14.heap.size w14 u) => HPO.out u (HK.out u (k14.trans (Kp.of hu))).2.2.2.2.2.2 y v (HK.out u (k14.trans (Kp.of hu))).2.2.2.2.1 (HK.out u (k14.trans (Kp.of hu))).2.2.2.2.2.1 hv0.out)
       go_wp2_with fail
       go_cut [13, 14, 15] from 98 to 109 (fun p a e wx => ∃ (G : Nat) (XA : Option Addr) (xc : Nat) (yy : Bool), p = .pointer (some ⟨G, 0, none⟩) /\ a = .int .i64 (OO : Int) /\ e = .int .i64 0 /\ wx.heap[G]? = some (rsBox yy OO 1 XA on xc) /\ R < G /\ Below w14.heap.size w14 wx)
       case first =>
        unfold Vs.agg Vw.agg at HPU
        go_region_held3 (fun w' => (w'.cell? ⟨B, 0, none⟩ = some (.int .i64 0) /\ w'.cell? ⟨B, 1, none⟩ = some (.int .i64 1) /\ w'.cell? ⟨B, 2, none⟩ = some (.int .i64 1) /\ w'.cell? ⟨B, 3, none⟩ = some (.slice y.cA y.cn y.cc) /\ w'.cell? ⟨B, 4, none⟩ = some (.slice none 0 0) /\ w'.cell? ⟨B, 5, none⟩ = some (.slice none 0 0) /\ w'.cell? ⟨B, 6, none⟩ = some (.slice y.gA 1 y.gc) /\ w'.cell? ⟨B, 7, none⟩ = some (.slice none 0 0)) /\ (w'.cell? ⟨V1, 0, none⟩ = some (.int .i64 v.ag) /\ w'.cell? ⟨V1, 1, none⟩ = some (.int .i64 v.yr) /\ w'.cell? ⟨V1, 2, none⟩ = some (.int .i64 v.ch) /\ w'.cell? ⟨V1, 3, none⟩ = some (.int .i64 v.d0) /\ w'.cell? ⟨V1, 4, none⟩ = some (.int .i64 v.d1) /\ w'.cell? ⟨V1, 5, none⟩ = some (.int .i64 v.d2) /\ w'.cell? ⟨V1, 6, none⟩ = some (.int .i64 v.d3) /\ w'.cell? ⟨V1, 7, none⟩ = some (.int .i64 v.d4) /\ w'.cell? ⟨V1, 8, none⟩ = some (.int .i64 v.d5) /\ w'.cell? ⟨V1, 9, none⟩ = some (.int .i64 v.d6) /\ w'.cell? ⟨V1, 10, none⟩ = some (.int .i64 (v.bn : Int)) /\ w'.cell? ⟨V1, 11, none⟩ = some (.int .i64 (v.bd : Int)) /\ w'.cell? ⟨V1, 12, none⟩ = some (.slice v.A v.n v.c)) /\ w'.cell? ⟨R, 1, none⟩ = some (.int .i64 1)) (exact HS6.out _ (by (focus ((repeat (first | (with_reducible assumption) | (with_reducible exact bRf) | (with_reducible refine Below.drew ?_) | (with_reducible refine bel_alloc ?_ _) | (with_reducible refine bel_set ?_ _ (by first | exact lRf | exact Nat.le_succ _ | exact hz3 | exact Nat.le_succ_of_le hz3)))); done)))) ((go_at_call 40; (with_reducible refine (HPU.out _ (by (focus ((repeat (first | (with_reducible assumption) | (with_reducible exact bRf) | (with_reducible refine Below.drew ?_) | (with_reducible refine bel_alloc ?_ _) | (with_reducible refine bel_set ?_ _ (by first | exact lRf | exact Nat.le_succ _ | exact hz3 | exact Nat.le_succ_of_le hz3)))); done)))).mono ?_); rintro e w3 ⟨XA, xc, yy, rfl, b3⟩; have bb3 : Below w14.heap.size w14 w3 := below_at b3 (by (focus ((repeat (first | (with_reducible assumption) | (with_reducible exact bRf) | (with_reducible refine Below.drew ?_) | (with_reducible refine bel_alloc ?_ _) | (with_reducible refine bel_set ?_ _ (by first | exact lRf | exact Nat.le_succ _ | exact hz3 | exact Nat.le_succ_of_le hz3)))); done))); have hz3 := bb3.size; (try (refine rs_cont (A := w14.heap.size) b3 ?_ ?_; (focus ((repeat (first | (with_reducible assumption) | ((with_reducible refine row_newA ?_); rfl) | (with_reducible refine row_drew ?_) | (with_reducible refine row_alloc _ ?_))); done)); rintro ⟨⟨⟨va0, va1, va2, va3⟩, ⟨vb0, vb1, vb2, vb3⟩, ver⟩, ve1, ve2, ve3⟩))))
        all_goals
         go_wp2_with fail
         go_meet
        ·refine ⟨_, XA, xc, yy, rfl, rfl, rfl, row_newA rfl, by omega, ?_⟩
         (focus ((repeat (first | (with_reducible assumption) | (with_reducible exact bRf) | (with_reducible refine Below.drew ?_) | (with_reducible refine bel_alloc ?_ _) | (with_reducible refine bel_set ?_ _ (by first | exact lRf | exact Nat.le_succ _ | exact hz3 | exact Nat.le_succ_of_le hz3)))); done))
        ·refine ⟨_, XA, xc, yy, rfl, rfl, rfl, (setCells_at (vs := [.bool yy, .int .i64 (OO : Int), .int .i64 1, .slice XA on xc]) ver rfl).1, l14, ?_⟩
         (focus ((repeat (first | (with_reducible assumption) | (with_reducible exact bRf) | (with_reducible refine Below.drew ?_) | (with_reducible refine bel_alloc ?_ _) | (with_reducible refine bel_set ?_ _ (by first | exact lRf | exact Nat.le_succ _ | exact hz3 | exact Nat.le_succ_of_le hz3)))); done))
       case rest =>
        obtain ⟨w15, hw15⟩ : ∃ u, u = wc := ⟨_, rfl⟩
        subst hw15
        obtain ⟨G, XA, xc, yy, rfl, rfl, rfl, rG, hRG, b15⟩ := hcut
        clear e0 e1 e2 e3 e4 e5 e6 e7 f0 f1 f2 f3 f4 f5 f6 f7 f8 f9 f10 f11 f12 g1 q0 q1 q2 q3 q4 q5 q6 q7 q8 q9 q10 q11
        have r15 := (b15.block _ l14).trans r14
        obtain ⟨⟨s0, s1, s2, s3⟩, _⟩ := rsbox rG
        obtain ⟨_, ⟨_, q5, _, _⟩, _, _, _, q11⟩ := awbox r15
        have z5 := fZr 5 r15
        have z11 := fZr 11 r15
        go_wp2_with fail
        go_region
        all_goals
         go_wp2_with fail
         go_meet
         exact ⟨XA, xc, row_drew (hSs (w15.setCell ⟨R, 5, none⟩ (.int .i64 (OO : Int))) R 11 _ _ (.slice XA on xc) (hSs w15 R 5 _ _ (.int .i64 (OO : Int)) r15)), (k14.trans (Kp.of b15)).trans (((Kp.set w15 5 _).trans (Kp.set _ 11 _)).drew)⟩
     case rest =>
      obtain ⟨w16, hw16⟩ : ∃ u, u = wc := ⟨_, rfl⟩
      subst hw16
      obtain ⟨XA, xc, r16, k16⟩ := hcut
      clear q0 q1 q2 q3 q4 q5 q6 q7 q8 q9 q10 q11 r14 k14
      obtain ⟨ind, hind⟩ : ∃ ind : Int, (if fw then 0 else (OO : Int)) = ind := ⟨_, rfl⟩
      obtain ⟨sn, hsn⟩ : ∃ sn : Nat, (if fw then 0 else on) = sn := ⟨_, rfl⟩
      have hind0 : 0 <= ind := by rw [<- hind]; split <;> omega
      rw [hind, hsn] at r16
      have HIN := hID (And.intro hind hsn)
      clear hind hsn
      have l16 := (gis r16).1
      obtain ⟨⟨q0, q1, q2, q3⟩, ⟨q4, q5, q6, q7⟩, q8, q9, q10, q11⟩ := awbox r16
      go_upto_if 125 with (fail)
      obtain ⟨bq, hbq⟩ : ∃ b, ((nu : Int) != 0) = b := ⟨_, rfl⟩
      rw [hbq]
      have HBQ := hID hbq
      clear hbq
      go_cut [] from 125 to 194 (fun wx => ∃ (XA : Option Addr) (xc sn2 : Nat) (theo pro : Int), wx.heap[R]? = some (awBox s 1 d fw ind theo pro nu de 0 XA sn2 xc) /\ (theo = (if nu = 0 then 0 else (TT : Int)) /\ pro = (if nu = 0 then 0 else (PP : Int)) /\ sn2 = (if ind < pro then tn else sn)) /\ Kp R wy wx)
      case first =>
       cases bq
       ·have h0 : nu = 0 := by
         have := HBQ.out
         simp at this
         omega
        have H0 := hID h0
        clear h0
        go_wp2_with fail
        go_meet
        have h0 := H0.out
        exact ⟨XA, xc, sn, 0, 0, r16, ⟨by rw [if_pos h0], by rw [if_pos h0], by rw [if_neg (by omega)]⟩, k16⟩
       ·have HN0 : Hid (¬ nu = 0) := hID (by
         have := HBQ.out
         simp at this
         omega)
        have HS7 := hID (fun (u : World) (hu : Below w16.heap.size w16 u) => (And.intro (HK.out u (k16.trans (Kp.of hu))).1 (awbox ((hu.block _ l16).trans r16)).1.1))
        have HKW := hID (fun (u : World) (hu : Below w16.heap.size w16 u) => And.intro (HK.out u (k16.trans (Kp.of hu))).2.2.2.2.2.2 (HK.out u (k16.trans (Kp.of hu))).2.2.2.1)
        obtain ⟨⟨c0, c1, c2, c3, c4, c5, c6, c7, c8⟩, _⟩ := HS7.out w16 (bRf)
        go_wp2_with fail
        go_cut [16, 17] from 126 to 137 (fun q e wx => ∃ (V2 : Nat) (v2 : Vw), q = .pointer (some ⟨V2, 0, none⟩) /\ e = .int .i64 0 /\ wx.heap[V2]? = some (vwBox v2) /\ R < V2 /\ Hid (v2.d0 = sumW ws) /\ Hid (∀ u, Up w16.heap.size wx u -> VwOk u u.heap.size v2) /\ Below w16.heap.size w16 wx)
        case first =>
         go_region_held3 (fun w' => (w'.cell? ⟨w.heap.size, 0, none⟩ = some (.slice SA k sc) /\ w'.cell? ⟨w.heap.size, 1, none⟩ = some (.slice RA 1 rc) /\ w'.cell? ⟨w.heap.size, 2, none⟩ = some (.slice none 0 0) /\ w'.cell? ⟨w.heap.size, 3, none⟩ = some (.int .i64 d0) /\ w'.cell? ⟨w.heap.size, 4, none⟩ = some (.int .i64 0) /\ w'.cell? ⟨w.heap.size, 5, none⟩ = some (.int .i64 md) /\ w'.cell? ⟨w.heap.size, 6, none⟩ = some (.int .i64 730) /\ w'.cell? ⟨w.heap.size, 7, none⟩ = some (.int .i64 25) /\ w'.cell? ⟨w.heap.size, 8, none⟩ = some (.slice MA k mc)) /\ w'.cell? ⟨R, 0, none⟩ = some (.int .i64 (s : Int))) (exact HS7.out _ (by (focus ((repeat (first | (with_reducible assumption) | (with_reducible exact bRf) | (with_reducible refine Below.drew ?_) | (with_reducible refine bel_alloc ?_ _) | (with_reducible refine bel_set ?_ _ (by first | exact lRf | exact Nat.le_succ _ | exact hz3 | exact Nat.le_succ_of_le hz3)))); done)))) ((go_at_call 36; (with_reducible refine (HVW.out _ (HKW.out _ (by (focus ((repeat (first | (with_reducible assumption) | (with_reducible exact bRf) | (with_reducible refine Below.drew ?_) | (with_reducible refine bel_alloc ?_ _) | (with_reducible refine bel_set ?_ _ (by first | exact lRf | exact Nat.le_succ _ | exact hz3 | exact Nat.le_succ_of_le hz3)))); done)))).1 true KA kc2 K hC (HKW.out _ (by (focus ((repeat (first | (with_reducible assumption) | (with_reducible exact bRf) | (with_reducible refine Below.drew ?_) | (with_reducible refine bel_alloc ?_ _) | (with_reducible refine bel_set ?_ _ (by first | exact lRf | exact Nat.le_succ _ | exact hz3 | exact Nat.le_succ_of_le hz3)))); done)))).2).mono ?_); rintro e w3 ⟨v, rfl, hv, hv0, b3, hvu⟩; have bb3 : Below w16.heap.size w16 w3 := below_at b3 (by (focus ((repeat (first | (with_reducible assumption) | (with_reducible exact bRf) | (with_reducible refine Below.drew ?_) | (with_reducible refine bel_alloc ?_ _) | (with_reducible refine bel_set ?_ _ (by first | exact lRf | exact Nat.le_succ _ | exact hz3 | exact Nat.le_succ_of_le hz3)))); done))); have hz3 := bb3.size; have hd0 : Hid (v.d0 = sumW ws) := hID hv0; clear hv0; dsimp only [Vw.agg]; (try (refine vwz_cont (A := w16.heap.size) b3 ?_ ?_; (focus ((repeat (first | (with_reducible assumption) | ((with_reducible refine row_newA ?_); rfl) | (with_reducible refine row_drew ?_) | (with_reducible refine row_alloc _ ?_))); done)); rintro ⟨⟨⟨va0, va1, va2, va3, va4, va5, va6, va7, va8, va9, va10, va11, va12⟩, ⟨vb0, vb1, vb2, vb3, vb4, vb5, vb6, vb7, vb8, vb9, vb10, vb11, vb12⟩, ver⟩, ve1, ve2, ve3⟩))))
         all_goals
          go_wp2_with fail
          go_meet
         ·refine ⟨_, v, rfl, rfl, row_newA rfl, by omega, hd0, hID (fun u hu => hvu u ((Up.bel ((Below.refl w3.heap.size w3).alloc (lRf) _)).trans hu)), ?_⟩
          (focus ((repeat (first | (with_reducible assumption) | (with_reducible exact bRf) | (with_reducible refine Below.drew ?_) | (with_reducible refine bel_alloc ?_ _) | (with_reducible refine bel_set ?_ _ (by first | exact lRf | exact Nat.le_succ _ | exact hz3 | exact Nat.le_succ_of_le hz3)))); done))
         ·refine ⟨_, v, rfl, rfl, (setCells_at (vs := [.int .i64 v.ag, .int .i64 v.yr, .int .i64 v.ch, .int .i64 v.d0, .int .i64 v.d1, .int .i64 v.d2, .int .i64 v.d3, .int .i64 v.d4, .int .i64 v.d5, .int .i64 v.d6, .int .i64 (v.bn : Int), .int .i64 (v.bd : Int), .slice v.A v.n v.c]) ver rfl).1, l16, hd0, hID (fun u hu => hvu u (((Up.of (n := w16.heap.size + 1) (setCells_at (vs := [.int .i64 v.ag, .int .i64 v.yr, .int .i64 v.ch, .int .i64 v.d0, .int .i64 v.d1, .int .i64 v.d2, .int .i64 v.d3, .int .i64 v.d4, .int .i64 v.d5, .int .i64 v.d6, .int .i64 (v.bn : Int), .int .i64 (v.bd : Int), .slice v.A v.n v.c]) ver rfl).2 (by omega)).trans (hu.weak (by omega))).weak (by show _ <= (World.alloc _ _).heap.size; rw [World.size_alloc]; exact lRf))), ?_⟩
          (focus ((repeat (first | (with_reducible assumption) | (with_reducible exact bRf) | (with_reducible refine Below.drew ?_) | (with_reducible refine bel_alloc ?_ _) | (with_reducible refine bel_set ?_ _ (by first | exact lRf | exact Nat.le_succ _ | exact hz3 | exact Nat.le_succ_of_le hz3)))); done))
        case rest =>
         obtain ⟨w17, hw17⟩ : ∃ u, u = wc := ⟨_, rfl⟩
         subst hw17
         obtain ⟨V2, v2, rfl, rfl, rV2, hRV2, hd2, hvu2, b17⟩ := hcut
         clear HS7 HKW c0 c1 c2 c3 c4 c5 c6 c7 c8
         have r17 := (b17.block _ l16).trans r16
         have k17 : Kp R wy w17 := k16.trans (Kp.of b17)
         have l17 := (gis r17).1
         have lV2 := (gis rV2).1
         have HS8 := hID (fun (u : World) (hu : Below w17.heap.size w17 u) => (And.intro (verbox (HK.out u (k17.trans (Kp.of hu))).2.1) (And.intro (vwflat ((hu.block _ lV2).trans rV2)) (awbox ((hu.block _ l17).trans r17)).1.2.1)))
         clear q0 q1 q2 q3 q4 q5 q6 q7 q8 q9 q10 q11
         obtain ⟨⟨e0, e1, e2, e3, e4, e5, e6, e7⟩, ⟨f0, f1, f2, f3, f4, f5, f6, f7, f8, f9, f10, f11, f12⟩, g1⟩ := HS8.out w17 (bRf)
         have HPV := hID (fun (u : World) (hu : Below w17.heap.size w17 u) => HPT.out u (HK.out u (k17.trans (Kp.of hu))).2.2.2.2.2.2 y v2 (HK.out u (k17.trans (Kp.of hu))).2.2.2.2.1 (hvu2.out u (Up.bel hu)) hd2.out)
         go_wp2_with fail
         go_cut [18, 19, 17] from 140 to 151 (fun p a e wx => ∃ (G : Nat) (XA : Option Addr) (xc : Nat) (yy : Bool), p = .pointer (some ⟨G, 0, none⟩) /\ a = .int .i64 (TT : Int) /\ e = .int .i64 0 /\ wx.heap[G]? = some (rsBox yy TT 1 XA tn xc) /\ R < G /\ Below w17.heap.size w17 wx)
         case first =>
          unfold Vs.agg Vw.agg at HPV
          go_region_held3 (fun w' => (w'.cell? ⟨B, 0, none⟩ = some (.int .i64 0) /\ w'.cell? ⟨B, 1, none⟩ = some (.int .i64 1) /\ w'.cell? ⟨B, 2, none⟩ = some (.int .i64 1) /\ w'.cell? ⟨B, 3, none⟩ = some (.slice y.cA y.cn y.cc) /\ w'.cell? ⟨B, 4, none⟩ = some (.slice none 0 0) /\ w'.cell? ⟨B, 5, none⟩ = some (.slice none 0 0) /\ w'.cell? ⟨B, 6, none⟩ = some (.slice y.gA 1 y.gc) /\ w'.cell? ⟨B, 7, none⟩ = some (.slice none 0 0)) /\ (w'.cell? ⟨V2, 0, none⟩ = some (.int .i64 v2.ag) /\ w'.cell? ⟨V2, 1, none⟩ = some (.int .i64 v2.yr) /\ w'.cell? ⟨V2, 2, none⟩ = some (.int .i64 v2.ch) /\ w'.cell? ⟨V2, 3, none⟩ = some (.int .i64 v2.d0) /\ w'.cell? ⟨V2, 4, none⟩ = some (.int .i64 v2.d1) /\ w'.cell? ⟨V2, 5, none⟩ = some (.int .i64 v2.d2) /\ w'.cell? ⟨V2, 6, none⟩ = some (.int .i64 v2.d3) /\ w'.cell? ⟨V2, 7, none⟩ = some (.int .i64 v2.d4) /\ w'.cell? ⟨V2, 8, none⟩ = some (.int .i64 v2.d5) /\ w'.cell? ⟨V2, 9, none⟩ = some (.int .i64 v2.d6) /\ w'.cell? ⟨V2, 10, none⟩ = some (.int .i64 (v2.bn : Int)) /\ w'.cell? ⟨V2, 11, none⟩ = some (.int .i64 (v2.bd : Int)) /\ w'.cell? ⟨V2, 12, none⟩ = some (.slice v2.A v2.n v2.c)) /\ w'.cell? ⟨R, 1, none⟩ = some (.int .i64 1)) (exact HS8.out _ (by (focus ((repeat (first | (with_reducible assumption) | (with_reducible exact bRf) | (with_reducible refine Below.drew ?_) | (with_reducible refine bel_alloc ?_ _) | (with_reducible refine bel_set ?_ _ (by first | exact lRf | exact Nat.le_succ _ | exact hz3 | exact Nat.le_succ_of_le hz3)))); done)))) ((go_at_call 40; (with_reducible refine (HPV.out _ (by (focus ((repeat (first | (with_reducible assumption) | (with_reducible exact bRf) | (with_reducible refine Below.drew ?_) | (with_reducible refine bel_alloc ?_ _) | (with_reducible refine bel_set ?_ _ (by first | exact lRf | exact Nat.le_succ _ | exact hz3 | exact Nat.le_succ_of_le hz3)))); done)))).mono ?_); rintro e w3 ⟨XA, xc, yy, rfl, b3⟩; have bb3 : Below w17.heap.size w17 w3 := below_at b3 (by (focus ((repeat (first | (with_reducible assumption) | (with_reducible exact bRf) | (with_reducible refine Below.drew ?_) | (with_reducible refine bel_alloc ?_ _) | (with_reducible refine bel_set ?_ _ (by first | exact lRf | exact Nat.le_succ _ | exact hz3 | exact Nat.le_succ_of_le hz3)))); done))); have hz3 := bb3.size; (try (refine rs_cont (A := w17.heap.size) b3 ?_ ?_; (focus ((repeat (first | (with_reducible assumption) | ((with_reducible refine row_newA ?_); rfl) | (with_reducible refine row_drew ?_) | (with_reducible refine row_alloc _ ?_))); done)); rintro ⟨⟨⟨va0, va1, va2, va3⟩, ⟨vb0, vb1, vb2, vb3⟩, ver⟩, ve1, ve2, ve3⟩))))
          all_goals
           go_wp2_with fail
           go_meet
          ·refine ⟨_, XA, xc, yy, rfl, rfl, rfl, row_newA rfl, by omega, ?_⟩
           (focus ((repeat (first | (with_reducible assumption) | (with_reducible exact bRf) | (with_reducible refine Below.drew ?_) | (with_reducible refine bel_alloc ?_ _) | (with_reducible refine bel_set ?_ _ (by first | exact lRf | exact Nat.le_succ _ | exact hz3 | exact Nat.le_succ_of_le hz3)))); done))
          ·refine ⟨_, XA, xc, yy, rfl, rfl, rfl, (setCells_at (vs := [.bool yy, .int .i64 (TT : Int), .int .i64 1, .slice XA tn xc]) ver rfl).1, l17, ?_⟩
           (focus ((repeat (first | (with_reducible assumption) | (with_reducible exact bRf) | (with_reducible refine Below.drew ?_) | (with_reducible refine bel_alloc ?_ _) | (with_reducible refine bel_set ?_ _ (by first | exact lRf | exact Nat.le_succ _ | exact hz3 | exact Nat.le_succ_of_le hz3)))); done))
         case rest =>
          obtain ⟨w18, hw18⟩ : ∃ u, u = wc := ⟨_, rfl⟩
          subst hw18
          obtain ⟨G, XA2, xc2, yy, rfl, rfl, rfl, rG, hRG, b18⟩ := hcut
          clear HS8 HPV hvu2 e0 e1 e2 e3 e4 e5 e6 e7 f0 f1 f2 f3 f4 f5 f6 f7 f8 f9 f10 f11 f12 g1
          have r18 := (b18.block _ l17).trans r17
          have k18 : Kp R wy w18 := k17.trans (Kp.of b18)
          obtain ⟨_, ⟨_, _, q6, _⟩, _⟩ := awbox r18
          have z6 := fZr 6 r18
          go_upto_region 26 with (fail)
          obtain ⟨w19, hw19⟩ : ∃ u, w18.setCell ⟨R, 6, none⟩ (.int .i64 (TT : Int)) = u := ⟨_, rfl⟩
          have r19 : w19.heap[R]? = some (awBox s 1 d fw ind TT 0 nu de 0 XA sn xc) := by rw [<- hw19]; exact hSs w18 R 6 _ _ _ r18
          have k19 : Kp R wy w19 := by rw [<- hw19]; exact k18.trans (Kp.set w18 6 _)
          have rG19 : w19.heap[G]? = some (rsBox yy TT 1 XA2 tn xc2) := by rw [<- hw19]; exact (Kp.set (R := R) w18 6 _).at rG (by omega)
          rw [hw19]
          clear hw19 q6 z6 r18 rG k18
          have l19 := (gis r19).1
          have lG := (gis rG19).1
          have HS9 := hID (fun (u : World) (hu : Below w19.heap.size w19 u) => (And.intro (And.intro (verbox (HK.out u (k19.trans (Kp.of hu))).2.1).2.1 (verbox (HK.out u (k19.trans (Kp.of hu))).2.1).2.2.1) (And.intro (And.intro (rsbox ((hu.block _ lG).trans rG19)).1.2.1 (rsbox ((hu.block _ lG).trans rG19)).1.2.2.1) (And.intro (awbox ((hu.block _ l19).trans r19)).2.2.1 (awbox ((hu.block _ l19).trans r19)).2.2.2.1))))
          obtain ⟨⟨e1, e2⟩, ⟨f1, f2⟩, g8, g9⟩ := HS9.out w19 (bRf)
          go_cut [17] from 158 to 177 (fun e wx => e = .int .i64 0 /\ wx.heap[R]? = some (awBox s 1 d fw ind TT PP nu de 0 XA sn xc) /\ wx.heap[G]? = some (rsBox yy TT 1 XA2 tn xc2) /\ Kp R wy wx)
          case first =>
           go_region_held3 (fun w' => (w'.cell? ⟨B, 1, none⟩ = some (.int .i64 1) /\ w'.cell? ⟨B, 2, none⟩ = some (.int .i64 1)) /\ (w'.cell? ⟨G, 1, none⟩ = some (.int .i64 (TT : Int)) /\ w'.cell? ⟨G, 2, none⟩ = some (.int .i64 1)) /\ w'.cell? ⟨R, 8, none⟩ = some (.int .i64 (nu : Int)) /\ w'.cell? ⟨R, 9, none⟩ = some (.int .i64 (de : Int))) (first | exact HS9.out _ (bRf).drew | exact HS9.out _ bb3 | exact sb) ((go_at_call 41; (with_reducible refine (hSH _).mono ?_); rintro e w3 ⟨rfl, b3⟩; have bb3 : Below w19.heap.size w19 w3 := (Below.refl w19.heap.size w19).drew.trans b3; have r20 := (bb3.block _ l19).trans r19; have rG20 := (bb3.block _ lG).trans rG19; have e7 := (awbox r20).2.1.2.2.2; have z7 := fZr 7 r20; have ra := hSs w3 R 7 _ _ (.int .i64 (PP : Int)) r20; have rg := (Kp.set (R := R) w3 7 (.int .i64 (PP : Int))).at rG20 (by omega); have kf : Kp R wy (w3.setCell ⟨R, 7, none⟩ (.int .i64 (PP : Int))) := (k19.trans (Kp.of bb3)).trans (Kp.set w3 7 _); have sb := And.intro (And.intro (verbox (HK.out _ kf).2.1).2.1 (verbox (HK.out _ kf).2.1).2.2.1) (And.intro (And.intro (rsbox rg).1.2.1 (rsbox rg).1.2.2.1) (And.intro (awbox ra).2.2.1 (awbox ra).2.2.2.1))))
           all_goals
            go_wp2_with fail
            go_meet
            exact ⟨rfl, ra, rg, kf⟩
          case rest =>
           obtain ⟨w20, hw20⟩ : ∃ u, u = wc := ⟨_, rfl⟩
           subst hw20
           obtain ⟨rfl, r20, rG20, k20⟩ := hcut
           clear HS9 e1 e2 f1 f2 g8 g9
           obtain ⟨⟨q0, q1, q2, q3⟩, ⟨q4, q5, q6, q7⟩, q8, q9, q10, q11⟩ := awbox r20
           obtain ⟨⟨s0, s1, s2, s3⟩, _⟩ := rsbox rG20
           have z11 := fZr 11 r20
           go_wp2_with fail
           by_cases hlt : ind < (PP : Int)
           ·have hdl : decide (ind < (PP : Int)) = true := decide_eq_true hlt
            have HLT := hID hlt
            clear hlt
            go_quiet (fail)
            go_wp2_with fail
            go_meet
            exact ⟨XA2, xc2, tn, TT, PP, by first | exact hSs w20 R 11 _ _ (.slice XA2 tn xc2) r20 | exact row_drew (hSs w20 R 11 _ _ (.slice XA2 tn xc2) r20) | exact hSs (w20.drewN _) R 11 _ _ (.slice XA2 tn xc2) r20, ⟨by rw [if_neg HN0.out], by rw [if_neg HN0.out], by rw [if_pos HLT.out]⟩, k20.trans (by first | exact Kp.set w20 11 _ | exact (Kp.of (below_to_drewN (bRf) _)).trans (Kp.set _ 11 _))⟩
           ·have hdl : decide (ind < (PP : Int)) = false := decide_eq_false hlt
            have HLT := hID hlt
            clear hlt
            go_quiet (fail)
            go_wp2_with fail
            go_meet
            exact ⟨XA, xc, sn, TT, PP, r20, ⟨by rw [if_neg HN0.out], by rw [if_neg HN0.out], by rw [if_neg (by have := HLT.out; omega)]⟩, k20.trans (Kp.of (below_to_drewN (bRf) _))⟩
      case rest =>
       obtain ⟨w21, hw21⟩ : ∃ u, u = wc := ⟨_, rfl⟩
       subst hw21
       obtain ⟨XA2, xc2, sn2, theo, pro, r21, hE, k21⟩ := hcut
       have HE := hID hE
       clear hE q0 q1 q2 q3 q4 q5 q6 q7 q8 q9 q10 q11 r16 k16
       obtain ⟨⟨q0, q1, q2, q3⟩, ⟨q4, q5, q6, q7⟩, q8, q9, q10, q11⟩ := awbox r21
       have z10 := fZr 10 r21
       go_upto_region 31 with (fail)
       go_region
       all_goals
        go_wp2_with fail
        go_ret
        have h1 := HIN.out
        have h2 := HE.out
        have hA := HFI.out ind theo pro (max ind pro) sn2 XA2 xc2 h1.1.symm h2.1 h2.2.1 (by rw [Int.max_def]; split <;> split <;> omega) (by rw [h2.2.2, <- h1.2])
        refine ⟨rfl, ⟨XA2, xc2, ?_⟩, (kW.trans (ky.trans k21)).trans (Kp.set w21 10 _).drew⟩
        rw [hA]
        exact row_drew (hSs w21 R 10 _ _ (.int .i64 (max ind pro)) r21)
end
end Go.Proofs.YtnlopdmhdiegnaaGreatDoor
