/- Lemmas (no conditions): Prc, Prd, Pre, Prf, Prg -/
import Derived.Test.YtnlopdmhdiegnaaGreatDoorPk11
set_option linter.unusedSimpArgs false
set_option linter.unusedVariables false
set_option maxRecDepth 100000
set_option maxHeartbeats 64000000
namespace Go.Proofs.YtnlopdmhdiegnaaGreatDoor
open Go.RowKit
section
def Tab (w : World) (g o n _c : Nat) (nm : ByteArray) (k : Int) : Prop := 1 <= n /\ n <= 100 /\ g < w.heap.size /\ w.cell? ⟨g, o, none⟩ = some (.string nm) /\ w.cell? ⟨g, o + 1, none⟩ = some (.int .i64 k)
theorem Tab.to {w w' : World} {g o n c : Nat} {nm : ByteArray} {k : Int} (h : Tab w g o n c nm k) (hb : Below w.heap.size w w') : Tab w' g o n c nm k :=
 ⟨h.1, h.2.1, Nat.lt_of_lt_of_le h.2.2.1 hb.size, by rw [hb.cell (by exact h.2.2.1)]; exact h.2.2.2.1, by rw [hb.cell (by exact h.2.2.1)]; exact h.2.2.2.2⟩
theorem modes_ok (w : World) : Calls Tryz.prog 50 #[] w fun e w' => ∃ g n, e = .returned (.slice (some ⟨g, 0, none⟩) n n) /\ Tab w' g 0 n n ⟨#[100, 111, 119, 110]⟩ 1 /\ Below w.heap.size w w' := by
 go_enter Tryz.func50, Tryz.ntmps50
 go_wp2_with fail
 go_ret
 refine ⟨w.heap.size, 4, rfl, ⟨by omega, by omega, by simp, ?_, ?_⟩, (Below.refl _ _).alloc (Nat.le_refl _) _⟩
 ·rw [cell_of_row _ _ _ _ _ _ (heap_alloc_new w _)]; rfl
 ·rw [cell_of_row _ _ _ _ _ _ (heap_alloc_new w _)]; rfl
theorem benefits_ok (w : World) : Calls Tryz.prog 101 #[] w fun e w' => ∃ g n, e = .returned (.slice (some ⟨g, 0, none⟩) n n) /\ Tab w' g 0 n n ⟨#[111, 108, 100]⟩ 1 /\ Below w.heap.size w w' := by
 go_enter Tryz.func101, Tryz.ntmps101
 go_wp2_with fail
 go_ret
 refine ⟨w.heap.size, 5, rfl, ⟨by omega, by omega, by simp, ?_, ?_⟩, (Below.refl _ _).alloc (Nat.le_refl _) _⟩
 ·rw [cell_of_row _ _ _ _ _ _ (heap_alloc_new w _)]; rfl
 ·rw [cell_of_row _ _ _ _ _ _ (heap_alloc_new w _)]; rfl
theorem kinds_ok (w : World) : Calls Tryz.prog 98 #[] w fun e w' => ∃ g n, e = .returned (.slice (some ⟨g, 0, none⟩) n n) /\ Tab w' g 0 n n ⟨#[118, 111, 108, 117, 110, 116, 97, 114, 121]⟩ 6 /\ Below w.heap.size w w' := by
 go_enter Tryz.func98, Tryz.ntmps98
 go_wp2_with fail
 go_ret
 refine ⟨w.heap.size, 6, rfl, ⟨by omega, by omega, by simp, ?_, ?_⟩, (Below.refl _ _).alloc (Nat.le_refl _) _⟩
 ·rw [cell_of_row _ _ _ _ _ _ (heap_alloc_new w _)]; rfl
 ·rw [cell_of_row _ _ _ _ _ _ (heap_alloc_new w _)]; rfl
theorem idxfn_name (q g o n c : Nat) (nm : ByteArray) (k : Int) (w : World) (h : Tab w g o n c nm k)
  (hF : ∀ v, Below w.heap.size w v -> Calls Tryz.prog 158 #[.agg #[.string nm, .int .i64 k], .pointer (some ⟨q, 0, none⟩)] v fun e w' => e = .returned (.bool true) /\ Below v.heap.size v w') :
  Calls Tryz.prog 157 #[.slice (some ⟨g, o, none⟩) n c, .func (.func 158) #[] #[.pointer (some ⟨q, 0, none⟩)]] w fun e w' => e = .returned (.int .i64 0) /\ Below w.heap.size w w' := by
 obtain ⟨h1, h2, h3, h4, h5⟩ := h
 have hcall := hF w (Below.refl _ _)
 have d0 : (0 : Int) < (n : Int) := by omega
 clear hF
 go_enter Tryz.func157, Tryz.ntmps157
 go_wp2_with fail
 refine wp_loop_rounds 1 ?_
 rw [rounds_succ]
 go_wp2_with fail
 refine hcall.mono ?_
 rintro e w1 ⟨rfl, hb⟩
 go_wp2_with fail
 go_ret
 exact ⟨rfl, hb⟩
theorem idxfn_num (q g o n c : Nat) (nm : ByteArray) (k : Int) (w : World) (h : Tab w g o n c nm k)
  (hF : ∀ v, Below w.heap.size w v -> Calls Tryz.prog 160 #[.agg #[.string nm, .int .i64 k], .pointer (some ⟨q, 0, none⟩)] v fun e w' => e = .returned (.bool true) /\ Below v.heap.size v w') :
  Calls Tryz.prog 157 #[.slice (some ⟨g, o, none⟩) n c, .func (.func 160) #[] #[.pointer (some ⟨q, 0, none⟩)]] w fun e w' => e = .returned (.int .i64 0) /\ Below w.heap.size w w' := by
 obtain ⟨h1, h2, h3, h4, h5⟩ := h
 have hcall := hF w (Below.refl _ _)
 have d0 : (0 : Int) < (n : Int) := by omega
 clear hF
 go_enter Tryz.func157, Tryz.ntmps157
 go_wp2_with fail
 refine wp_loop_rounds 1 ?_
 rw [rounds_succ]
 go_wp2_with fail
 refine hcall.mono ?_
 rintro e w1 ⟨rfl, hb⟩
 go_wp2_with fail
 go_ret
 exact ⟨rfl, hb⟩
theorem byname1_ok (q : Nat) (nm : ByteArray) (k : Int) (w : World) (hq : w.cell? ⟨q, 0, none⟩ = some (.string nm)) (hlt : q < w.heap.size) :
  Calls Tryz.prog 158 #[.agg #[.string nm, .int .i64 k], .pointer (some ⟨q, 0, none⟩)] w fun e w' => e = .returned (.bool true) /\ Below w.heap.size w w' := by
 have hb := (Below.refl w.heap.size w).alloc (Nat.le_refl _) (.cells #[.string nm, .int .i64 k] 197)
 have hr := heap_alloc_new w (.cells #[.string nm, .int .i64 k] 197)
 have ht : (nm.toList == nm.toList) = true := by simp
 go_enter Tryz.func158, Tryz.ntmps158
 go_upto_region 1 with (fail)
 obtain ⟨W, hW⟩ : ∃ W, w.alloc (.cells #[.string nm, .int .i64 k] 197) = W := ⟨_, rfl⟩
 rw [hW] at hb hr ⊢
 clear hW
 have f0 : W.cell? ⟨w.heap.size, 0, none⟩ = some (.string nm) := by rw [cell_of_row _ _ _ _ _ _ hr]; rfl
 rw [<- hb.cell (by show q < _; exact hlt)] at hq
 go_wp2_with fail
 go_ret
 exact ⟨rfl, hb⟩
theorem byname_first (g o n c : Nat) (nm : ByteArray) (k : Int) (w : World) (h : Tab w g o n c nm k) : Calls Tryz.prog 97 #[.slice (some ⟨g, o, none⟩) n c, .string nm] w fun e w' => e = .returned (.tuple #[.int .i64 k, .bool true]) /\ Below w.heap.size w w' := by
 have hb := (Below.refl w.heap.size w).alloc (Nat.le_refl _) (.cells #[.string nm] 9)
 have hr := heap_alloc_new w (.cells #[.string nm] 9)
 have hT := h.to hb
 obtain ⟨h1, h2, h3, h4, h5⟩ := h
 have d0 : (0 : Int) < (n : Int) := by omega
 go_enter Tryz.func97, Tryz.ntmps97
 go_wp2_with fail
 obtain ⟨W, hW⟩ : ∃ W, w.alloc (.cells #[.string nm] 9) = W := ⟨_, rfl⟩
 rw [hW] at hb hr hT ⊢
 clear hW
 have f0 : W.cell? ⟨w.heap.size, 0, none⟩ = some (.string nm) := by rw [cell_of_row _ _ _ _ _ _ hr]; rfl
 have hlt := (gis hr).1
 refine (idxfn_name w.heap.size g o n c nm k W hT (fun v hv => byname1_ok _ nm k v (by rw [hv.cell (by exact hlt)]; exact f0) (Nat.lt_of_lt_of_le hlt hv.size))).mono ?_
 rintro e w1 ⟨rfl, hb1⟩
 obtain ⟨_, _, _, _, t5⟩ := hT.to hb1
 have hbb := hb.trans (hb1.mono hb.size)
 clear hr f0 hT hb1 hb
 go_wp2_with fail
 go_ret2
 exact ⟨rfl, hbb⟩
theorem word_ok {R : Nat} {x : Tk} {L : List Tk} {w : World} (h : Prs w R (x :: L)) {g o n c : Nat} {k : Int} (hk : x.k = 1) (hT : Tab w g o n c x.t k) : Calls Tryz.prog 49 #[.pointer (some ⟨R, 0, none⟩), .slice (some ⟨g, o, none⟩) n c] w fun e w' => e = .returned (.int .i64 k) /\ Prs w' R L /\ Kp R w w' := by
 have hpk := peek_ok h
 obtain ⟨xk, xt, xa⟩ := x
 obtain rfl : xk = 1 := hk
 dsimp only [Tk.agg] at hpk hT ⊢
 go_enter Tryz.func49, Tryz.ntmps49
 go_wp2_with fail
 refine hpk.mono ?_
 rintro e w1 ⟨rfl, hb⟩
 go_upto_region 2 with (fail)
 obtain ⟨W, hW, hbW, hr⟩ : ∃ W, w1.alloc (.cells #[.int .i64 1, .string xt, .int .i64 xa] 124) = W /\ Below w.heap.size w W /\ W.heap[w1.heap.size]? = some (.cells #[.int .i64 1, .string xt, .int .i64 xa] 124) :=
  ⟨_, rfl, hb.alloc hb.size _, heap_alloc_new w1 _⟩
 rw [hW]
 clear hW
 have hzz := hb.size
 have hlt := h.lt
 have f1 : W.cell? ⟨w1.heap.size, 1, none⟩ = some (.string xt) := by rw [cell_of_row _ _ _ _ _ _ hr]; rfl
 have h1 := byname_first g o n c xt k W (hT.to hbW)
 go_wp2_with fail
 refine h1.mono ?_
 rintro e w2 ⟨rfl, hb2⟩
 have r2 := (hb2.block w1.heap.size (gis hr).1).trans hr
 have g0 : w2.cell? ⟨w1.heap.size, 0, none⟩ = some (.int .i64 1) := by rw [cell_of_row _ _ _ _ _ _ r2]; rfl
 have hp2 := (h.to hbW).to hb2
 have hbb := (Kp.of (R := R) hbW).trans (Kp.of hb2)
 clear f1 hr r2 hpk h1
 go_wp2_with fail
 refine (next_ok hp2).mono ?_
 rintro e w3 ⟨rfl, h3, hk3⟩
 go_wp2_with fail
 go_ret
 exact ⟨rfl, h3, hbb.trans hk3⟩
end
section
structure En where
 s : ByteArray
 n : Int
def En.cells (x : En) : List Value := [.string x.s, .int .i64 x.n]
theorem en_len (x : En) : x.cells.length = 2 := rfl
theorem binary_no {R : Nat} {x : Tk} {L : List Tk} {w : World} (h : Prs w R (x :: L)) {B : Nat} {A : Option Addr} {c : Nat} {T : List En} (hB : B <= w.heap.size) (hT : Rd w B 2 A T.length (flat En.cells T)) (hl : T.length <= 10) (hn : ∀ y ∈ T, isB x y.s = false) :
  Calls Tryz.prog 359 #[.pointer (some ⟨R, 0, none⟩), .slice A T.length c] w fun e w' => e = .returned (.tuple #[.int .i64 0, .bool false]) /\ Below w.heap.size w w' := by
 have HN := Lib.hid hn
 clear hn
 go_enter Tryz.func359, Tryz.ntmps359
 go_wp2_with fail
 go_loopw [7, 10] (fun _ i wr => ∃ k : Nat, k <= T.length /\ i = .int .i64 (k : Int) /\ Below w.heap.size w wr) (fun _ i _ => T.length - (intOf i).toNat)
 case atStart => exact ⟨0, by omega, rfl, Below.refl _ _⟩
 case round =>
  obtain ⟨k, hk, rfl, hb⟩ := hrel
  by_cases hlt : k < T.length
  ·obtain ⟨y, hy⟩ : ∃ y, T[k]? = some y := ⟨_, List.getElem?_eq_getElem hlt⟩
   obtain ⟨_, g, o, hA, hg, hc⟩ := hT.elem en_len hy (by omega)
   have hno := HN.out y (List.mem_of_getElem? hy)
   obtain ⟨ys, yn⟩ := y
   have e0 : wr.cell? ⟨g, o + k * 2, none⟩ = some (.string ys) := by rw [hb.cell (by show g < _; omega)]; exact hc 0 _ rfl
   have e1 : wr.cell? ⟨g, o + k * 2 + 1, none⟩ = some (.int .i64 yn) := by rw [hb.cell (by show g < _; omega)]; exact hc 1 _ rfl
   have hp := h.to hb
   subst hA
   clear hc hy
   go_upto_region 4 with (fail)
   obtain ⟨W, hW, hbW, hr⟩ := box_new wr (.cells #[.string ys, .int .i64 yn] 197)
   rw [hW]
   clear hW
   have f0 : W.cell? ⟨wr.heap.size, 0, none⟩ = some (.string ys) := by rw [cell_of_row _ _ _ _ _ _ hr]; rfl
   go_wp2_with fail
   refine (accept_no (hp.to hbW) hno).mono ?_
   rintro e w2 ⟨rfl, hb2⟩
   go_wp2_with fail
   go_roundw
   case rel => exact ⟨k + 1, by omega, by go_num, hb.trans ((hbW.trans (hb2.mono hbW.size)).mono hb.size)⟩
   case measure => simp [intOf]; omega
  ·obtain rfl : k = T.length := by omega
   go_wp2_with fail
   go_ret2
   exact ⟨rfl, hb⟩
theorem binary_yes {R : Nat} {x : Tk} {L : List Tk} {w : World} (h : Prs w R (x :: L)) {B : Nat} {A : Option Addr} {c j : Nat} {T : List En} {z : En} (hB : B <= w.heap.size) (hT : Rd w B 2 A T.length (flat En.cells T)) (hl : T.length <= 10) (hj : T[j]? = some z) (hz : isB x z.s = true) (hn : ∀ i y, i < j -> T[i]? = some y -> isB x y.s = false) :
  Calls Tryz.prog 359 #[.pointer (some ⟨R, 0, none⟩), .slice A T.length c] w fun e w' => e = .returned (.tuple #[.int .i64 z.n, .bool true]) /\ Prs w' R L /\ Kp R w w' := by
 have HN := Lib.hid hn
 have HJ := Lib.hid hj
 have hjl : j < T.length := (List.getElem?_eq_some_iff.1 hj).1
 have HZ := Lib.hid hz
 have hRl := h.lt
 clear hn hj hz
 go_enter Tryz.func359, Tryz.ntmps359
 go_wp2_with fail
 go_loopw [7, 10] (fun _ i wr => ∃ k : Nat, k <= j /\ i = .int .i64 (k : Int) /\ Below w.heap.size w wr) (fun _ i _ => j - (intOf i).toNat)
 case atStart => exact ⟨0, by omega, rfl, Below.refl _ _⟩
 case round =>
  obtain ⟨k, hk, rfl, hb⟩ := hrel
  have hzz := hb.size
  obtain ⟨y, hy⟩ : ∃ y, T[k]? = some y := ⟨_, List.getElem?_eq_getElem (by omega)⟩
  obtain ⟨_, g, o, hA, hg, hc⟩ := hT.elem en_len hy (by omega)
  have HY := Lib.hid hy
  obtain ⟨ys, yn⟩ := y
  have e0 : wr.cell? ⟨g, o + k * 2, none⟩ = some (.string ys) := by rw [hb.cell (by show g < _; omega)]; exact hc 0 _ rfl
  have e1 : wr.cell? ⟨g, o + k * 2 + 1, none⟩ = some (.int .i64 yn) := by rw [hb.cell (by show g < _; omega)]; exact hc 1 _ rfl
  have hp := h.to hb
  have hkl : k < T.length := by omega
  subst hA
  clear hc hy
  go_upto_region 4 with (fail)
  obtain ⟨W, hW, hbW, hr⟩ := box_new wr (.cells #[.string ys, .int .i64 yn] 197)
  rw [hW]
  clear hW
  have f0 : W.cell? ⟨wr.heap.size, 0, none⟩ = some (.string ys) := by rw [cell_of_row _ _ _ _ _ _ hr]; rfl
  by_cases hlt : k < j
  ·have hno := HN.out k _ hlt HY.out
   go_wp2_with fail
   refine (accept_no (hp.to hbW) hno).mono ?_
   rintro e w2 ⟨rfl, hb2⟩
   go_wp2_with fail
   go_roundw
   case rel => exact ⟨k + 1, by omega, by go_num, hb.trans ((hbW.trans (hb2.mono hbW.size)).mono hb.size)⟩
   case measure => simp [intOf]; omega
  ·obtain rfl : k = j := by omega
   have hyz : (⟨ys, yn⟩ : En) = z := Option.some.inj (HY.out.symm.trans HJ.out)
   subst hyz
   go_wp2_with fail
   refine (accept_yes (hp.to hbW) HZ.out).mono ?_
   rintro e w2 ⟨rfl, h2, hk2⟩
   have r2 := (hk2.block wr.heap.size (gis hr).1 (fun e => by injection e with e; omega)).trans hr
   have f1 : w2.cell? ⟨wr.heap.size, 1, none⟩ = some (.int .i64 yn) := by rw [cell_of_row _ _ _ _ _ _ r2]; rfl
   clear r2 hr f0
   go_wp2_with fail
   go_ret2
   exact ⟨rfl, h2, (Kp.of hb).trans ((Kp.of hbW).trans hk2)⟩
theorem bynum1_ok (q : Nat) (nm : ByteArray) (k : Int) (w : World) (hq : w.cell? ⟨q, 0, none⟩ = some (.int .i64 k)) (hlt : q < w.heap.size) :
  Calls Tryz.prog 160 #[.agg #[.string nm, .int .i64 k], .pointer (some ⟨q, 0, none⟩)] w fun e w' => e = .returned (.bool true) /\ Below w.heap.size w w' := by
 have hb := (Below.refl w.heap.size w).alloc (Nat.le_refl _) (.cells #[.string nm, .int .i64 k] 197)
 have hr := heap_alloc_new w (.cells #[.string nm, .int .i64 k] 197)
 go_enter Tryz.func160, Tryz.ntmps160
 go_upto_region 1 with (fail)
 obtain ⟨W, hW⟩ : ∃ W, w.alloc (.cells #[.string nm, .int .i64 k] 197) = W := ⟨_, rfl⟩
 rw [hW] at hb hr ⊢
 clear hW
 have f0 : W.cell? ⟨w.heap.size, 1, none⟩ = some (.int .i64 k) := by rw [cell_of_row _ _ _ _ _ _ hr]; rfl
 rw [<- hb.cell (by show q < _; exact hlt)] at hq
 go_wp2_with fail
 go_ret
 exact ⟨ret_bool (by simp), hb⟩
theorem bynumber_first (g o n c : Nat) (nm : ByteArray) (k : Int) (w : World) (h : Tab w g o n c nm k) : Calls Tryz.prog 102 #[.slice (some ⟨g, o, none⟩) n c, .int .i64 k] w fun e w' => e = .returned (.string nm) /\ Below w.heap.size w w' := by
 have hb := (Below.refl w.heap.size w).alloc (Nat.le_refl _) (.cells #[.int .i64 k] 3)
 have hr := heap_alloc_new w (.cells #[.int .i64 k] 3)
 have hT := h.to hb
 obtain ⟨h1, h2, h3, h4, h5⟩ := h
 have d0 : (0 : Int) < (n : Int) := by omega
 go_enter Tryz.func102, Tryz.ntmps102
 go_wp2_with fail
 obtain ⟨W, hW⟩ : ∃ W, w.alloc (.cells #[.int .i64 k] 3) = W := ⟨_, rfl⟩
 rw [hW] at hb hr hT ⊢
 clear hW
 have f0 : W.cell? ⟨w.heap.size, 0, none⟩ = some (.int .i64 k) := by rw [cell_of_row _ _ _ _ _ _ hr]; rfl
 have hlt := (gis hr).1
 refine (idxfn_num w.heap.size g o n c nm k W hT (fun v hv => bynum1_ok _ nm k v (by rw [hv.cell (by exact hlt)]; exact f0) (Nat.lt_of_lt_of_le hlt hv.size))).mono ?_
 rintro e w1 ⟨rfl, hb1⟩
 obtain ⟨_, _, _, t4, _⟩ := hT.to hb1
 have hbb := hb.trans (hb1.mono hb.size)
 clear hr f0 hT hb1 hb
 go_wp2_with fail
 go_ret
 exact ⟨rfl, hbb⟩
end
section
structure Lf where
 o : Int
 n : Int
 d : Int
 m : Int
 s : ByteArray
def Lf.agg (x : Lf) : Value := .agg #[.int .i64 x.o, .int .i64 x.n, .int .i64 x.d, .int .i64 x.m, .string x.s, .slice none 0 0]
def Lf.cells (x : Lf) : List Value := [.int .i64 x.o, .int .i64 x.n, .int .i64 x.d, .int .i64 x.m, .string x.s, .slice none 0 0]
inductive LeafTk (x : Tk) : Lf -> Prop where
 | num {n : Nat} {dim : Int} (hk : x.k = 2) (ht : x.t = bs (dgl n ++ sufB dim.toNat)) (hd : dim = 2 ∨ dim = 3 ∨ dim = 4) (hn : n < 1000000000) : LeafTk x ⟨1, n, 1, dim, ⟨#[]⟩⟩
 | name {t : By} (hk : x.k = 1) (ht : x.t = bs t) (hn : Nm t) : LeafTk x ⟨2, 0, 0, 0, bs t⟩
def NoB (x : Tk) (l : List By) : Prop := ∀ t ∈ l, isB x ⟨t.toArray⟩ = false
def fw : List By := [[45], [40], [98, 101, 115, 116], [102, 108, 111, 111, 114], [109, 105, 110], [109, 97, 120]]
abbrev eBox : Obj := .cells #[.int .i64 0, .int .i64 0, .int .i64 0, .int .i64 0, .string ⟨#[]⟩, .slice none 0 0] 144
theorem Prs.low {w w' : World} {R : Nat} {L : List Tk} (h : Prs w R L) (hb : Below (R + 1) w w') : Prs w' R L := by
 obtain ⟨B, c, z, p, h1, h2, h3, h4⟩ := h.ex
 exact ⟨⟨B, c, z, p, h1, h2, (hb.block R (Nat.lt_succ_self R)).trans h3, h4.below (hb.mono (Nat.le_succ R))⟩, h.len, h.ml.below hb (Nat.le_trans h.r3 (Nat.le_succ R)), h.r3⟩
theorem Kp.low {R : Nat} {w a b : World} (h : Kp R w a) (hb : Below w.heap.size a b) : Kp R w b :=
 ⟨hb.os.trans h.os, hb.tape.trans h.tape, hb.output.trans h.output, Nat.le_trans h.size hb.size, fun i hi hne => (hb.block i hi).trans (h.block i hi hne)⟩
theorem ebox {W : World} {g : Nat} (hr : W.heap[g]? = some eBox) : (W.cell? ⟨g, 0, none⟩ = some (.int .i64 0) /\ W.cell? ⟨g, 1, none⟩ = some (.int .i64 0) /\ W.cell? ⟨g, 2, none⟩ = some (.int .i64 0) /\ W.cell? ⟨g, 3, none⟩ = some (.int .i64 0) /\ W.cell? ⟨g, 4, none⟩ = some (.string ⟨#[]⟩) /\ W.cell? ⟨g, 5, none⟩ = some (.slice none 0 0)) ∧
  (W.frozen? ⟨g, 0, none⟩ = false /\ W.frozen? ⟨g, 1, none⟩ = false /\ W.frozen? ⟨g, 2, none⟩ = false /\ W.frozen? ⟨g, 3, none⟩ = false /\ W.frozen? ⟨g, 4, none⟩ = false /\ W.frozen? ⟨g, 5, none⟩ = false) := by
 refine ⟨⟨?_, ?_, ?_, ?_, ?_, ?_⟩, frozen_of_row W g 0 _ _ hr, frozen_of_row W g 1 _ _ hr, frozen_of_row W g 2 _ _ hr, frozen_of_row W g 3 _ _ hr, frozen_of_row W g 4 _ _ hr, frozen_of_row W g 5 _ _ hr⟩ <;> rw [cell_of_row _ _ _ _ _ _ hr] <;> rfl
theorem six_below {n g : Nat} {a b : World} (h : Below n a b) (hg : n <= g) (v0 v1 v2 v3 v4 v5 : Value) : Below n a ((((((b.setCell ⟨g, 0, none⟩ v0).setCell ⟨g, 1, none⟩ v1).setCell ⟨g, 2, none⟩ v2).setCell ⟨g, 3, none⟩ v3).setCell ⟨g, 4, none⟩ v4).setCell ⟨g, 5, none⟩ v5) :=
 (((((h.setCell (p := ⟨g, 0, none⟩) hg _).setCell (p := ⟨g, 1, none⟩) hg _).setCell (p := ⟨g, 2, none⟩) hg _).setCell (p := ⟨g, 3, none⟩) hg _).setCell (p := ⟨g, 4, none⟩) hg _).setCell (p := ⟨g, 5, none⟩) hg _
theorem tab_two (w : World) (a b : En) : ∃ W, w.alloc (.cells #[.string a.s, .int .i64 a.n, .string b.s, .int .i64 b.n] 197) = W /\ Below w.heap.size w W /\ Rd W W.heap.size 2 (some ⟨w.heap.size, 0, none⟩) [a, b].length (flat En.cells [a, b]) :=
 ⟨_, rfl, (Below.refl _ _).alloc (Nat.le_refl _) _, Rd.built (cs := #[.string a.s, .int .i64 a.n, .string b.s, .int .i64 b.n]) (heap_alloc_new w _) (by simp) rfl⟩
theorem factor_leaf {R : Nat} {x : Tk} {L : List Tk} {w : World} (h : Prs w R (x :: L)) {v : Lf} (hx : LeafTk x v) (hno : NoB x fw) : Calls Tryz.prog 383 #[.pointer (some ⟨R, 0, none⟩)] w fun e w' => e = .returned v.agg /\ Prs w' R L /\ Kp R w w' := by
 have n1 := hno [45] (by decide)
 have n2 := hno [40] (by decide)
 have n3 := hno [98, 101, 115, 116] (by decide)
 have n4 := hno [102, 108, 111, 111, 114] (by decide)
 have n5 := hno [109, 105, 110] (by decide)
 have n6 := hno [109, 97, 120] (by decide)
 have hlt := h.lt
 have hbel := (Below.refl w.heap.size w).alloc (Nat.le_refl _) eBox
 have hr := heap_alloc_new w eBox
 clear hno
 go_enter Tryz.func383, Tryz.ntmps383
 go_wp2_with fail
 obtain ⟨W, hW⟩ : ∃ W, w.alloc eBox = W := ⟨_, rfl⟩
 rw [hW] at hbel hr ⊢
 clear hW
 have hWlt := (gis hr).1
 have hP := h.to hbel
 refine (accept_no hP n1).mono ?_
 rintro e w1 ⟨rfl, k1⟩
 go_wp2_with fail
 refine (accept_no (hP.to k1) n2).mono ?_
 rintro e w2 ⟨rfl, b2⟩
 have k2 := k1.trans (b2.mono k1.size)
 clear b2
 go_wp2_with fail
 refine (accept_no (hP.to k2) n3).mono ?_
 rintro e w3 ⟨rfl, b3⟩
 have k3 := k2.trans (b3.mono k2.size)
 clear b3
 go_wp2_with fail
 refine (accept_no (hP.to k3) n4).mono ?_
 rintro e w4 ⟨rfl, b4⟩
 have k4 := k3.trans (b4.mono k3.size)
 clear b4
 go_wp2_with fail
 obtain ⟨w5, hw5, b5, hT⟩ := tab_two w4 ⟨⟨#[109, 105, 110]⟩, 19⟩ ⟨⟨#[109, 97, 120]⟩, 20⟩
 rw [hw5]
 have k5 := k4.trans (b5.mono k4.size)
 refine (binary_no (hP.to k5) (B := w5.heap.size) (T := [⟨⟨#[109, 105, 110]⟩, 19⟩, ⟨⟨#[109, 97, 120]⟩, 20⟩]) (Nat.le_refl _) hT (by decide) (fun y hy => ?_)).mono ?_
 ·rcases List.mem_cons.1 hy with rfl | hy
  ·exact n5
  ·obtain rfl := List.mem_singleton.1 hy
   exact n6
 rintro e w6 ⟨rfl, b6⟩
 have k6 := k5.trans (b6.mono k5.size)
 clear hw5 hT b5 b6
 go_wp2_with fail
 have hpk := peek_ok (hP.to k6)
 have hdef : (⟨x.k, x.t, x.a⟩ : Tk) = x := rfl
 obtain ⟨xk, xt, xa⟩ := x
 dsimp only [Tk.agg] at hpk
 refine hpk.mono ?_
 rintro e w7 ⟨rfl, b7⟩
 have k7 := k6.trans (b7.mono k6.size)
 clear b7 hpk
 go_upto_region 26 with (fail)
 obtain ⟨w8, hw8, k8, r8⟩ : ∃ w8, w7.alloc (.cells #[.int .i64 xk, .string xt, .int .i64 xa] 124) = w8 /\ Below W.heap.size W w8 /\ w8.heap[w7.heap.size]? = some (.cells #[.int .i64 xk, .string xt, .int .i64 xa] 124) :=
  ⟨_, rfl, k7.alloc k7.size _, heap_alloc_new w7 _⟩
 rw [hw8]
 clear hw8
 have z7 := k7.size
 have e0 : w8.cell? ⟨w7.heap.size, 0, none⟩ = some (.int .i64 xk) := by rw [cell_of_row _ _ _ _ _ _ r8]; rfl
 have e1 : w8.cell? ⟨w7.heap.size, 1, none⟩ = some (.string xt) := by rw [cell_of_row _ _ _ _ _ _ r8]; rfl
 have hP8 := hP.to k8
 have l8 := (gis r8).1
 cases hx with
 | @num n dim hk ht hd hn =>
  dsimp only at hk ht
  subst hk
  go_wp2_with fail
  refine (next_ok hP8).mono ?_
  rintro e w9 ⟨rfl, hP9, k9⟩
  have r9 := (k9.block w7.heap.size l8 (fun e => by injection e with e; omega)).trans r8
  have s9 := (k9.block w.heap.size (by have := k8.size; omega) (fun e => by injection e with e; omega)).trans ((k8.block w.heap.size hWlt).trans hr)
  have e9 : w9.cell? ⟨w7.heap.size, 1, none⟩ = some (.string xt) := by rw [cell_of_row _ _ _ _ _ _ r9]; rfl
  have hdec := dec_ok n dim hd hn w9 hP9.ml
  rw [<- ht] at hdec
  clear e0 e1 r8 r9 ht
  go_wp2_with fail
  refine hdec.mono ?_
  rintro e w10 ⟨rfl, b10⟩
  have z9 := k9.size
  obtain ⟨w11, hw11, b11, r11⟩ : ∃ w11, w10.alloc (.cells #[.int .i64 (n : Int), .int .i64 1] 49) = w11 /\ Below w9.heap.size w9 w11 /\ w11.heap[w10.heap.size]? = some (.cells #[.int .i64 (n : Int), .int .i64 1] 49) :=
   ⟨_, rfl, b10.alloc b10.size _, heap_alloc_new w10 _⟩
  have q0 : w11.cell? ⟨w10.heap.size, 0, none⟩ = some (.int .i64 (n : Int)) := by rw [cell_of_row _ _ _ _ _ _ r11]; rfl
  have q1 : w11.cell? ⟨w10.heap.size, 1, none⟩ = some (.int .i64 1) := by rw [cell_of_row _ _ _ _ _ _ r11]; rfl
  have s11 := (b11.block w.heap.size (gis s9).1).trans s9
  obtain ⟨⟨f0, f1, f2, f3, f4, f5⟩, y0, y1, y2, y3, y4, y5⟩ := ebox s11
  clear r11 s9 s11 hdec b10
  go_upto_region 29 with (fail)
  clear hw11
  go_wp2_with fail
  have hz := k8.size
  have hfin := six_below (g := w.heap.size) (b11.mono (show R + 1 <= w9.heap.size by omega)) (by omega) (.int .i64 1) (.int .i64 (n : Int)) (.int .i64 1) (.int .i64 dim) (.string ⟨#[]⟩) (.slice none 0 0)
  have hfin2 := six_below (g := w.heap.size) (b11.mono (show w.heap.size <= w9.heap.size by omega)) (Nat.le_refl _) (.int .i64 1) (.int .i64 (n : Int)) (.int .i64 1) (.int .i64 dim) (.string ⟨#[]⟩) (.slice none 0 0)
  have hkp : Kp R w w9 := (Kp.of (hbel.trans (k8.mono hbel.size))).trans k9
  exact bodyPost_ret (v := Lf.agg ⟨1, n, 1, dim, ⟨#[]⟩⟩) (by simp [results, Tryz.f383, go_sem, f0, f1, f2, f3, f4, f5, Lf.agg]) rfl ⟨rfl, hP9.low hfin, hkp.low hfin2⟩
 | @name t hk ht hn =>
  dsimp only at hk ht
  subst hk
  have hnm := name_ok hP8 rfl ht hn
  clear e1 ht
  go_wp2_with fail
  refine hnm.mono ?_
  rintro e w9 ⟨rfl, hP9, k9⟩
  have s9 := (k9.block w.heap.size (by have := k8.size; omega) (fun e => by injection e with e; omega)).trans ((k8.block w.heap.size hWlt).trans hr)
  have z9 := k9.size
  obtain ⟨⟨f0, f1, f2, f3, f4, f5⟩, y0, y1, y2, y3, y4, y5⟩ := ebox s9
  clear e0 r8 s9 hnm
  go_wp2_with fail
  have hz := k8.size
  have hfin := six_below (g := w.heap.size) (Below.refl (R + 1) w9) (by omega) (.int .i64 2) (.int .i64 0) (.int .i64 0) (.int .i64 0) (.string (bs t)) (.slice none 0 0)
  have hfin2 := six_below (g := w.heap.size) (Below.refl w.heap.size w9) (Nat.le_refl _) (.int .i64 2) (.int .i64 0) (.int .i64 0) (.int .i64 0) (.string (bs t)) (.slice none 0 0)
  have hkp : Kp R w w9 := (Kp.of (hbel.trans (k8.mono hbel.size))).trans k9
  exact bodyPost_ret (v := Lf.agg ⟨2, 0, 0, 0, bs t⟩) (by simp [results, Tryz.f383, go_sem, f0, f1, f2, f3, f4, f5, Lf.agg]) rfl ⟨rfl, hP9.low hfin, hkp.low hfin2⟩
end
section
abbrev lBox (v : Lf) : Obj := .cells #[.int .i64 v.o, .int .i64 v.n, .int .i64 v.d, .int .i64 v.m, .string v.s, .slice none 0 0] 144
theorem lbox {W : World} {g : Nat} {v : Lf} (hr : W.heap[g]? = some (lBox v)) : W.cell? ⟨g, 0, none⟩ = some (.int .i64 v.o) /\ W.cell? ⟨g, 1, none⟩ = some (.int .i64 v.n) /\ W.cell? ⟨g, 2, none⟩ = some (.int .i64 v.d) /\ W.cell? ⟨g, 3, none⟩ = some (.int .i64 v.m) /\ W.cell? ⟨g, 4, none⟩ = some (.string v.s) /\ W.cell? ⟨g, 5, none⟩ = some (.slice none 0 0) := by
 refine ⟨?_, ?_, ?_, ?_, ?_, ?_⟩ <;> rw [cell_of_row _ _ _ _ _ _ hr] <;> rfl
theorem term_leaf {R : Nat} {x y : Tk} {L : List Tk} {w : World} (h : Prs w R (x :: y :: L)) {v : Lf} (hx : LeafTk x v) (hno : NoB x fw) (hy : NoB y [[42], [47]]) : Calls Tryz.prog 375 #[.pointer (some ⟨R, 0, none⟩)] w fun e w' => e = .returned v.agg /\ Prs w' R (y :: L) /\ Kp R w w' := by
 have n1 := hy [42] (by decide)
 have n2 := hy [47] (by decide)
 have hlt := h.lt
 have hbel := (Below.refl w.heap.size w).alloc (Nat.le_refl _) eBox
 have hr := heap_alloc_new w eBox
 go_enter Tryz.func375, Tryz.ntmps375
 go_wp2_with fail
 obtain ⟨W, hW⟩ : ∃ W, w.alloc eBox = W := ⟨_, rfl⟩
 rw [hW] at hbel hr ⊢
 clear hW
 have hWlt := (gis hr).1
 refine (factor_leaf (h.to hbel) hx hno).mono ?_
 rintro e w1 ⟨rfl, hP1, k1⟩
 clear hx hno hy
 obtain ⟨vo, vn, vd, vm, vs⟩ := v
 unfold Lf.agg
 go_upto_block 0 with (fail)
 obtain ⟨w2, hw2, b2, r2⟩ := box_new w1 (lBox ⟨vo, vn, vd, vm, vs⟩)
 dsimp only [lBox] at hw2
 rw [hw2]
 clear hw2
 go_wp2_with fail
 refine wp_loop_rounds 1 ?_
 rw [rounds_succ]
 go_wp2_with fail
 obtain ⟨w3, hw3, b3, hT⟩ := tab_two w2 ⟨⟨#[42]⟩, 9⟩ ⟨⟨#[47]⟩, 10⟩
 dsimp only at hw3
 rw [hw3]
 clear hw3
 have c3 := b2.trans (b3.mono b2.size)
 refine (binary_no (hP1.to c3) (B := w3.heap.size) (T := [⟨⟨#[42]⟩, 9⟩, ⟨⟨#[47]⟩, 10⟩]) (Nat.le_refl _) hT (by decide) (fun y hy => ?_)).mono ?_
 ·rcases List.mem_cons.1 hy with rfl | hy
  ·exact n1
  ·obtain rfl := List.mem_singleton.1 hy
   exact n2
 rintro e w4 ⟨rfl, b4⟩
 have c4 := c3.trans (b4.mono c3.size)
 have r4 := ((b3.trans (b4.mono b3.size)).block w1.heap.size (gis r2).1).trans r2
 obtain ⟨g0, g1, g2, g3, g4, g5⟩ := lbox r4
 have z1 := k1.size
 have s4 := (c4.block w.heap.size (by omega)).trans ((k1.block w.heap.size hWlt (fun e => by injection e with e; omega)).trans hr)
 obtain ⟨⟨f0, f1, f2, f3, f4, f5⟩, y0, y1, y2, y3, y4, y5⟩ := ebox s4
 dsimp only at g0 g1 g2 g3 g4 g5
 clear r4 s4 r2 hT b2 b3 b4 c3
 go_wp2_with fail
 have hfin := six_below (g := w.heap.size) (c4.mono (show R + 1 <= w1.heap.size by omega)) (by omega) (.int .i64 vo) (.int .i64 vn) (.int .i64 vd) (.int .i64 vm) (.string vs) (.slice none 0 0)
 have hfin2 := six_below (g := w.heap.size) (c4.mono (show w.heap.size <= w1.heap.size by omega)) (Nat.le_refl _) (.int .i64 vo) (.int .i64 vn) (.int .i64 vd) (.int .i64 vm) (.string vs) (.slice none 0 0)
 have hkp : Kp R w w1 := (Kp.of hbel).trans k1
 exact bodyPost_ret (v := Lf.agg ⟨vo, vn, vd, vm, vs⟩) (by simp [results, Tryz.f375, go_sem, f0, f1, f2, f3, f4, f5, Lf.agg]) rfl ⟨rfl, hP1.low hfin, hkp.low hfin2⟩
theorem sum_leaf {R : Nat} {x y : Tk} {L : List Tk} {w : World} (h : Prs w R (x :: y :: L)) {v : Lf} (hx : LeafTk x v) (hno : NoB x fw) (hy : NoB y [[42], [47]]) (hs : NoB y [[43], [45]]) : Calls Tryz.prog 358 #[.pointer (some ⟨R, 0, none⟩)] w fun e w' => e = .returned v.agg /\ Prs w' R (y :: L) /\ Kp R w w' := by
 have n1 := hs [43] (by decide)
 have n2 := hs [45] (by decide)
 have hlt := h.lt
 have hbel := (Below.refl w.heap.size w).alloc (Nat.le_refl _) eBox
 have hr := heap_alloc_new w eBox
 go_enter Tryz.func358, Tryz.ntmps358
 go_wp2_with fail
 obtain ⟨W, hW⟩ : ∃ W, w.alloc eBox = W := ⟨_, rfl⟩
 rw [hW] at hbel hr ⊢
 clear hW
 have hWlt := (gis hr).1
 refine (term_leaf (h.to hbel) hx hno hy).mono ?_
 rintro e w1 ⟨rfl, hP1, k1⟩
 clear hx hno hy hs
 obtain ⟨vo, vn, vd, vm, vs⟩ := v
 unfold Lf.agg
 go_upto_block 0 with (fail)
 obtain ⟨w2, hw2, b2, r2⟩ := box_new w1 (lBox ⟨vo, vn, vd, vm, vs⟩)
 dsimp only [lBox] at hw2
 rw [hw2]
 clear hw2
 go_wp2_with fail
 refine wp_loop_rounds 1 ?_
 rw [rounds_succ]
 go_wp2_with fail
 obtain ⟨w3, hw3, b3, hT⟩ := tab_two w2 ⟨⟨#[43]⟩, 7⟩ ⟨⟨#[45]⟩, 8⟩
 dsimp only at hw3
 rw [hw3]
 clear hw3
 have c3 := b2.trans (b3.mono b2.size)
 refine (binary_no (hP1.to c3) (B := w3.heap.size) (T := [⟨⟨#[43]⟩, 7⟩, ⟨⟨#[45]⟩, 8⟩]) (Nat.le_refl _) hT (by decide) (fun y hy => ?_)).mono ?_
 ·rcases List.mem_cons.1 hy with rfl | hy
  ·exact n1
  ·obtain rfl := List.mem_singleton.1 hy
   exact n2
 rintro e w4 ⟨rfl, b4⟩
 have c4 := c3.trans (b4.mono c3.size)
 have r4 := ((b3.trans (b4.mono b3.size)).block w1.heap.size (gis r2).1).trans r2
 obtain ⟨g0, g1, g2, g3, g4, g5⟩ := lbox r4
 have z1 := k1.size
 have s4 := (c4.block w.heap.size (by omega)).trans ((k1.block w.heap.size hWlt (fun e => by injection e with e; omega)).trans hr)
 obtain ⟨⟨f0, f1, f2, f3, f4, f5⟩, y0, y1, y2, y3, y4, y5⟩ := ebox s4
 dsimp only at g0 g1 g2 g3 g4 g5
 clear r4 s4 r2 hT b2 b3 b4 c3
 go_wp2_with fail
 have hfin := six_below (g := w.heap.size) (c4.mono (show R + 1 <= w1.heap.size by omega)) (by omega) (.int .i64 vo) (.int .i64 vn) (.int .i64 vd) (.int .i64 vm) (.string vs) (.slice none 0 0)
 have hfin2 := six_below (g := w.heap.size) (c4.mono (show w.heap.size <= w1.heap.size by omega)) (Nat.le_refl _) (.int .i64 vo) (.int .i64 vn) (.int .i64 vd) (.int .i64 vm) (.string vs) (.slice none 0 0)
 have hkp : Kp R w w1 := (Kp.of hbel).trans k1
 exact bodyPost_ret (v := Lf.agg ⟨vo, vn, vd, vm, vs⟩) (by simp [results, Tryz.f358, go_sem, f0, f1, f2, f3, f4, f5, Lf.agg]) rfl ⟨rfl, hP1.low hfin, hkp.low hfin2⟩
end
section
def rw : List By := [[60], [60, 61], [61], [60, 62], [62], [62, 61]]
def rwT : List En := [⟨⟨#[60]⟩, 11⟩, ⟨⟨#[60, 61]⟩, 12⟩, ⟨⟨#[61]⟩, 13⟩, ⟨⟨#[60, 62]⟩, 14⟩, ⟨⟨#[62]⟩, 15⟩, ⟨⟨#[62, 61]⟩, 16⟩]
theorem norw {y : Tk} (h : NoB y rw) : ∀ z ∈ rwT, isB y z.s = false := by
 intro z hz
 have hm : ∃ t ∈ rw, z.s = ⟨t.toArray⟩ := by
  simp only [rwT, List.mem_cons, List.not_mem_nil, or_false] at hz
  rcases hz with rfl | rfl | rfl | rfl | rfl | rfl
  ·exact ⟨[60], by decide, rfl⟩
  ·exact ⟨[60, 61], by decide, rfl⟩
  ·exact ⟨[61], by decide, rfl⟩
  ·exact ⟨[60, 62], by decide, rfl⟩
  ·exact ⟨[62], by decide, rfl⟩
  ·exact ⟨[62, 61], by decide, rfl⟩
 obtain ⟨t, ht, e⟩ := hm
 rw [e]
 exact h t ht
theorem tab_rel (w : World) : ∃ W, w.alloc (.cells #[.string ⟨#[60]⟩, .int .i64 11, .string ⟨#[60, 61]⟩, .int .i64 12, .string ⟨#[61]⟩, .int .i64 13, .string ⟨#[60, 62]⟩, .int .i64 14, .string ⟨#[62]⟩, .int .i64 15, .string ⟨#[62, 61]⟩, .int .i64 16] 197) = W /\ Below w.heap.size w W /\ Rd W W.heap.size 2 (some ⟨w.heap.size, 0, none⟩) rwT.length (flat En.cells rwT) :=
 ⟨_, rfl, (Below.refl _ _).alloc (Nat.le_refl _) _, Rd.built (cs := #[.string ⟨#[60]⟩, .int .i64 11, .string ⟨#[60, 61]⟩, .int .i64 12, .string ⟨#[61]⟩, .int .i64 13, .string ⟨#[60, 62]⟩, .int .i64 14, .string ⟨#[62]⟩, .int .i64 15, .string ⟨#[62, 61]⟩, .int .i64 16]) (heap_alloc_new w _) (by simp) rfl⟩
theorem rel_leaf {R : Nat} {x y : Tk} {L : List Tk} {w : World} (h : Prs w R (x :: y :: L)) {v : Lf} (hx : LeafTk x v) (hno : NoB x fw) (hy : NoB y [[42], [47]]) (hs : NoB y [[43], [45]]) (hr2 : NoB y rw) : Calls Tryz.prog 334 #[.pointer (some ⟨R, 0, none⟩)] w fun e w' => e = .returned v.agg /\ Prs w' R (y :: L) /\ Kp R w w' := by
 have n1 : ∀ z ∈ rwT, isB y z.s = false := norw hr2
 have hlt := h.lt
 have hbel := (Below.refl w.heap.size w).alloc (Nat.le_refl _) eBox
 have hr := heap_alloc_new w eBox
 go_enter Tryz.func334, Tryz.ntmps334
 go_wp2_with fail
 obtain ⟨W, hW⟩ : ∃ W, w.alloc eBox = W := ⟨_, rfl⟩
 rw [hW] at hbel hr ⊢
 clear hW
 have hWlt := (gis hr).1
 refine (sum_leaf (h.to hbel) hx hno hy hs).mono ?_
 rintro e w1 ⟨rfl, hP1, k1⟩
 clear hx hno hy hs hr2
 obtain ⟨vo, vn, vd, vm, vs⟩ := v
 unfold Lf.agg
 go_upto_region 2 with (fail)
 obtain ⟨w2, hw2, b2, r2⟩ := box_new w1 (lBox ⟨vo, vn, vd, vm, vs⟩)
 dsimp only [lBox] at hw2
 rw [hw2]
 clear hw2
 go_wp2_with fail
 obtain ⟨w3, hw3, b3, hT⟩ := tab_rel w2
 rw [hw3]
 clear hw3
 have c3 := b2.trans (b3.mono b2.size)
 refine (binary_no (hP1.to c3) (B := w3.heap.size) (T := rwT) (Nat.le_refl _) hT (by decide) n1).mono ?_
 rintro e w4 ⟨rfl, b4⟩
 have c4 := c3.trans (b4.mono c3.size)
 have r4 := ((b3.trans (b4.mono b3.size)).block w1.heap.size (gis r2).1).trans r2
 obtain ⟨g0, g1, g2, g3, g4, g5⟩ := lbox r4
 have z1 := k1.size
 have s4 := (c4.block w.heap.size (by omega)).trans ((k1.block w.heap.size hWlt (fun e => by injection e with e; omega)).trans hr)
 obtain ⟨⟨f0, f1, f2, f3, f4, f5⟩, y0, y1, y2, y3, y4, y5⟩ := ebox s4
 dsimp only at g0 g1 g2 g3 g4 g5
 clear r4 s4 r2 hT b2 b3 b4 c3
 go_wp2_with fail
 have hfin := six_below (g := w.heap.size) (c4.mono (show R + 1 <= w1.heap.size by omega)) (by omega) (.int .i64 vo) (.int .i64 vn) (.int .i64 vd) (.int .i64 vm) (.string vs) (.slice none 0 0)
 have hfin2 := six_below (g := w.heap.size) (c4.mono (show w.heap.size <= w1.heap.size by omega)) (Nat.le_refl _) (.int .i64 vo) (.int .i64 vn) (.int .i64 vd) (.int .i64 vm) (.string vs) (.slice none 0 0)
 have hkp : Kp R w w1 := (Kp.of hbel).trans k1
 exact bodyPost_ret (v := Lf.agg ⟨vo, vn, vd, vm, vs⟩) (by simp [results, Tryz.f334, go_sem, f0, f1, f2, f3, f4, f5, Lf.agg]) rfl ⟨rfl, hP1.low hfin, hkp.low hfin2⟩
end
end Go.Proofs.YtnlopdmhdiegnaaGreatDoor
