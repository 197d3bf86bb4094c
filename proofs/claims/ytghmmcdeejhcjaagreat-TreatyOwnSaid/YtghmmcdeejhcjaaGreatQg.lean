/- The reader begun and its place; a statute's validity. A Go function called, as one step of a region that draws. Parse, walked: it returns. -/
import Derived.Test.YtghmmcdeejhcjaaGreatPbB
import Derived.Test.YtghmmcdeejhcjaaGreatPbC
import Derived.Test.YtghmmcdeejhcjaaGreatBase
import Derived.Deep.RegionLaw
namespace Go.Proofs.YtghmmcdeejhcjaaGreat
open Go.RowKit

set_option maxHeartbeats 2000000 in
theorem place_any {R : Nat} {K : RC} {a : Nat} {b : Bool} {w : World} (h : Rdr w R K a b) : Calls Tryz.prog 26 #[.pointer (some ⟨R, 0, none⟩)] w (RetIi w) := by
  have hL := h.len
  have c0 : w.cell? ⟨R, 0, none⟩ = some (.slice K.A K.L.length K.c) := by rw [cell_of_row _ _ _ _ _ _ h.row]; rfl
  have c1 : w.cell? ⟨R, 1, none⟩ = some (.int .i64 (a : Int)) := by rw [cell_of_row _ _ _ _ _ _ h.row]; rfl
  have c2 : w.cell? ⟨R, 2, none⟩ = some (.int .i64 K.z) := by rw [cell_of_row _ _ _ _ _ _ h.row]; rfl
  by_cases hlt : a < K.L.length
  · obtain ⟨x, hx⟩ : ∃ x, K.L[a]? = some x := ⟨_, List.getElem?_eq_getElem hlt⟩
    obtain ⟨_, g, o, hA, hgR, hc⟩ := h.toks.elem tk_len hx (by omega)
    have e2 : w.cell? ⟨g, o + a * 3 + 2, none⟩ = some (.int .i64 x.a) := hc 2 _ rfl
    have hlo : (0 : Int) ≤ (a : Int) := by omega
    have hhi : (a : Int) < (K.L.length : Int) := by omega
    have hd : decide ((a : Int) < (K.L.length : Int)) = true := decide_eq_true hhi
    rw [hA] at c0
    clear hx hc hA h
    go_enter Tryz.func26, Tryz.ntmps26
    go_wp2_with fail
    go_quiet (fail)
    go_wp2_with fail
    go_quiet (fail)
    go_wp2_with fail
    go_ret
    exact ⟨_, rfl, Below.dN (below_N _ _) _⟩
  · have hd : decide ((a : Int) < (K.L.length : Int)) = false := decide_eq_false (by omega)
    clear h
    go_enter Tryz.func26, Tryz.ntmps26
    go_wp2_with fail
    go_quiet (fail)
    go_wp2_with fail
    go_ret
    exact ⟨_, rfl, (below_N _ _)⟩
/-- A reader begins, or there is an error. -/
def RetBeg (w : World) (e : Ending) (w' : World) : Prop := Below w.heap.size w w' ∧ ((∃ p er : Int, er ≠ 0 ∧ e = .returned (.tuple #[.pointer none, .int .i64 p, .int .i64 er])) ∨
  ∃ (R : Nat) (K : RC), w.heap.size ≤ R ∧ e = .returned (.tuple #[.pointer (some ⟨R, 0, none⟩), .int .i64 0, .int .i64 0]) ∧ Rdr w' R K 0 false)
set_option maxHeartbeats 2000000 in
theorem begin_any (s : ByteArray) (hs : s.size ≤ 100000) (w : World) : Calls Tryz.prog 20 #[.string s] w (RetBeg w) := by
  go_enter Tryz.func20, Tryz.ntmps20
  go_wp2_with fail
  refine (all_any s hs _).mono ?_
  rintro e w1 ⟨A, n, c, L, p, er, rfl, hn, hn8, hok, hown, hb⟩
  by_cases h0 : er = 0
  · subst h0
    go_wp2_with fail
    go_ret3
    refine ⟨hb.alloc hb.size _, .inr ⟨w1.heap.size, ⟨A, c, L, (s.size : Int)⟩, hb.size, rfl, ?_, ?_, Nat.zero_le _, hok, by show L.length ≤ 8000; omega⟩⟩
    · subst hn
      exact heap_alloc_new w1 _
    · subst hn
      exact (Rd.ofOwn hown).below ((Below.refl _ _).alloc (Nat.le_refl _) _)
  · have d0 : (er != 0) = true := by simp [h0]
    have H0 := Lib.hid h0
    clear h0
    go_wp2_with fail
    go_ret3
    exact ⟨hb, .inl ⟨p, er, H0.out, rfl⟩⟩
theorem vc_len (C : Vc) : C.cells.length = 8 := rfl
theorem ver_cells {w : World} {n : Nat} {A : Option Addr} {Cs : List Vc} (h : Rd w w.heap.size 8 A n (flat Vc.cells Cs)) {f m q : Int} {A1 A2 A3 A4 A5 : Option Addr} {c1 c2 c3 c4 c5 : Nat} {l1 : List VCr} {l2 : List VIx} {l3 : List VLe} {l4 : List VGr} {l5 : List VRe} {k : Nat} (hx : Cs[k]? = some ⟨f, m, q, ⟨A1, c1, l1⟩, ⟨A2, c2, l2⟩, ⟨A3, c3, l3⟩, ⟨A4, c4, l4⟩, ⟨A5, c5, l5⟩⟩) :
    ∃ b p, A = some ⟨b, p, none⟩ ∧ b < w.heap.size ∧ w.cell? ⟨b, p + k * 8, none⟩ = some (.int .i64 f) ∧ w.cell? ⟨b, p + k * 8 + 1, none⟩ = some (.int .i64 m) ∧ w.cell? ⟨b, p + k * 8 + 2, none⟩ = some (.int .i64 q) ∧ w.cell? ⟨b, p + k * 8 + 3, none⟩ = some (.slice A1 l1.length c1) ∧ w.cell? ⟨b, p + k * 8 + 4, none⟩ = some (.slice A2 l2.length c2) ∧ w.cell? ⟨b, p + k * 8 + 5, none⟩ = some (.slice A3 l3.length c3) ∧ w.cell? ⟨b, p + k * 8 + 6, none⟩ = some (.slice A4 l4.length c4) ∧ w.cell? ⟨b, p + k * 8 + 7, none⟩ = some (.slice A5 l5.length c5) := by
  obtain ⟨_, b, p, e, hb, hc⟩ := h.elem vc_len hx (by omega)
  exact ⟨b, p, e, hb, by simpa using hc 0 _ rfl, hc 1 _ rfl, hc 2 _ rfl, hc 3 _ rfl, hc 4 _ rfl, hc 5 _ rfl, hc 6 _ rfl, hc 7 _ rfl⟩
abbrev staRow (nm : ByteArray) (cu : Int) (A : Option Addr) (n c : Nat) : Obj := .cells #[.string nm, .int .i64 cu, .slice A n c] 43
set_option maxRecDepth 100000 in
set_option maxHeartbeats 8000000 in
theorem vstat_any {w : World} {nm : ByteArray} {A : Option Addr} {c : Nat} {Cs : List Vc} (hn : nm.size ≤ 100000) (hrd : Rd w w.heap.size 8 A Cs.length (flat Vc.cells Cs)) (hv : ∀ C ∈ Cs, VRd w C) (cu : Int) :
    Calls Tryz.prog 27 #[.agg #[.string nm, .int .i64 cu, .slice A Cs.length c]] w (RetBb w) := by
  go_enter Tryz.func27, Tryz.ntmps27
  go_upto_region 1 with (fail)
  obtain ⟨W, hW, hrow, hz, hbW⟩ : ∃ W, W = w.alloc (staRow nm cu A Cs.length c) ∧ W.heap[w.heap.size]? = some (staRow nm cu A Cs.length c) ∧ W.heap.size = w.heap.size + 1 ∧ Below w.heap.size w W :=
    ⟨_, rfl, heap_alloc_new w _, by simp, (Below.refl _ _).alloc (Nat.le_refl _) _⟩
  rw [← hW]
  clear hW
  have y0 : W.cell? ⟨w.heap.size, 0, none⟩ = some (.string nm) := by rw [cell_of_row _ _ _ _ _ _ hrow]; rfl
  have y1 : W.cell? ⟨w.heap.size, 1, none⟩ = some (.int .i64 cu) := by rw [cell_of_row _ _ _ _ _ _ hrow]; rfl
  have y2 : W.cell? ⟨w.heap.size, 2, none⟩ = some (.slice A Cs.length c) := by rw [cell_of_row _ _ _ _ _ _ hrow]; rfl
  have hrdW := (hrd.below hbW).mono hbW.size
  have hvW : ∀ C ∈ Cs, VRd W C := fun C hC => (hv C hC).to hbW
  clear hrd hv
  go_wp2_with fail
  refine (isname_any nm hn _).mono ?_
  rintro e w1 ⟨b0, rfl, rfl⟩
  cases b0
  · go_wp2_with fail
    go_ret
    exact ⟨_, rfl, hbW⟩
  obtain ⟨k1, hk1⟩ : ∃ t, decide (cu < 1) = t := ⟨_, rfl⟩
  cases k1
  case true =>
    go_wp2_with fail
    go_ret
    exact ⟨_, rfl, hbW⟩
  obtain ⟨k2, hk2⟩ : ∃ t, decide (999 < cu) = t := ⟨_, rfl⟩
  cases k2
  case true =>
    go_wp2_with fail
    go_ret
    exact ⟨_, rfl, hbW⟩
  by_cases g3 : (Cs.length : Int) < 1
  · have e3 : decide ((Cs.length : Int) < 1) = true := decide_eq_true g3
    go_wp2_with fail
    go_ret
    exact ⟨_, rfl, hbW⟩
  have e3 : decide ((Cs.length : Int) < 1) = false := decide_eq_false g3
  by_cases g4 : 6 < (Cs.length : Int)
  · have e4 : decide (6 < (Cs.length : Int)) = true := decide_eq_true g4
    go_wp2_with fail
    go_ret
    exact ⟨_, rfl, hbW⟩
  have e4 : decide (6 < (Cs.length : Int)) = false := decide_eq_false g4
  go_wp2_with fail
  clear y0 y1 y2 e3 e4 hk1 hk2
  go_loopw [3] (fun i wr => ∃ k : Nat, k ≤ Cs.length ∧ i = .int .i64 (k : Int) ∧ Below W.heap.size W wr) (fun i _ => Cs.length - (intOf i).toNat)
  case atStart => exact ⟨0, by omega, rfl, Below.refl _ _⟩
  case round =>
    obtain ⟨k, hkl, rfl, hbr⟩ := hrel
    have hsz := hbr.size
    have hbu : Below w.heap.size w wr := hbW.trans (hbr.mono (by omega))
    have y2 : wr.cell? ⟨w.heap.size, 2, none⟩ = some (.slice A Cs.length c) := by rw [cell_of_row _ _ _ _ _ _ ((hbr.block w.heap.size (by omega)).trans hrow)]; rfl
    by_cases hlt : k < Cs.length
    · obtain ⟨C, hC⟩ : ∃ x, Cs[k]? = some x := ⟨_, List.getElem?_eq_getElem hlt⟩
      have hvC := (hvW C (List.mem_of_getElem? hC)).to hbr
      obtain ⟨f, m, q, ⟨A1, c1, l1⟩, ⟨A2, c2, l2⟩, ⟨A3, c3, l3⟩, ⟨A4, c4, l4⟩, ⟨A5, c5, l5⟩⟩ := C
      obtain ⟨b, p, hA, hbw, x0, x1, x2, x3, x4, x5, x6, x7⟩ := ver_cells ((hrdW.below hbr).mono hsz) hC
      clear hC
      subst hA
      go_wp2_with fail
      refine (vver_any hvC).mono ?_
      rintro e w2 ⟨b2, rfl, hb2⟩
      cases b2
      · go_wp2_with fail
        go_ret
        exact ⟨_, rfl, hbu.trans (hb2.mono hbu.size)⟩
      · go_wp2_with fail
        go_roundw
        case rel => exact ⟨k + 1, by omega, by go_num, hbr.trans (hb2.mono hsz)⟩
        case measure => simp [intOf]; omega
    · go_wp2_with fail
      go_ret
      exact ⟨_, rfl, hbu⟩

theorem step_callee {P : Program} {ops : Array Oper} {o : Oper} {a : Act} {w : World} {K : Act → World → Prop} {Q : Exit → Act → World → Prop} {E : Prop} (hgd : o.guard = none) (f : FuncId) {fn : Func} (hfn : P.funcs[f]? = some fn) (hname : (fn.name == "runtime.NumGoroutine") = false) (hbody : fn.body.isSome = true) (args : List Operand) (ts : Array TypeId)
    (ho : o.op = .call { callee := .value (.func f), args := args.toArray, argTypes := ts }) (vs : List Value) (hv : args.map a.eval = vs) {R : Ending → World → Prop} (hc : Calls P f vs.toArray w R)
    (h : ∀ e w', R e w' → ∃ v, e = .returned v ∧ K (a.put o.dst v) w') : if Region.wanted o (yielded ops a.tmps) = true then Oper.wp P o a w K Q else E := by
  have hw : Region.wanted o (yielded ops a.tmps) = true := by simp [Region.wanted, hgd]
  rw [if_pos hw]
  have hrun : (execOp a.eval o).run P w = .ok (.enter f vs.toArray) w := by
    subst hv
    have h1 : ¬ fn.name = "runtime.NumGoroutine" := by simpa using hname
    have h2 : ¬ fn.body = none := by intro e; rw [e] at hbody; cases hbody
    simp [execOp, ho, resolve, invoke, Act.eval, Deferred.ofValue, callFunc, go_sem, hfn, h1, h2]
  unfold Oper.wp
  rw [hrun, Oper.upon_enter]
  refine hc.mono fun e w'' hh => ?_
  obtain ⟨v, rfl, hK⟩ := h e w'' hh
  exact hK

theorem info_ver : (Tryz.prog.info? 78).map (fun i => (i.zero, i.size, i.bytes)) = some (some (.agg #[.int .i64 0, .int .i64 0, .int .i64 0, .slice none 0 0, .slice none 0 0, .slice none 0 0, .slice none 0 0, .slice none 0 0]), 8, 144) := by kernel_rfl
abbrev vrows (w : World) (B : Nat) (A : Option Addr) (c : Nat) (Cs : List Vc) : Prop := Rw w B 78 8 Vc.cells (fun w C => VW w B C) ⟨A, c, Cs⟩
theorem nil_len (a : Nat) (b : Bool) : ([] : List Vc).length + mb b ≤ a + 1 := by cases b <;> simp [mb]
theorem ver_len {n a a' : Nat} {b : Bool} (h : n + mb false ≤ a + 1) (ha : a ≤ a') (hp : b = false → a < a') : n + 1 + mb b ≤ a' + 1 := by
  cases b with
  | false => have := hp rfl; omega
  | true => simp only [mb, cond] at h ⊢; omega
/-- The reader and the statute under way. -/
structure PI (w : World) (R X : Nat) (K : RC) (nm : ByteArray) (cu : Int) (A : Option Addr) (c : Nat) (Cs : List Vc) (a : Nat) (b : Bool) (wx : World) : Prop where
  rd : Rdr wx R K a b
  row : wx.heap[X]? = some (staRow nm cu A Cs.length c)
  rows : vrows wx (X + 1) A c Cs
  len : Cs.length + mb b ≤ a + 1

  e : wx.heap[w.heap.size]? = some (staRow ⟨#[]⟩ 0 none 0 0)
  k : Below w.heap.size w wx
  s : X < wx.heap.size
theorem PI.kp {w wx wy : World} {R X : Nat} {K : RC} {nm : ByteArray} {cu : Int} {A : Option Addr} {c : Nat} {Cs : List Vc} {a a' : Nat} {b b' : Bool} (h : PI w R X K nm cu A c Cs a b wx) (hR : w.heap.size < R) (hRX : R < X) (hl : Cs.length + mb b' ≤ a' + 1) (hr : Rdr wy R K a' b') (hk : Kp R wx wy) : PI w R X K nm cu A c Cs a' b' wy := by
  have hs := h.s
  refine ⟨hr, (hk.block _ (by omega) (fun e => by injection e with e; omega)).trans h.row, h.rows.tf (T := 0) (Tf.kp hk (by omega)) (by decide) (fun C hC => hC.kp hk (by omega)), hl, (hk.block _ (by omega) (fun e => by injection e with e; omega)).trans h.e, h.k.trans ⟨hk.os, hk.tape, hk.output, hk.size, fun i hi => hk.block i (Nat.lt_of_lt_of_le hi h.k.size) (fun e => by injection e with e; omega)⟩, Nat.lt_of_lt_of_le hs hk.size⟩
theorem PI.own {w wx wy : World} {R X : Nat} {K : RC} {nm : ByteArray} {cu cu' : Int} {A : Option Addr} {c : Nat} {Cs : List Vc} {a : Nat} {b : Bool} (h : PI w R X K nm cu A c Cs a b wx) (hR : w.heap.size < R) (hRX : R < X) (hk : wx.grownBy wy (some X)) (hv : wy.heap[X]? = some (staRow nm cu' A Cs.length c)) : PI w R X K nm cu' A c Cs a b wy := by
  have hs := h.s
  refine ⟨h.rd.own hk hRX, hv, h.rows.tf (T := 0) (Tf.kp hk (by omega)) (by decide) (fun C hC => hC.kp hk (by omega)), h.len, (hk.block _ (by omega) (fun e => by injection e with e; omega)).trans h.e, h.k.trans ⟨hk.os, hk.tape, hk.output, hk.size, fun i hi => hk.block i (Nat.lt_of_lt_of_le hi h.k.size) (fun e => by injection e with e; omega)⟩, Nat.lt_of_lt_of_le hs hk.size⟩
/-- A version appended, the slice stored. -/
theorem PI.put {w w2 w4 : World} {R X : Nat} {K : RC} {nm : ByteArray} {cu : Int} {A A4 : Option Addr} {c c4 : Nat} {Cs : List Vc} {C : Vc} {a : Nat} {b : Bool} (h : PI w R X K nm cu A c Cs a b w2) (hR : w.heap.size < R) (hRX : R < X) (hC : VW w2 (X + 1) C) (hlen : Cs.length + 1 + mb b ≤ a + 1)
    (ho : w4.ownsRow (X + 1) 78 8 (.slice A4 (Cs.length + 1) c4) (Cs.length + 1) (flat Vc.cells Cs ++ Vc.cells C)) (hg : w2.grownBy w4 (Value.slice A Cs.length c).ownBlock) :
    PI w R X K nm cu A4 c4 (Cs ++ [C]) a b (w4.setCell ⟨X, 2, none⟩ (.slice A4 (Cs.length + 1) c4)) := by
  have hs := h.s
  have hl2 : (Cs ++ [C]).length = Cs.length + 1 := by simp
  obtain ⟨h1, h2, h3⟩ := app_frame (j := 2) (u := .slice A4 (Cs.length + 1) c4) h.rd hRX (Nat.lt_succ_self X) hs h.rows.1 hg
  have hXg : w4.heap[X]? = w2.heap[X]? := hg.block X hs (fun e => by have := h.rows.1.lt X e.symm; omega)
  have hrow := heap_setCell_same w4 X 2 _ _ (.slice A4 (Cs.length + 1) c4) (hXg.trans h.row)
  have ho' := ownsRow_setCell_ne ho (p := ⟨X, 2, none⟩) (fun e => by have := ho.lt X e; omega) (.slice A4 (Cs.length + 1) c4)
  have hsz : w2.heap.size ≤ (w4.setCell ⟨X, 2, none⟩ (.slice A4 (Cs.length + 1) c4)).heap.size := h2.size
  refine ⟨h1, ?_, ⟨?_, fun y hy => ?_⟩, by rw [hl2]; exact hlen, (h2.block _ (by omega) (by omega) (by omega)).trans h.e, h.k.trans ⟨h2.os, h2.tape, h2.output, h2.size, fun i hi => h2.block i (by omega) (by omega) (by omega)⟩, Nat.lt_of_lt_of_le hs hsz⟩
  · rw [hrow, hl2]
    rfl
  · show World.ownsRow _ (X + 1) _ 8 (.slice A4 (Cs ++ [C]).length c4) (Cs ++ [C]).length (flat Vc.cells (Cs ++ [C]))
    rw [hl2, flat_append, flat_one]
    exact ho'
  · rcases List.mem_append.1 hy with hy | hy
    · exact (h.rows.2 y hy).tf h3 (by decide) (by decide) (by decide) (by decide) (by decide) (by decide)
    · obtain rfl : y = C := by simpa using hy
      exact hC.tf h3 (by decide) (by decide) (by decide) (by decide) (by decide) (by decide)
theorem sta_one (nm : ByteArray) (cu : Int) (A : Option Addr) (n c : Nat) : ∀ v ∈ [Value.string nm, .int .i64 cu, .slice A n c], v.oneCell' = true := by
  intro v hv
  simp only [List.mem_cons, List.not_mem_nil, or_false] at hv
  rcases hv with rfl | rfl | rfl <;> rfl
theorem sta_cells {w : World} {g : Nat} {nm : ByteArray} {cu : Int} {A : Option Addr} {n c : Nat} (h : w.heap[g]? = some (staRow nm cu A n c)) : w.cell? ⟨g, 0, none⟩ = some (.string nm) ∧ w.cell? ⟨g, 1, none⟩ = some (.int .i64 cu) ∧ w.cell? ⟨g, 2, none⟩ = some (.slice A n c) := by
  refine ⟨?_, ?_, ?_⟩ <;> rw [cell_of_row _ _ _ _ _ _ h] <;> rfl
/-- Parse returns some statute, with or without an error. -/
def RetParse (w : World) (e : Ending) (w' : World) : Prop := ∃ (nm : ByteArray) (cu : Int) (A : Option Addr) (n c : Nat) (p er : Int), e = .returned (.tuple #[.agg #[.string nm, .int .i64 cu, .slice A n c], .int .i64 p, .int .i64 er]) ∧ Below w.heap.size w w'
set_option maxRecDepth 100000 in
set_option maxHeartbeats 16000000 in
theorem parse_any (s : ByteArray) (hs : s.size ≤ 100000) (w : World) : Calls Tryz.prog 10 #[.string s] w (RetParse w) := by
  obtain ⟨i0, hi0, hz0, hz1, hz2⟩ := info_parts info_ver
  go_enter Tryz.func10, Tryz.ntmps10
  go_upto_region 1 with (fail)
  obtain ⟨W, hW, rE, hz, hbW⟩ : ∃ W, W = w.alloc (staRow ⟨#[]⟩ 0 none 0 0) ∧ W.heap[w.heap.size]? = some (staRow ⟨#[]⟩ 0 none 0 0) ∧ W.heap.size = w.heap.size + 1 ∧ Below w.heap.size w W :=
    ⟨_, rfl, heap_alloc_new w _, by simp, (Below.refl _ _).alloc (Nat.le_refl _) _⟩
  rw [← hW]
  clear hW
  go_wp2_with fail
  refine (begin_any s hs _).mono ?_
  rintro e w1 ⟨hb1, ⟨p, er, h0, rfl⟩ | ⟨R, K, hR, rfl, hR1⟩⟩
  · have rE1 := (hb1.block w.heap.size (by omega)).trans rE
    have hbb := hbW.trans (hb1.mono (by omega))
    have d0 : (er != 0) = true := by simp [h0]
    clear h0
    go_wp2_with (refine wpList_store_row (by rfl) 43 (.tmp 2) (.tmp 18) (by rfl) w.heap.size _ _ [.string ⟨#[]⟩, .int .i64 0, .slice none 0 0] (by rfl) (by rfl) rE1 (by rfl) (by kernel_rfl) (sta_one _ _ _ _ _) ?_; intro W' hw' hg' hs')
    obtain ⟨y0, y1, y2⟩ := sta_cells hw'
    exact bodyPost_ret (v := .tuple #[.agg #[.string ⟨#[]⟩, .int .i64 0, .slice none 0 0], .int .i64 p, .int .i64 er]) (by simp [results, Tryz.f10, go_sem, y0, y1, y2]) rfl ⟨_, _, _, _, _, _, _, rfl, hbb.grown hg' hbb.size (fun g e => by injection e with e; omega)⟩
  have rE1 := (hb1.block w.heap.size (by omega)).trans rE
  have hbb := hbW.trans (hb1.mono (by omega))
  have hRw : w.heap.size < R := by omega
  clear rE hbW hb1
  go_wp2_with fail
  refine (want_any hR1 _).mono ?_
  rintro e w2 ⟨rfl, a2, b2, -, -, hR2, hk2⟩
  go_wp2_with fail
  refine (name_any hR2).mono ?_
  rintro e w3 ⟨nm, rfl, hnm, a3, b3, -, -, hR3, hk3⟩
  have hkR := hk2.trans hk3
  have hb3 : Below w.heap.size w w3 := hbb.trans ⟨hkR.os, hkR.tape, hkR.output, hkR.size, fun i hi => hkR.block i (Nat.lt_of_lt_of_le hi hbb.size) (fun e => by injection e with e; omega)⟩
  have rE3 := (hkR.block w.heap.size (Nat.lt_trans hRw hR1.lt) (fun e => by injection e with e; omega)).trans rE1
  clear hk2 hk3 hR2 hR1 rE1 hbb hkR
  go_upto_region 6 with (fail)
  have hX : R < w3.heap.size := hR3.lt
  have hI : PI w R w3.heap.size K nm 0 none 0 [] a3 b3 (w3.alloc (staRow nm 0 none 0 0)) := by
    have hbA : Below w3.heap.size w3 (w3.alloc (staRow nm 0 none 0 0)) := (Below.refl _ _).alloc (Nat.le_refl _) _
    exact ⟨hR3.alloc _, heap_alloc_new w3 _, ⟨World.ownsRow_nil _ _ _ _, by simp⟩, nil_len _ _, (hbA.block _ (by omega)).trans rE3, hb3.trans (hbA.mono hb3.size), by simp⟩
  obtain ⟨U, hU⟩ : ∃ U, U = w3.alloc (staRow nm 0 none 0 0) := ⟨_, rfl⟩
  rw [← hU] at hI ⊢
  clear hU hR3 rE3 hb3
  generalize w3.heap.size = X at *
  go_wp2_with fail
  refine (want_any hI.rd _).mono ?_
  rintro e w4 ⟨rfl, a4, b4, ha4, -, hR4, hk4⟩
  have hI4 := hI.kp hRw hX (nil_len _ _) hR4 hk4
  clear hI hR4 hk4
  go_wp2_with fail
  refine (rwhole_any hI4.rd 1 999 (by omega) (by omega)).mono ?_
  rintro e w5 ⟨cu, rfl, -, -, a5, b5, ha5, -, hR5, hk5⟩
  have hI5 := hI4.kp hRw hX (nil_len _ _) hR5 hk5
  have y1 : w5.cell? ⟨X, 1, none⟩ = some (.int .i64 0) := by rw [cell_of_row _ _ _ _ _ _ hI5.row]; rfl
  have z1 := frozen_of_row w5 X 1 _ _ hI5.row
  have hI6 : PI w R X K nm cu none 0 [] a5 b5 (w5.setCell ⟨X, 1, none⟩ (.int .i64 cu)) := hI5.own hRw hX (Kp.set w5 1 _) (by rw [heap_setCell_same w5 X 1 _ _ _ hI5.row]; rfl)
  go_upto_region 8 with (fail)
  obtain ⟨U, hU⟩ : ∃ U, U = w5.setCell ⟨X, 1, none⟩ (.int .i64 cu) := ⟨_, rfl⟩
  rw [← hU] at hI6 ⊢
  clear hU y1 z1 hI5 hI4 hR5 hk5
  go_wp2_with fail
  refine (want_any hI6.rd _).mono ?_
  rintro e w7 ⟨rfl, a7, b7, ha7, -, hR7, hk7⟩
  have hI7 := hI6.kp hRw hX (nil_len _ _) hR7 hk7
  clear hI6 hR7 hk7
  go_wp2_with fail
  go_loopg [9] (2 * K.L.length + 1) (fun g v wr => ∃ (a' : Nat) (b' f : Bool) (A : Option Addr) (c : Nat) (Cs : List Vc), v = .bool f ∧ 2 * (K.L.length - a') + mb b' ≤ g ∧ PI w R X K nm cu A c Cs a' b' wr)
  case atStart => exact ⟨a7, b7, true, none, 0, [], rfl, by cases b7 <;> simp only [mb, cond] <;> omega, hI7⟩
  case round =>
    obtain ⟨a', b', f, A, c, Cs, rfl, hg, hI⟩ := hrel
    clear hI7
    have b3' : wr.cell? ⟨R, 3, none⟩ = some (.bool b') := by rw [cell_of_row _ _ _ _ _ _ hI.rd.row]; rfl
    cases b'
    · have hg' : 2 * (K.L.length - a') + 1 ≤ gk := hg
      cases f
      · go_wp2_with fail
        refine (take_any hI.rd _).mono ?_
        rintro e w8 ⟨v, rfl, hv, hk8⟩
        rcases hv with ⟨rfl, -, hR8⟩ | ⟨rfl, hR8⟩
        · have hI8 := hI.kp hRw hX (Nat.le_succ_of_le hI.len) hR8 hk8
          clear b3' hk8 hI hR8
          have hle := hI8.rd.le
          have hsX := hI8.s
          have q0 : w8.cell? ⟨R, 0, none⟩ = some (.slice K.A K.L.length K.c) := by rw [cell_of_row _ _ _ _ _ _ hI8.rd.row]; rfl
          have q1 : w8.cell? ⟨R, 1, none⟩ = some (.int .i64 (((a' + 1) : Nat) : Int)) := by rw [cell_of_row _ _ _ _ _ _ hI8.rd.row]; rfl
          have q3 : w8.cell? ⟨R, 3, none⟩ = some (.bool false) := by rw [cell_of_row _ _ _ _ _ _ hI8.rd.row]; rfl
          go_upto_region 13 with (fail)
          by_cases hal : (a' + 1) < K.L.length
          · have hd : decide ((((a' + 1) : Nat) : Int) < (K.L.length : Int)) = true := decide_eq_true (by omega)
            go_quiet (fail)
            obtain ⟨V, hV⟩ : ∃ V, V = w8.drewN nq := ⟨_, rfl⟩
            have hIV : PI w R X K nm cu A c Cs (a' + 1) false V := by rw [hV]; exact hI8.kp hRw hX hI8.len (hI8.rd.to (below_N _ _)) (Kp.of (below_N _ _))
            rw [← hV]
            clear hV q0 q1 q3
            go_wp2_with fail
            refine (place_any hIV.rd).mono ?_
            rintro e w9 ⟨r9, rfl, hb9⟩
            have hb9' := hIV.k.trans (hb9.mono hIV.k.size)
            have rE9 := (hb9.block w.heap.size (by have := hIV.k.size; have := hIV.s; omega)).trans hIV.e
            go_wp2_with (refine wpList_store_row (by rfl) 43 (.tmp 2) (.tmp 69) (by rfl) w.heap.size _ _ [.string ⟨#[]⟩, .int .i64 0, .slice none 0 0] (by rfl) (by rfl) rE9 (by rfl) (by kernel_rfl) (sta_one _ _ _ _ _) ?_; intro W' hw' hg' hs')
            obtain ⟨y0, y1, y2⟩ := sta_cells hw'
            exact bodyPost_ret (v := .tuple #[.agg #[.string ⟨#[]⟩, .int .i64 0, .slice none 0 0], .int .i64 r9, .int .i64 4]) (by simp [results, Tryz.f10, go_sem, y0, y1, y2]) rfl ⟨_, _, _, _, _, _, _, rfl, hb9'.grown hg' hb9'.size (fun g e => by injection e with e; omega)⟩
          · have hd : decide ((((a' + 1) : Nat) : Int) < (K.L.length : Int)) = false := decide_eq_false (by omega)
            go_quiet (fail)
            obtain ⟨V, hV⟩ : ∃ V, V = w8.drewN nq := ⟨_, rfl⟩
            have hIV : PI w R X K nm cu A c Cs (a' + 1) false V := by rw [hV]; exact hI8.kp hRw hX hI8.len (hI8.rd.to (below_N _ _)) (Kp.of (below_N _ _))
            rw [← hV]
            clear hV q0 q1 q3
            obtain ⟨x0, x1, x2⟩ := sta_cells hIV.row
            go_wp2_with fail
            refine (vstat_any hnm (Rd.ofOwn hIV.rows.1) (fun C hC => (hIV.rows.2 C hC).vrd) cu).mono ?_
            rintro e w9 ⟨bv, rfl, hb9⟩
            have hsV := hIV.s
            have hb9' := hIV.k.trans (hb9.mono hIV.k.size)
            have rE9 := (hb9.block w.heap.size (by omega)).trans hIV.e
            have rX9 := (hb9.block X hsV).trans hIV.row
            clear x0 x1 x2
            cases bv
            ·
              go_wp2_with (refine wpList_store_row (by rfl) 43 (.tmp 2) (.tmp 75) (by rfl) w.heap.size _ _ [.string ⟨#[]⟩, .int .i64 0, .slice none 0 0] (by rfl) (by rfl) rE9 (by rfl) (by kernel_rfl) (sta_one _ _ _ _ _) ?_; intro W' hw' hg' hs')
              obtain ⟨y0, y1, y2⟩ := sta_cells hw'
              exact bodyPost_ret (v := .tuple #[.agg #[.string ⟨#[]⟩, .int .i64 0, .slice none 0 0], .int .i64 0, .int .i64 7]) (by simp [results, Tryz.f10, go_sem, y0, y1, y2]) rfl ⟨_, _, _, _, _, _, _, rfl, hb9'.grown hg' hb9'.size (fun g e => by injection e with e; omega)⟩
            · obtain ⟨x0, x1, x2⟩ := sta_cells rX9
              go_wp2_with (refine wpList_store_row (by rfl) 43 (.tmp 2) (.tmp 76) (by rfl) w.heap.size _ _ [.string nm, .int .i64 cu, .slice A Cs.length c] (by rfl) (by rfl) rE9 (by rfl) (by kernel_rfl) (sta_one _ _ _ _ _) ?_; intro W' hw' hg' hs')
              obtain ⟨y0, y1, y2⟩ := sta_cells hw'
              exact bodyPost_ret (v := .tuple #[.agg #[.string nm, .int .i64 cu, .slice A Cs.length c], .int .i64 0, .int .i64 0]) (by simp [results, Tryz.f10, go_sem, y0, y1, y2]) rfl ⟨_, _, _, _, _, _, _, rfl, hb9'.grown hg' hb9'.size (fun g e => by injection e with e; omega)⟩
        · have hI8 := hI.kp hRw hX hI.len hR8 hk8
          clear b3' hk8 hI hR8
          have hsX := hI8.s
          have hL := hI8.rd.len
          have x2 : w8.cell? ⟨X, 2, none⟩ = some (.slice A Cs.length c) := (sta_cells hI8.row).2.2
          have hId : PI w R X K nm cu A c Cs a' false w8.drew := hI8.kp hRw hX hI8.len (hI8.rd.to (Below.refl _ _).drew) (Kp.of (Below.refl _ _).drew)
          go_wp2_with fail
          go_region_law (first
              | (refine step_callee (by rfl) 25 Tryz.func25 (by rfl) (by rfl) [.tmp 48] _ (by rfl) [.pointer (some ⟨R, 0, none⟩)] (by rfl) (version_any hId.rd) ?_
                 rintro e w8 ⟨⟨f9, m9, q9, ⟨A1, k1, l1⟩, ⟨A2, k2, l2⟩, ⟨A3, k3, l3⟩, ⟨A4, k4, l4⟩, ⟨A5, k5, l5⟩⟩, rfl, hVC, a8, b8, ha8, hp8, hR8, hk8⟩
                 refine ⟨_, rfl, ?_⟩
                 dsimp only [Vc.cells]
                 have hl8 := ver_len hId.len ha8 hp8
                 have hI8 := hId.kp hRw hX (by omega) hR8 hk8
                 have hVC8 : VW w8 (X + 1) ⟨f9, m9, q9, ⟨A1, k1, l1⟩, ⟨A2, k2, l2⟩, ⟨A3, k3, l3⟩, ⟨A4, k4, l4⟩, ⟨A5, k5, l5⟩⟩ := hVC.base hsX
                 have hs8 := hI8.s
                 have x2' : w8.cell? ⟨X, 2, none⟩ = some (.slice A Cs.length c) := (sta_cells hI8.row).2.2
                 have z2' := frozen_of_row w8 X 2 _ _ hI8.row)
              | (refine step_append_rd (by rfl) (.tmp 47) (.tmp 50) 41 (by rfl) (X + 1) 78 i0 _ 8 144 Tryz.underlying41 hi0 hz0 hz1 hz2 rfl (by omega) (.slice A Cs.length c) Cs.length (flat Vc.cells Cs) (by rfl) (hI8.rows.1.alloc _) (w8.heap.size + 1) (some ⟨w8.heap.size, 0, none⟩) 1 1 (Vc.cells ⟨f9, m9, q9, ⟨A1, k1, l1⟩, ⟨A2, k2, l2⟩, ⟨A3, k3, l3⟩, ⟨A4, k4, l4⟩, ⟨A5, k5, l5⟩⟩) (by rfl) (Rd.built (cs := (Vc.cells ⟨f9, m9, q9, ⟨A1, k1, l1⟩, ⟨A2, k2, l2⟩, ⟨A3, k3, l3⟩, ⟨A4, k4, l4⟩, ⟨A5, k5, l5⟩⟩).toArray) (heap_alloc_new w8 _) (by omega) rfl) (vc_one _) (by have := hI8.len; have := hI8.rd.le; have := hI8.rd.len; unfold maxLen; omega) (by have := hI8.len; have := hI8.rd.le; have := hI8.rd.len; omega) (by simp; omega) ?_
                 intro v9 w9 hown9 hg9 hat9
                 obtain ⟨A9, c9, rfl, _, _, _⟩ := own_form hown9
                 have hIA := hI8.kp hRw hX hI8.len (hI8.rd.alloc (verRow ⟨f9, m9, q9, ⟨A1, k1, l1⟩, ⟨A2, k2, l2⟩, ⟨A3, k3, l3⟩, ⟨A4, k4, l4⟩, ⟨A5, k5, l5⟩⟩)) (Kp.alloc R w8 (verRow ⟨f9, m9, q9, ⟨A1, k1, l1⟩, ⟨A2, k2, l2⟩, ⟨A3, k3, l3⟩, ⟨A4, k4, l4⟩, ⟨A5, k5, l5⟩⟩))
                 have rX9 := (hg9.block X hIA.s (fun e => by have := hI8.rows.1.lt X e.symm; omega)).trans hIA.row
                 have x9 : w9.cell? ⟨X, 2, none⟩ = some (.slice A Cs.length c) := (sta_cells rX9).2.2
                 have z9 := frozen_of_row w9 X 2 _ _ rX9)
              )
          all_goals
            have hIP := hIA.put (C := ⟨f9, m9, q9, ⟨A1, k1, l1⟩, ⟨A2, k2, l2⟩, ⟨A3, k3, l3⟩, ⟨A4, k4, l4⟩, ⟨A5, k5, l5⟩⟩) hRw hX (hVC8.kp (Kp.alloc R w8 (verRow ⟨f9, m9, q9, ⟨A1, k1, l1⟩, ⟨A2, k2, l2⟩, ⟨A3, k3, l3⟩, ⟨A4, k4, l4⟩, ⟨A5, k5, l5⟩⟩)) (by omega)) hl8 hown9 hg9
            have hle8 := hI8.rd.le
            go_wp2_with fail
            go_roundg (2 * (K.L.length - a8) + mb b8)
          all_goals first
            | (case rel => exact ⟨a8, b8, false, A9, c9, _, rfl, Nat.le_refl _, hIP⟩)
            | (case measure => cases b8 with
                | false => have := hp8 rfl; simp only [mb, cond] at hg ⊢; omega
                | true => simp only [mb, cond] at hg ⊢; omega)
      ·
        have hsX := hI.s
        have hL := hI.rd.len
        have x2 : wr.cell? ⟨X, 2, none⟩ = some (.slice A Cs.length c) := (sta_cells hI.row).2.2
        have hId : PI w R X K nm cu A c Cs a' false wr.drew := hI.kp hRw hX hI.len (hI.rd.to (Below.refl _ _).drew) (Kp.of (Below.refl _ _).drew)
        go_wp2_with fail
        go_region_law (first
            | (refine step_callee (by rfl) 25 Tryz.func25 (by rfl) (by rfl) [.tmp 48] _ (by rfl) [.pointer (some ⟨R, 0, none⟩)] (by rfl) (version_any hId.rd) ?_
               rintro e w8 ⟨⟨f9, m9, q9, ⟨A1, k1, l1⟩, ⟨A2, k2, l2⟩, ⟨A3, k3, l3⟩, ⟨A4, k4, l4⟩, ⟨A5, k5, l5⟩⟩, rfl, hVC, a8, b8, ha8, hp8, hR8, hk8⟩
               refine ⟨_, rfl, ?_⟩
               dsimp only [Vc.cells]
               have hl8 := ver_len hId.len ha8 hp8
               have hI8 := hId.kp hRw hX (by omega) hR8 hk8
               have hVC8 : VW w8 (X + 1) ⟨f9, m9, q9, ⟨A1, k1, l1⟩, ⟨A2, k2, l2⟩, ⟨A3, k3, l3⟩, ⟨A4, k4, l4⟩, ⟨A5, k5, l5⟩⟩ := hVC.base hsX
               have hs8 := hI8.s
               have x2' : w8.cell? ⟨X, 2, none⟩ = some (.slice A Cs.length c) := (sta_cells hI8.row).2.2
               have z2' := frozen_of_row w8 X 2 _ _ hI8.row)
            | (refine step_append_rd (by rfl) (.tmp 47) (.tmp 50) 41 (by rfl) (X + 1) 78 i0 _ 8 144 Tryz.underlying41 hi0 hz0 hz1 hz2 rfl (by omega) (.slice A Cs.length c) Cs.length (flat Vc.cells Cs) (by rfl) (hI8.rows.1.alloc _) (w8.heap.size + 1) (some ⟨w8.heap.size, 0, none⟩) 1 1 (Vc.cells ⟨f9, m9, q9, ⟨A1, k1, l1⟩, ⟨A2, k2, l2⟩, ⟨A3, k3, l3⟩, ⟨A4, k4, l4⟩, ⟨A5, k5, l5⟩⟩) (by rfl) (Rd.built (cs := (Vc.cells ⟨f9, m9, q9, ⟨A1, k1, l1⟩, ⟨A2, k2, l2⟩, ⟨A3, k3, l3⟩, ⟨A4, k4, l4⟩, ⟨A5, k5, l5⟩⟩).toArray) (heap_alloc_new w8 _) (by omega) rfl) (vc_one _) (by have := hI8.len; have := hI8.rd.le; have := hI8.rd.len; unfold maxLen; omega) (by have := hI8.len; have := hI8.rd.le; have := hI8.rd.len; omega) (by simp; omega) ?_
               intro v9 w9 hown9 hg9 hat9
               obtain ⟨A9, c9, rfl, _, _, _⟩ := own_form hown9
               have hIA := hI8.kp hRw hX hI8.len (hI8.rd.alloc (verRow ⟨f9, m9, q9, ⟨A1, k1, l1⟩, ⟨A2, k2, l2⟩, ⟨A3, k3, l3⟩, ⟨A4, k4, l4⟩, ⟨A5, k5, l5⟩⟩)) (Kp.alloc R w8 (verRow ⟨f9, m9, q9, ⟨A1, k1, l1⟩, ⟨A2, k2, l2⟩, ⟨A3, k3, l3⟩, ⟨A4, k4, l4⟩, ⟨A5, k5, l5⟩⟩))
               have rX9 := (hg9.block X hIA.s (fun e => by have := hI8.rows.1.lt X e.symm; omega)).trans hIA.row
               have x9 : w9.cell? ⟨X, 2, none⟩ = some (.slice A Cs.length c) := (sta_cells rX9).2.2
               have z9 := frozen_of_row w9 X 2 _ _ rX9)
            )
        all_goals
          have hIP := hIA.put (C := ⟨f9, m9, q9, ⟨A1, k1, l1⟩, ⟨A2, k2, l2⟩, ⟨A3, k3, l3⟩, ⟨A4, k4, l4⟩, ⟨A5, k5, l5⟩⟩) hRw hX (hVC8.kp (Kp.alloc R w8 (verRow ⟨f9, m9, q9, ⟨A1, k1, l1⟩, ⟨A2, k2, l2⟩, ⟨A3, k3, l3⟩, ⟨A4, k4, l4⟩, ⟨A5, k5, l5⟩⟩)) (by omega)) hl8 hown9 hg9
          have hle8 := hI8.rd.le
          go_wp2_with fail
          go_roundg (2 * (K.L.length - a8) + mb b8)
        all_goals first
          | (case rel => exact ⟨a8, b8, false, A9, c9, _, rfl, Nat.le_refl _, hIP⟩)
          | (case measure => cases b8 with
              | false => have := hp8 rfl; simp only [mb, cond] at hg ⊢; omega
              | true => simp only [mb, cond] at hg ⊢; omega)
    · clear hg
      have hle := hI.rd.le
      have hsX := hI.s
      have q0 : wr.cell? ⟨R, 0, none⟩ = some (.slice K.A K.L.length K.c) := by rw [cell_of_row _ _ _ _ _ _ hI.rd.row]; rfl
      have q1 : wr.cell? ⟨R, 1, none⟩ = some (.int .i64 ((a' : Nat) : Int)) := by rw [cell_of_row _ _ _ _ _ _ hI.rd.row]; rfl
      have q3 : wr.cell? ⟨R, 3, none⟩ = some (.bool true) := by rw [cell_of_row _ _ _ _ _ _ hI.rd.row]; rfl
      go_upto_region 13 with (fail)
      go_quiet (fail)
      obtain ⟨V, hV⟩ : ∃ V, V = wr.drewN nq := ⟨_, rfl⟩
      have hIV : PI w R X K nm cu A c Cs a' true V := by rw [hV]; exact hI.kp hRw hX hI.len (hI.rd.to (below_N _ _)) (Kp.of (below_N _ _))
      rw [← hV]
      clear hV q0 q1 q3
      go_wp2_with fail
      refine (place_any hIV.rd).mono ?_
      rintro e w9 ⟨r9, rfl, hb9⟩
      have hb9' := hIV.k.trans (hb9.mono hIV.k.size)
      have rE9 := (hb9.block w.heap.size (by have := hIV.k.size; have := hIV.s; omega)).trans hIV.e
      go_wp2_with (refine wpList_store_row (by rfl) 43 (.tmp 2) (.tmp 69) (by rfl) w.heap.size _ _ [.string ⟨#[]⟩, .int .i64 0, .slice none 0 0] (by rfl) (by rfl) rE9 (by rfl) (by kernel_rfl) (sta_one _ _ _ _ _) ?_; intro W' hw' hg' hs')
      obtain ⟨y0, y1, y2⟩ := sta_cells hw'
      exact bodyPost_ret (v := .tuple #[.agg #[.string ⟨#[]⟩, .int .i64 0, .slice none 0 0], .int .i64 r9, .int .i64 4]) (by simp [results, Tryz.f10, go_sem, y0, y1, y2]) rfl ⟨_, _, _, _, _, _, _, rfl, hb9'.grown hg' hb9'.size (fun g e => by injection e with e; omega)⟩
end Go.Proofs.YtghmmcdeejhcjaaGreat
