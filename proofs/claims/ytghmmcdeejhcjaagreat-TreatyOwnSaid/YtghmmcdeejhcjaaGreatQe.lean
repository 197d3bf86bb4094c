/- A version being read: its parts in memory. The reader's clause. -/
import Derived.Test.YtghmmcdeejhcjaaGreatQd
namespace Go.Proofs.YtghmmcdeejhcjaaGreat
open Go.RowKit

/-- A slice's place, capacity and elements. -/
structure Ls (α : Type) where
  A : Option Addr
  c : Nat
  l : List α
structure VCr where
  k : Int
  m : Int
def VCr.cells (x : VCr) : List Value := [.int .i64 x.k, .int .i64 x.m]
structure VIx where
  y : Int
  n : Int
  d : Int
def VIx.cells (x : VIx) : List Value := [.int .i64 x.y, .int .i64 x.n, .int .i64 x.d]
structure VLe where
  s : ByteArray
  x : Ex
def VLe.cells (x : VLe) : List Value := .string x.s :: x.x.cells
structure VGr where
  b : Int
  x : Ex
  y : Ex
def VGr.cells (x : VGr) : List Value := .int .i64 x.b :: (x.x.cells ++ x.y.cells)
structure VRe where
  b : Int
  x : Ex
def VRe.cells (x : VRe) : List Value := .int .i64 x.b :: x.x.cells
theorem vcr_len (x : VCr) : x.cells.length = 2 := rfl
theorem vix_len (x : VIx) : x.cells.length = 3 := rfl
theorem vle_len (x : VLe) : x.cells.length = 7 := by simp [VLe.cells, ex_len]
theorem vgr_len (x : VGr) : x.cells.length = 13 := by simp [VGr.cells, ex_len]
theorem vre_len (x : VRe) : x.cells.length = 7 := by simp [VRe.cells, ex_len]
theorem vcr_one (x : VCr) : ∀ u ∈ x.cells, u.oneCell' = true := by
  intro u hu
  simp only [VCr.cells, List.mem_cons, List.not_mem_nil, or_false] at hu
  rcases hu with rfl | rfl <;> rfl
theorem vix_one (x : VIx) : ∀ u ∈ x.cells, u.oneCell' = true := by
  intro u hu
  simp only [VIx.cells, List.mem_cons, List.not_mem_nil, or_false] at hu
  rcases hu with rfl | rfl | rfl <;> rfl
theorem vle_one (x : VLe) : ∀ u ∈ x.cells, u.oneCell' = true := by
  intro u hu
  rcases List.mem_cons.1 hu with rfl | hu
  · rfl
  · exact ex_one _ u hu
theorem vgr_one (x : VGr) : ∀ u ∈ x.cells, u.oneCell' = true := by
  intro u hu
  rcases List.mem_cons.1 hu with rfl | hu
  · rfl
  · rcases List.mem_append.1 hu with hu | hu
    · exact ex_one _ u hu
    · exact ex_one _ u hu
theorem vre_one (x : VRe) : ∀ u ∈ x.cells, u.oneCell' = true := by
  intro u hu
  rcases List.mem_cons.1 hu with rfl | hu
  · rfl
  · exact ex_one _ u hu
structure Vc where
  f : Int
  m : Int
  u : Int
  cr : Ls VCr
  ix : Ls VIx
  le : Ls VLe
  gr : Ls VGr
  re : Ls VRe
def Vc.cells (C : Vc) : List Value := [.int .i64 C.f, .int .i64 C.m, .int .i64 C.u, .slice C.cr.A C.cr.l.length C.cr.c, .slice C.ix.A C.ix.l.length C.ix.c, .slice C.le.A C.le.l.length C.le.c, .slice C.gr.A C.gr.l.length C.gr.c, .slice C.re.A C.re.l.length C.re.c]
/-- A row of one's own with good elements. -/
def Rw {α : Type} (w : World) (base : Nat) (ty : TypeId) (sz : Nat) (enc : α → List Value) (G : World → α → Prop) (x : Ls α) : Prop :=
  w.ownsRow base ty sz (.slice x.A x.l.length x.c) x.l.length (flat enc x.l) ∧ ∀ y ∈ x.l, G w y
/-- Blocks from base on but of a type stand. -/
def Tf (T : TypeId) (base : Nat) (w w' : World) : Prop := ∀ g cs t fr, base ≤ g → w.heap[g]? = some (.cells cs t fr) → t ≠ T → w'.heap[g]? = w.heap[g]?
theorem Tf.kp {T : TypeId} {base R : Nat} {w w' : World} (h : Kp R w w') (hR : R < base) : Tf T base w w' :=
  fun g _ _ _ hb hg _ => h.block g (Array.getElem?_eq_some_iff.1 hg).1 (fun e => by injection e with e; omega)
theorem Tf.own {T : TypeId} {base sz n : Nat} {w w' : World} {v : Value} {xs : List Value} (h : w.ownsRow base T sz v n xs) (hg : w.grownBy w' v.ownBlock) : Tf T base w w' :=
  fun g _ _ _ _ hgg ht => hg.block g (Array.getElem?_eq_some_iff.1 hgg).1 (fun e => own_ne h hgg (fun e => ht e.symm) e.symm)
theorem Tf.trans {T : TypeId} {base : Nat} {a b c : World} (h : Tf T base a b) (k : Tf T base b c) : Tf T base a c :=
  fun g cs t fr hb hg ht => (k g cs t fr hb ((h g cs t fr hb hg ht).trans hg) ht).trans (h g cs t fr hb hg ht)
theorem ExOk.tf {T : TypeId} {base : Nat} {w w' : World} {x : Ex} (h : ExOk (fun g => base ≤ g) w x) (hf : Tf T base w w') (hT : 120 ≠ T) : ExOk (fun g => base ≤ g) w' x := by
  induction h with
  | leaf hb => exact .leaf hb
  | node hb hl hp hr ha ih => exact .node hb hl hp ((hf _ _ _ _ hp hr hT).trans hr) ih
theorem Rw.tf {α : Type} {T : TypeId} {base : Nat} {w w' : World} {ty : TypeId} {sz : Nat} {enc : α → List Value} {G : World → α → Prop} {x : Ls α} (h : Rw w base ty sz enc G x) (hf : Tf T base w w') (hT : ty ≠ T) (hG : ∀ y, G w y → G w' y) : Rw w' base ty sz enc G x := by
  refine ⟨⟨h.1.1, ?_⟩, fun y hy => hG y (h.2 y hy)⟩
  rcases h.1.2 with h2 | ⟨g, cap, cur, hv, hg, hr, r⟩
  · exact .inl h2
  · exact .inr ⟨g, cap, cur, hv, hg, (hf g _ _ _ hg hr hT).trans hr, r⟩
def GIx (_ : World) (x : VIx) : Prop := FrOk x.n x.d
def GLe (base : Nat) (w : World) (x : VLe) : Prop := x.s.size ≤ 100000 ∧ ExOk (fun g => base ≤ g) w x.x
def GGr (base : Nat) (w : World) (x : VGr) : Prop := ExOk (fun g => base ≤ g) w x.x ∧ ExOk (fun g => base ≤ g) w x.y
def GRe (base : Nat) (w : World) (x : VRe) : Prop := ExOk (fun g => base ≤ g) w x.x
/-- The rows of a version. -/
structure VW (w : World) (base : Nat) (C : Vc) : Prop where
  cr : Rw w base 115 2 VCr.cells (fun _ _ => True) C.cr
  ix : Rw w base 117 3 VIx.cells GIx C.ix
  le : Rw w base 122 7 VLe.cells (GLe base) C.le
  gr : Rw w base 125 13 VGr.cells (GGr base) C.gr
  re : Rw w base 127 7 VRe.cells (GRe base) C.re
theorem VW.tf {T : TypeId} {base : Nat} {w w' : World} {C : Vc} (h : VW w base C) (hf : Tf T base w w') (h1 : 115 ≠ T) (h2 : 117 ≠ T) (h3 : 122 ≠ T) (h4 : 125 ≠ T) (h5 : 127 ≠ T) (h6 : 120 ≠ T) : VW w' base C :=
  ⟨h.cr.tf hf h1 (fun _ h => h), h.ix.tf hf h2 (fun _ h => h), h.le.tf hf h3 (fun _ h => ⟨h.1, h.2.tf hf h6⟩), h.gr.tf hf h4 (fun _ h => ⟨h.1.tf hf h6, h.2.tf hf h6⟩), h.re.tf hf h5 (fun _ h => ExOk.tf h hf h6)⟩
theorem VW.kp {base R : Nat} {w w' : World} {C : Vc} (h : VW w base C) (hk : Kp R w w') (hR : R < base) : VW w' base C :=
  h.tf (T := 0) (Tf.kp hk hR) (by decide) (by decide) (by decide) (by decide) (by decide) (by decide)
/-- A version in memory. -/
structure VS (w : World) (base V : Nat) (C : Vc) : Prop where
  row : w.heap[V]? = some (.cells C.cells.toArray 78 (0, 0))
  rows : VW w base C
theorem VS.kp {base R V : Nat} {w w' : World} {C : Vc} (h : VS w base V C) (hk : Kp R w w') (hR : R < V) (hV : V < base) : VS w' base V C :=
  ⟨(hk.block V (Array.getElem?_eq_some_iff.1 h.row).1 (fun e => by injection e with e; omega)).trans h.row, h.rows.kp hk (by omega)⟩
/-- Blocks below base but the reader's and the version's stand. -/
structure KB (base R V : Nat) (w w' : World) : Prop where
  os : w'.os = w.os
  tape : w'.tape = w.tape
  output : w'.output = w.output
  size : w.heap.size ≤ w'.heap.size
  block : ∀ i, i < base → i ≠ R → i ≠ V → w'.heap[i]? = w.heap[i]?
theorem KB.trans {base R V : Nat} {a b c : World} (h : KB base R V a b) (k : KB base R V b c) : KB base R V a c :=
  ⟨k.os.trans h.os, k.tape.trans h.tape, k.output.trans h.output, Nat.le_trans h.size k.size, fun i h1 h2 h3 => (k.block i h1 h2 h3).trans (h.block i h1 h2 h3)⟩
theorem KB.kp {base R V : Nat} {w w' : World} (h : Kp R w w') (hb : base ≤ w.heap.size) : KB base R V w w' :=
  ⟨h.os, h.tape, h.output, h.size, fun i h1 h2 _ => h.block i (by omega) (fun e => by injection e with e; omega)⟩
theorem Rdr.bel {B R : Nat} {K : RC} {a : Nat} {b : Bool} {w w' : World} (h : Rdr w R K a b) (hb : Below B w w') (hR : R < B) : Rdr w' R K a b :=
  ⟨(hb.block R hR).trans h.row, h.toks.below (hb.mono (by omega)), h.le, h.ok, h.len⟩
/-- An element appended to a row, the slice stored into the version. -/
theorem app_frame {base R V T sz n j : Nat} {K : RC} {a : Nat} {b : Bool} {w w' : World} {v u : Value} {xs : List Value} (hR : Rdr w R K a b) (hRV : R < V) (hV : V < base) (hb : base ≤ w.heap.size) (ho : w.ownsRow base T sz v n xs) (hg : w.grownBy w' v.ownBlock) :
    Rdr (w'.setCell ⟨V, j, none⟩ u) R K a b ∧ KB base R V w (w'.setCell ⟨V, j, none⟩ u) ∧ Tf T base w (w'.setCell ⟨V, j, none⟩ u) := by
  have h1 : Below base w w' := (Below.refl base w).grown hg hb (fun g e => (ho.lt g e).1)
  have h0 : Below V w w' := h1.mono (Nat.le_of_lt hV)
  have h2 : Below V w (w'.setCell ⟨V, j, none⟩ u) := h0.setCell (p := ⟨V, j, none⟩) (Nat.le_refl _) u
  refine ⟨hR.bel h2 hRV, ⟨h2.os, h2.tape, h2.output, h2.size, fun i hi _ hiV => ?_⟩, (Tf.own ho hg).trans (Tf.kp (R := V) (Kp.set _ j u) hV)⟩
  exact (heap_setCell_other w' ⟨V, j, none⟩ i u (fun e => hiV e)).trans (h1.block i hi)
/-- Cells stored into the middle of a block. -/
def setL (cur : Array Value) : Nat → List Value → Array Value
  | _, [] => cur
  | o, v :: r => setL (cur.setIfInBounds o v) (o + 1) r
theorem setCells_mid (g : Nat) : ∀ (vs : List Value) (o : Nat) (w : World) (cur : Array Value) (t : TypeId), w.heap[g]? = some (.cells cur t (0, 0)) →
    (w.setCells g o vs).heap[g]? = some (.cells (setL cur o vs) t (0, 0)) ∧ w.grownBy (w.setCells g o vs) (some g) ∧ (w.setCells g o vs).heap.size = w.heap.size
  | [], _, w, _, _, hg => ⟨hg, Kp.refl g w, rfl⟩
  | v :: r, o, w, cur, t, hg => by
    obtain ⟨h1, h2, h3⟩ := setCells_mid g r (o + 1) (w.setCell ⟨g, o, none⟩ v) _ t (heap_setCell_same w g o cur t v hg)
    exact ⟨h1, (Kp.set w o v).trans h2, h3.trans (by simp [World.setCell])⟩
theorem wpList_store_sub {P : Program} {ops : Array Oper} {rest : List Oper} {op : Oper} {a : Act} {w : World} {Q : Exit → Act → World → Prop} (hgd : op.guard = none) (ty : TypeId) (x y : Operand) (ho : op.op = .store ty x y)
    (g o : Nat) (cur : Array Value) (t : TypeId) (vs : List Value) (hx : a.eval x = .pointer (some ⟨g, o, none⟩)) (hy : a.eval y = .agg vs.toArray) (hg : w.heap[g]? = some (.cells cur t (0, 0)))
    (hl : o + vs.length ≤ cur.size) (hi : (P.info? ty).map (·.size) = some vs.length) (h1 : ∀ v ∈ vs, v.oneCell' = true)
    (h : ∀ W' : World, W'.heap[g]? = some (.cells (setL cur o vs) t (0, 0)) → w.grownBy W' (some g) → W'.heap.size = w.heap.size → wpList P ops Q rest (a.put op.dst undef) W') : wpList P ops Q (op :: rest) a w := by
  refine wpList_store_mid hgd ty x y ho g o vs.toArray hx hy ?_ (by simpa using hi) (all_oneCell_toArray h1) ?_
  · intro j hj
    have hj' : o + j < cur.size := by simp at hj; omega
    refine ⟨?_, frozen_of_row w g (o + j) _ _ hg⟩
    rw [cell_of_row w g (o + j) _ _ _ hg]
    simp [hj']
  · obtain ⟨e1, e2, e3⟩ := setCells_mid g vs o w cur t hg
    have e : w.setCells g o vs.toArray.toList = w.setCells g o vs := by simp
    rw [e]
    exact h _ e1 e2 e3

theorem info_vcr : (Tryz.prog.info? 115).map (fun i => (i.zero, i.size, i.bytes)) = some (some (.agg #[.int .i64 0, .int .i64 0]), 2, 16) := by kernel_rfl
theorem info_vix : (Tryz.prog.info? 117).map (fun i => (i.zero, i.size, i.bytes)) = some (some (.agg #[.int .i64 0, .int .i64 0, .int .i64 0]), 3, 24) := by kernel_rfl
theorem info_vle : (Tryz.prog.info? 122).map (fun i => (i.zero, i.size, i.bytes)) = some (some (.agg #[.string ⟨#[]⟩, .int .i64 0, .int .i64 0, .int .i64 0, .int .i64 0, .string ⟨#[]⟩, .slice none 0 0]), 7, 88) := by kernel_rfl
theorem info_vgr : (Tryz.prog.info? 125).map (fun i => (i.zero, i.size, i.bytes)) = some (some (.agg #[.int .i64 0, .int .i64 0, .int .i64 0, .int .i64 0, .int .i64 0, .string ⟨#[]⟩, .slice none 0 0, .int .i64 0, .int .i64 0, .int .i64 0, .int .i64 0, .string ⟨#[]⟩, .slice none 0 0]), 13, 152) := by kernel_rfl
theorem info_vre : (Tryz.prog.info? 127).map (fun i => (i.zero, i.size, i.bytes)) = some (some (.agg #[.int .i64 0, .int .i64 0, .int .i64 0, .int .i64 0, .int .i64 0, .string ⟨#[]⟩, .slice none 0 0]), 7, 80) := by kernel_rfl
/-- No row of a version is longer than the tokens that were read. -/
structure VL (C : Vc) (a : Nat) : Prop where
  cr : C.cr.l.length ≤ a
  ix : C.ix.l.length ≤ a
  le : C.le.l.length ≤ a
  gr : C.gr.l.length ≤ a
  re : C.re.l.length ≤ a
theorem VL.mono {C : Vc} {a b : Nat} (h : VL C a) (hb : a ≤ b) : VL C b := ⟨Nat.le_trans h.cr hb, Nat.le_trans h.ix hb, Nat.le_trans h.le hb, Nat.le_trans h.gr hb, Nat.le_trans h.re hb⟩
/-- A clause was read into a version. -/
def RetC (R base V : Nat) (K : RC) (a : Nat) (w : World) (e : Ending) (w' : World) : Prop := e = .returned (.tuple #[]) ∧ ∃ (a' : Nat) (b' : Bool) (C : Vc), a ≤ a' ∧ (b' = false → a < a') ∧ Rdr w' R K a' b' ∧ VS w' base V C ∧ VL C a' ∧ KB base R V w w'
/-- A block that no row of a version lies in. -/
structure NX (C : Vc) (X : Nat) : Prop where
  cr : (Value.slice C.cr.A C.cr.l.length C.cr.c).ownBlock ≠ some X
  ix : (Value.slice C.ix.A C.ix.l.length C.ix.c).ownBlock ≠ some X
  le : (Value.slice C.le.A C.le.l.length C.le.c).ownBlock ≠ some X
  gr : (Value.slice C.gr.A C.gr.l.length C.gr.c).ownBlock ≠ some X
  re : (Value.slice C.re.A C.re.l.length C.re.c).ownBlock ≠ some X
theorem own_fresh {w : World} {base e sz n : Nat} {v : Value} {xs : List Value} (h : w.ownsRow base e sz v n xs) {X : Nat} (hX : w.heap.size ≤ X) : v.ownBlock ≠ some X := fun e => by
  have := (h.lt X e).2
  omega
theorem VW.nx {w : World} {base : Nat} {C : Vc} (h : VW w base C) {X : Nat} (hX : w.heap.size ≤ X) : NX C X := ⟨own_fresh h.cr.1 hX, own_fresh h.ix.1 hX, own_fresh h.le.1 hX, own_fresh h.gr.1 hX, own_fresh h.re.1 hX⟩
theorem ExOk.ne {P : Nat → Prop} {w w' : World} {X : Nat} {cs : Array Value} {ty : TypeId} {x : Ex} (h : ExOk P w x) (hX : w.heap[X]? = some (.cells cs ty (0, 0))) (hty : ty ≠ 120) (hk : w.grownBy w' (some X)) : ExOk P w' x := by
  induction h with
  | leaf hb => exact .leaf hb
  | node hb hl hp hr ha ih =>
    refine .node hb hl hp ((hk.block _ (Array.getElem?_eq_some_iff.1 hr).1 (fun e => ?_)).trans hr) ih
    injection e with e
    rw [e, hX] at hr
    injection hr with hr
    injection hr with _ hr
    exact hty hr
theorem Rw.ne {α : Type} {base : Nat} {w w' : World} {ty : TypeId} {sz : Nat} {enc : α → List Value} {G : World → α → Prop} {x : Ls α} {X : Nat} (h : Rw w base ty sz enc G x) (hx : (Value.slice x.A x.l.length x.c).ownBlock ≠ some X) (hk : w.grownBy w' (some X)) (hG : ∀ y, G w y → G w' y) : Rw w' base ty sz enc G x :=
  ⟨h.1.kept hk (.inr hx), fun y hy => hG y (h.2 y hy)⟩
theorem VW.ne {base : Nat} {w w' : World} {C : Vc} {X : Nat} {cs : Array Value} {ty : TypeId} (h : VW w base C) (hn : NX C X) (hX : w.heap[X]? = some (.cells cs ty (0, 0))) (hty : ty ≠ 120) (hk : w.grownBy w' (some X)) : VW w' base C :=
  ⟨h.cr.ne hn.cr hk (fun _ h => h), h.ix.ne hn.ix hk (fun _ h => h), h.le.ne hn.le hk (fun _ h => ⟨h.1, h.2.ne hX hty hk⟩), h.gr.ne hn.gr hk (fun _ h => ⟨h.1.ne hX hty hk, h.2.ne hX hty hk⟩), h.re.ne hn.re hk (fun _ h => ExOk.ne h hX hty hk)⟩
/-- What is known while a clause is read: an element in a block of its own. -/
structure CQ (w : World) (base R V : Nat) (C : Vc) (X : Nat) (cs : Array Value) (ty : TypeId) (wx : World) : Prop where
  vs : VS wx base V C
  kb : KB base R V w wx
  le : base ≤ X
  row : wx.heap[X]? = some (.cells cs ty (0, 0))
  nx : NX C X
theorem CQ.new {w wx : World} {base R V : Nat} {C : Vc} (hS : VS wx base V C) (hB : KB base R V w wx) (hbw : base ≤ w.heap.size) (hRV : R < V) (hV : V < base) (cs : Array Value) (ty : TypeId) : CQ w base R V C wx.heap.size cs ty (wx.alloc (.cells cs ty)) :=
  ⟨hS.kp (Kp.alloc R wx _) hRV hV, hB.trans (KB.kp (Kp.alloc R wx _) (Nat.le_trans hbw hB.size)), Nat.le_trans hbw hB.size, heap_alloc_new wx _, hS.rows.nx (Nat.le_refl _)⟩
theorem CQ.kp {w wx wy : World} {base R V X : Nat} {C : Vc} {cs : Array Value} {ty : TypeId} (h : CQ w base R V C X cs ty wx) (hbw : base ≤ w.heap.size) (hRV : R < V) (hV : V < base) (hk : Kp R wx wy) : CQ w base R V C X cs ty wy :=
  ⟨h.vs.kp hk hRV hV, h.kb.trans (KB.kp hk (Nat.le_trans hbw h.kb.size)), h.le, (hk.block X (Array.getElem?_eq_some_iff.1 h.row).1 (fun e => by injection e with e; have := h.le; omega)).trans h.row, h.nx⟩
theorem CQ.own {w wx wy : World} {base R V X : Nat} {C : Vc} {cs cs' : Array Value} {ty : TypeId} (h : CQ w base R V C X cs ty wx) (hty : ty ≠ 120) (hbw : base ≤ w.heap.size) (hV : V < base) (hk : wx.grownBy wy (some X)) (hr : wy.heap[X]? = some (.cells cs' ty (0, 0))) : CQ w base R V C X cs' ty wy :=
  ⟨⟨(hk.block V (Array.getElem?_eq_some_iff.1 h.vs.row).1 (fun e => by injection e with e; have := h.le; omega)).trans h.vs.row, h.vs.rows.ne h.nx h.row hty hk⟩,
   h.kb.trans ⟨hk.os, hk.tape, hk.output, hk.size, fun i hi _ _ => hk.block i (by have := h.kb.size; omega) (fun e => by injection e with e; have := h.le; omega)⟩, h.le, hr, h.nx⟩
theorem CQ.set {w wx : World} {base R V X : Nat} {C : Vc} {cs : Array Value} {ty : TypeId} (h : CQ w base R V C X cs ty wx) (hty : ty ≠ 120) (hbw : base ≤ w.heap.size) (hV : V < base) (j : Nat) (v : Value) : CQ w base R V C X (cs.setIfInBounds j v) ty (wx.setCell ⟨X, j, none⟩ v) :=
  h.own hty hbw hV (Kp.set wx j v) (heap_setCell_same wx X j _ _ v h.row)
theorem CQ.rdr {w wx wy : World} {base R V X : Nat} {C : Vc} {cs : Array Value} {ty : TypeId} {K : RC} {a : Nat} {b : Bool} (h : CQ w base R V C X cs ty wx) (hRV : R < V) (hV : V < base) (hR : Rdr wx R K a b) (hk : wx.grownBy wy (some X)) : Rdr wy R K a b :=
  hR.own hk (by have := h.le; omega)
theorem vs_row {w : World} {base V : Nat} {C : Vc} (h : VS w base V C) : w.cell? ⟨V, 3, none⟩ = some (.slice C.cr.A C.cr.l.length C.cr.c) ∧ w.cell? ⟨V, 4, none⟩ = some (.slice C.ix.A C.ix.l.length C.ix.c) ∧ w.cell? ⟨V, 5, none⟩ = some (.slice C.le.A C.le.l.length C.le.c) ∧ w.cell? ⟨V, 6, none⟩ = some (.slice C.gr.A C.gr.l.length C.gr.c) ∧ w.cell? ⟨V, 7, none⟩ = some (.slice C.re.A C.re.l.length C.re.c) := by
  refine ⟨?_, ?_, ?_, ?_, ?_⟩ <;> rw [cell_of_row _ _ _ _ _ _ h.row] <;> rfl
theorem put_vcr {w w' : World} {base R V : Nat} {C : Vc} {x : VCr} {A : Option Addr} {c n : Nat} {K : RC} {a : Nat} {b : Bool} (hS : VS w base V C) (hR : Rdr w R K a b) (hRV : R < V) (hV : V < base) (hb : base ≤ w.heap.size) (hn : n = C.cr.l.length + 1)
    (ho : w'.ownsRow base 115 2 (.slice A n c) n (flat VCr.cells C.cr.l ++ VCr.cells x)) (hg : w.grownBy w' (Value.slice C.cr.A C.cr.l.length C.cr.c).ownBlock) (hx : (fun _ _ => True) w x) (hl : VL C a) (ha : C.cr.l.length + 1 ≤ a) :
    ∃ C' : Vc, VS (w'.setCell ⟨V, 3, none⟩ (.slice A n c)) base V C' ∧ VL C' a ∧ Rdr (w'.setCell ⟨V, 3, none⟩ (.slice A n c)) R K a b ∧ KB base R V w (w'.setCell ⟨V, 3, none⟩ (.slice A n c)) := by
  subst hn
  obtain ⟨h1, h2, h3⟩ := app_frame (j := 3) (u := .slice A (C.cr.l.length + 1) c) hR hRV hV hb hS.rows.cr.1 hg
  have hVg : w'.heap[V]? = w.heap[V]? := hg.block V (by omega) (fun e => by have := hS.rows.cr.1.lt V e.symm; omega)
  have hrow := heap_setCell_same w' V 3 _ _ (.slice A (C.cr.l.length + 1) c) (hVg.trans hS.row)
  have ho' := ownsRow_setCell_ne ho (p := ⟨V, 3, none⟩) (fun e => by have := ho.lt V e; omega) (.slice A (C.cr.l.length + 1) c)
  refine ⟨{ C with cr := ⟨A, c, C.cr.l ++ [x]⟩ }, ⟨?_, ⟨⟨by rw [List.length_append, flat_append, flat_one]; exact ho', fun y hy => by
      rcases List.mem_append.1 hy with hy | hy
      · have hy := hS.rows.cr.2 y hy
        exact trivial
      · obtain rfl : y = x := by simpa using hy
        have hy := hx
        exact trivial⟩, hS.rows.ix.tf h3 (by decide) (fun _ hy => hy), hS.rows.le.tf h3 (by decide) (fun _ hy => ⟨hy.1, hy.2.tf h3 (by decide)⟩), hS.rows.gr.tf h3 (by decide) (fun _ hy => ⟨hy.1.tf h3 (by decide), hy.2.tf h3 (by decide)⟩), hS.rows.re.tf h3 (by decide) (fun _ hy => ExOk.tf hy h3 (by decide))⟩⟩, ⟨by show (C.cr.l ++ [x]).length ≤ a; rw [List.length_append]; exact ha, hl.ix, hl.le, hl.gr, hl.re⟩, h1, h2⟩
  rw [hrow]
  simp [Vc.cells]
theorem put_vix {w w' : World} {base R V : Nat} {C : Vc} {x : VIx} {A : Option Addr} {c n : Nat} {K : RC} {a : Nat} {b : Bool} (hS : VS w base V C) (hR : Rdr w R K a b) (hRV : R < V) (hV : V < base) (hb : base ≤ w.heap.size) (hn : n = C.ix.l.length + 1)
    (ho : w'.ownsRow base 117 3 (.slice A n c) n (flat VIx.cells C.ix.l ++ VIx.cells x)) (hg : w.grownBy w' (Value.slice C.ix.A C.ix.l.length C.ix.c).ownBlock) (hx : GIx w x) (hl : VL C a) (ha : C.ix.l.length + 1 ≤ a) :
    ∃ C' : Vc, VS (w'.setCell ⟨V, 4, none⟩ (.slice A n c)) base V C' ∧ VL C' a ∧ Rdr (w'.setCell ⟨V, 4, none⟩ (.slice A n c)) R K a b ∧ KB base R V w (w'.setCell ⟨V, 4, none⟩ (.slice A n c)) := by
  subst hn
  obtain ⟨h1, h2, h3⟩ := app_frame (j := 4) (u := .slice A (C.ix.l.length + 1) c) hR hRV hV hb hS.rows.ix.1 hg
  have hVg : w'.heap[V]? = w.heap[V]? := hg.block V (by omega) (fun e => by have := hS.rows.ix.1.lt V e.symm; omega)
  have hrow := heap_setCell_same w' V 4 _ _ (.slice A (C.ix.l.length + 1) c) (hVg.trans hS.row)
  have ho' := ownsRow_setCell_ne ho (p := ⟨V, 4, none⟩) (fun e => by have := ho.lt V e; omega) (.slice A (C.ix.l.length + 1) c)
  refine ⟨{ C with ix := ⟨A, c, C.ix.l ++ [x]⟩ }, ⟨?_, ⟨hS.rows.cr.tf h3 (by decide) (fun _ hy => trivial), ⟨by rw [List.length_append, flat_append, flat_one]; exact ho', fun y hy => by
      rcases List.mem_append.1 hy with hy | hy
      · have hy := hS.rows.ix.2 y hy
        exact hy
      · obtain rfl : y = x := by simpa using hy
        have hy := hx
        exact hy⟩, hS.rows.le.tf h3 (by decide) (fun _ hy => ⟨hy.1, hy.2.tf h3 (by decide)⟩), hS.rows.gr.tf h3 (by decide) (fun _ hy => ⟨hy.1.tf h3 (by decide), hy.2.tf h3 (by decide)⟩), hS.rows.re.tf h3 (by decide) (fun _ hy => ExOk.tf hy h3 (by decide))⟩⟩, ⟨hl.cr, by show (C.ix.l ++ [x]).length ≤ a; rw [List.length_append]; exact ha, hl.le, hl.gr, hl.re⟩, h1, h2⟩
  rw [hrow]
  simp [Vc.cells]
theorem put_vle {w w' : World} {base R V : Nat} {C : Vc} {x : VLe} {A : Option Addr} {c n : Nat} {K : RC} {a : Nat} {b : Bool} (hS : VS w base V C) (hR : Rdr w R K a b) (hRV : R < V) (hV : V < base) (hb : base ≤ w.heap.size) (hn : n = C.le.l.length + 1)
    (ho : w'.ownsRow base 122 7 (.slice A n c) n (flat VLe.cells C.le.l ++ VLe.cells x)) (hg : w.grownBy w' (Value.slice C.le.A C.le.l.length C.le.c).ownBlock) (hx : (GLe base) w x) (hl : VL C a) (ha : C.le.l.length + 1 ≤ a) :
    ∃ C' : Vc, VS (w'.setCell ⟨V, 5, none⟩ (.slice A n c)) base V C' ∧ VL C' a ∧ Rdr (w'.setCell ⟨V, 5, none⟩ (.slice A n c)) R K a b ∧ KB base R V w (w'.setCell ⟨V, 5, none⟩ (.slice A n c)) := by
  subst hn
  obtain ⟨h1, h2, h3⟩ := app_frame (j := 5) (u := .slice A (C.le.l.length + 1) c) hR hRV hV hb hS.rows.le.1 hg
  have hVg : w'.heap[V]? = w.heap[V]? := hg.block V (by omega) (fun e => by have := hS.rows.le.1.lt V e.symm; omega)
  have hrow := heap_setCell_same w' V 5 _ _ (.slice A (C.le.l.length + 1) c) (hVg.trans hS.row)
  have ho' := ownsRow_setCell_ne ho (p := ⟨V, 5, none⟩) (fun e => by have := ho.lt V e; omega) (.slice A (C.le.l.length + 1) c)
  refine ⟨{ C with le := ⟨A, c, C.le.l ++ [x]⟩ }, ⟨?_, ⟨hS.rows.cr.tf h3 (by decide) (fun _ hy => trivial), hS.rows.ix.tf h3 (by decide) (fun _ hy => hy), ⟨by rw [List.length_append, flat_append, flat_one]; exact ho', fun y hy => by
      rcases List.mem_append.1 hy with hy | hy
      · have hy := hS.rows.le.2 y hy
        exact ⟨hy.1, hy.2.tf h3 (by decide)⟩
      · obtain rfl : y = x := by simpa using hy
        have hy := hx
        exact ⟨hy.1, hy.2.tf h3 (by decide)⟩⟩, hS.rows.gr.tf h3 (by decide) (fun _ hy => ⟨hy.1.tf h3 (by decide), hy.2.tf h3 (by decide)⟩), hS.rows.re.tf h3 (by decide) (fun _ hy => ExOk.tf hy h3 (by decide))⟩⟩, ⟨hl.cr, hl.ix, by show (C.le.l ++ [x]).length ≤ a; rw [List.length_append]; exact ha, hl.gr, hl.re⟩, h1, h2⟩
  rw [hrow]
  simp [Vc.cells]
theorem put_vgr {w w' : World} {base R V : Nat} {C : Vc} {x : VGr} {A : Option Addr} {c n : Nat} {K : RC} {a : Nat} {b : Bool} (hS : VS w base V C) (hR : Rdr w R K a b) (hRV : R < V) (hV : V < base) (hb : base ≤ w.heap.size) (hn : n = C.gr.l.length + 1)
    (ho : w'.ownsRow base 125 13 (.slice A n c) n (flat VGr.cells C.gr.l ++ VGr.cells x)) (hg : w.grownBy w' (Value.slice C.gr.A C.gr.l.length C.gr.c).ownBlock) (hx : (GGr base) w x) (hl : VL C a) (ha : C.gr.l.length + 1 ≤ a) :
    ∃ C' : Vc, VS (w'.setCell ⟨V, 6, none⟩ (.slice A n c)) base V C' ∧ VL C' a ∧ Rdr (w'.setCell ⟨V, 6, none⟩ (.slice A n c)) R K a b ∧ KB base R V w (w'.setCell ⟨V, 6, none⟩ (.slice A n c)) := by
  subst hn
  obtain ⟨h1, h2, h3⟩ := app_frame (j := 6) (u := .slice A (C.gr.l.length + 1) c) hR hRV hV hb hS.rows.gr.1 hg
  have hVg : w'.heap[V]? = w.heap[V]? := hg.block V (by omega) (fun e => by have := hS.rows.gr.1.lt V e.symm; omega)
  have hrow := heap_setCell_same w' V 6 _ _ (.slice A (C.gr.l.length + 1) c) (hVg.trans hS.row)
  have ho' := ownsRow_setCell_ne ho (p := ⟨V, 6, none⟩) (fun e => by have := ho.lt V e; omega) (.slice A (C.gr.l.length + 1) c)
  refine ⟨{ C with gr := ⟨A, c, C.gr.l ++ [x]⟩ }, ⟨?_, ⟨hS.rows.cr.tf h3 (by decide) (fun _ hy => trivial), hS.rows.ix.tf h3 (by decide) (fun _ hy => hy), hS.rows.le.tf h3 (by decide) (fun _ hy => ⟨hy.1, hy.2.tf h3 (by decide)⟩), ⟨by rw [List.length_append, flat_append, flat_one]; exact ho', fun y hy => by
      rcases List.mem_append.1 hy with hy | hy
      · have hy := hS.rows.gr.2 y hy
        exact ⟨hy.1.tf h3 (by decide), hy.2.tf h3 (by decide)⟩
      · obtain rfl : y = x := by simpa using hy
        have hy := hx
        exact ⟨hy.1.tf h3 (by decide), hy.2.tf h3 (by decide)⟩⟩, hS.rows.re.tf h3 (by decide) (fun _ hy => ExOk.tf hy h3 (by decide))⟩⟩, ⟨hl.cr, hl.ix, hl.le, by show (C.gr.l ++ [x]).length ≤ a; rw [List.length_append]; exact ha, hl.re⟩, h1, h2⟩
  rw [hrow]
  simp [Vc.cells]
theorem put_vre {w w' : World} {base R V : Nat} {C : Vc} {x : VRe} {A : Option Addr} {c n : Nat} {K : RC} {a : Nat} {b : Bool} (hS : VS w base V C) (hR : Rdr w R K a b) (hRV : R < V) (hV : V < base) (hb : base ≤ w.heap.size) (hn : n = C.re.l.length + 1)
    (ho : w'.ownsRow base 127 7 (.slice A n c) n (flat VRe.cells C.re.l ++ VRe.cells x)) (hg : w.grownBy w' (Value.slice C.re.A C.re.l.length C.re.c).ownBlock) (hx : (GRe base) w x) (hl : VL C a) (ha : C.re.l.length + 1 ≤ a) :
    ∃ C' : Vc, VS (w'.setCell ⟨V, 7, none⟩ (.slice A n c)) base V C' ∧ VL C' a ∧ Rdr (w'.setCell ⟨V, 7, none⟩ (.slice A n c)) R K a b ∧ KB base R V w (w'.setCell ⟨V, 7, none⟩ (.slice A n c)) := by
  subst hn
  obtain ⟨h1, h2, h3⟩ := app_frame (j := 7) (u := .slice A (C.re.l.length + 1) c) hR hRV hV hb hS.rows.re.1 hg
  have hVg : w'.heap[V]? = w.heap[V]? := hg.block V (by omega) (fun e => by have := hS.rows.re.1.lt V e.symm; omega)
  have hrow := heap_setCell_same w' V 7 _ _ (.slice A (C.re.l.length + 1) c) (hVg.trans hS.row)
  have ho' := ownsRow_setCell_ne ho (p := ⟨V, 7, none⟩) (fun e => by have := ho.lt V e; omega) (.slice A (C.re.l.length + 1) c)
  refine ⟨{ C with re := ⟨A, c, C.re.l ++ [x]⟩ }, ⟨?_, ⟨hS.rows.cr.tf h3 (by decide) (fun _ hy => trivial), hS.rows.ix.tf h3 (by decide) (fun _ hy => hy), hS.rows.le.tf h3 (by decide) (fun _ hy => ⟨hy.1, hy.2.tf h3 (by decide)⟩), hS.rows.gr.tf h3 (by decide) (fun _ hy => ⟨hy.1.tf h3 (by decide), hy.2.tf h3 (by decide)⟩), ⟨by rw [List.length_append, flat_append, flat_one]; exact ho', fun y hy => by
      rcases List.mem_append.1 hy with hy | hy
      · have hy := hS.rows.re.2 y hy
        exact ExOk.tf hy h3 (by decide)
      · obtain rfl : y = x := by simpa using hy
        have hy := hx
        exact ExOk.tf hy h3 (by decide)⟩⟩⟩, ⟨hl.cr, hl.ix, hl.le, hl.gr, by show (C.re.l ++ [x]).length ≤ a; rw [List.length_append]; exact ha⟩, h1, h2⟩
  rw [hrow]
  simp [Vc.cells]
end Go.Proofs.YtghmmcdeejhcjaaGreat
