/- The reader's version, walked. -/
import Derived.Test.YtghmmcdeejhcjaaGreatPaU
import Derived.Test.YtghmmcdeejhcjaaGreatPbA
namespace Go.Proofs.YtghmmcdeejhcjaaGreat
open Go.RowKit

set_option maxHeartbeats 1000000 in
theorem want_p {R : Nat} {K : RC} {a : Nat} {b : Bool} {w : World} (h : Rdr w R K a b) (s : ByteArray) : Calls Tryz.prog 21 #[.pointer (some ⟨R, 0, none⟩), .string s] w fun e w' => e = .returned (.tuple #[]) ∧ ∃ (a' : Nat) (b' : Bool), a ≤ a' ∧ (b' = false → a < a') ∧ Rdr w' R K a' b' ∧ Kp R w w' := by
  go_enter Tryz.func21, Tryz.ntmps21
  go_wp2_with fail
  refine (take_any h s).mono ?_
  rintro e w1 ⟨v, rfl, hv, hk⟩
  rcases hv with ⟨rfl, rfl, h1⟩ | ⟨rfl, h1⟩
  · go_wp2_with fail
    go_end0
    exact ⟨rfl, a + 1, false, by omega, (fun _ => by omega), h1, hk⟩
  · go_wp2_with fail
    refine (stop_any h1).mono ?_
    rintro e w2 ⟨rfl, h2, hk2⟩
    go_wp2_with fail
    go_end0
    exact ⟨rfl, a, true, by omega, (fun h => by cases h), h2, hk.trans hk2⟩
def VC0 (f m u : Int) : Vc := ⟨f, m, u, ⟨none, 0, []⟩, ⟨none, 0, []⟩, ⟨none, 0, []⟩, ⟨none, 0, []⟩, ⟨none, 0, []⟩⟩
theorem vw0 (w : World) (base : Nat) (f m u : Int) : VW w base (VC0 f m u) :=
  ⟨⟨World.ownsRow_nil _ _ _ _, by simp [VC0]⟩, ⟨World.ownsRow_nil _ _ _ _, by simp [VC0]⟩, ⟨World.ownsRow_nil _ _ _ _, by simp [VC0]⟩, ⟨World.ownsRow_nil _ _ _ _, by simp [VC0]⟩, ⟨World.ownsRow_nil _ _ _ _, by simp [VC0]⟩⟩
theorem vl0 (f m u : Int) (a : Nat) : VL (VC0 f m u) a := ⟨Nat.zero_le _, Nat.zero_le _, Nat.zero_le _, Nat.zero_le _, Nat.zero_le _⟩
abbrev verRow (C : Vc) : Obj := .cells C.cells.toArray 78
/-- The reader, the result's block and the version's while nothing but numbers is in it. -/
structure VI (w : World) (R : Nat) (K : RC) (f m u : Int) (a : Nat) (b : Bool) (wx : World) : Prop where
  rd : Rdr wx R K a b
  e : wx.heap[w.heap.size]? = some (verRow (VC0 0 0 0))
  v : wx.heap[w.heap.size + 1]? = some (verRow (VC0 f m u))
  k : Kp R w wx
  s : w.heap.size + 2 ≤ wx.heap.size
theorem VI.kp {w wx wy : World} {R : Nat} {K : RC} {f m u : Int} {a a' : Nat} {b b' : Bool} (h : VI w R K f m u a b wx) (hRw : R < w.heap.size) (hR : Rdr wy R K a' b') (hk : Kp R wx wy) : VI w R K f m u a' b' wy := by
  have hs := h.s
  exact ⟨hR, (hk.block _ (by omega) (fun e => by injection e with e; omega)).trans h.e, (hk.block _ (by omega) (fun e => by injection e with e; omega)).trans h.v, h.k.trans hk, Nat.le_trans hs hk.size⟩
theorem VI.own {w wx wy : World} {R : Nat} {K : RC} {f m u f' m' u' : Int} {a : Nat} {b : Bool} (h : VI w R K f m u a b wx) (hRw : R < w.heap.size) (hk : wx.grownBy wy (some (w.heap.size + 1))) (hv : wy.heap[w.heap.size + 1]? = some (verRow (VC0 f' m' u'))) : VI w R K f' m' u' a b wy := by
  have hs := h.s
  exact ⟨h.rd.own hk (by omega), (hk.block _ (by omega) (fun e => by injection e with e; omega)).trans h.e, hv, h.k.own hk (Nat.le_succ _), Nat.le_trans hs hk.size⟩
theorem VI.set {w wx : World} {R : Nat} {K : RC} {f m u f' m' u' : Int} {a : Nat} {b : Bool} (h : VI w R K f m u a b wx) (hRw : R < w.heap.size) (j : Nat) (v : Value) (hj : (VC0 f m u).cells.toArray.setIfInBounds j v = (VC0 f' m' u').cells.toArray) : VI w R K f' m' u' a b (wx.setCell ⟨w.heap.size + 1, j, none⟩ v) := by
  refine h.own hRw (Kp.set wx j v) ?_
  have := heap_setCell_same wx (w.heap.size + 1) j _ _ v h.v
  rw [this]
  show some (Obj.cells _ _ (0, 0)) = _
  rw [hj]
theorem VI.vs {w wx : World} {R : Nat} {K : RC} {f m u : Int} {a : Nat} {b : Bool} (h : VI w R K f m u a b wx) : VS wx (w.heap.size + 2) (w.heap.size + 1) (VC0 f m u) := ⟨h.v, vw0 _ _ _ _ _⟩
theorem KB.refl (base R V : Nat) (w : World) : KB base R V w w := ⟨rfl, rfl, rfl, Nat.le_refl _, fun _ _ _ _ => rfl⟩
/-- Blocks below stand, but the reader's. -/
theorem KB.toKp {w wx wy : World} {R : Nat} (h : KB (w.heap.size + 2) R (w.heap.size + 1) wx wy) (hk : Kp R w wx) : Kp R w wy :=
  ⟨h.os.trans hk.os, h.tape.trans hk.tape, h.output.trans hk.output, Nat.le_trans hk.size h.size, fun i hi hne => (h.block i (by omega) (fun e => hne (by rw [e])) (by omega)).trans (hk.block i hi hne)⟩
theorem own_base {w : World} {base base' e sz n : Nat} {v : Value} {xs : List Value} (h : w.ownsRow base e sz v n xs) (hb : base' ≤ base) : w.ownsRow base' e sz v n xs := by
  refine ⟨h.1, ?_⟩
  rcases h.2 with h0 | ⟨g, cap, cur, hv, hg, r⟩
  · exact .inl h0
  · exact .inr ⟨g, cap, cur, hv, Nat.le_trans hb hg, r⟩
theorem VW.base {w : World} {base base' : Nat} {C : Vc} (h : VW w base C) (hb : base' ≤ base) : VW w base' C :=
  ⟨⟨own_base h.cr.1 hb, h.cr.2⟩, ⟨own_base h.ix.1 hb, h.ix.2⟩, ⟨own_base h.le.1 hb, fun y hy => ⟨(h.le.2 y hy).1, (h.le.2 y hy).2.imp fun _g hg _ => Nat.le_trans hb hg⟩⟩, ⟨own_base h.gr.1 hb, fun y hy => ⟨(h.gr.2 y hy).1.imp fun _g hg _ => Nat.le_trans hb hg, (h.gr.2 y hy).2.imp fun _g hg _ => Nat.le_trans hb hg⟩⟩, ⟨own_base h.re.1 hb, fun y hy => ExOk.imp (h.re.2 y hy) fun _g hg _ => Nat.le_trans hb hg⟩⟩
theorem vc_one (C : Vc) : ∀ v ∈ C.cells, v.oneCell' = true := by
  intro v hv
  simp only [Vc.cells, List.mem_cons, List.not_mem_nil, or_false] at hv
  rcases hv with rfl | rfl | rfl | rfl | rfl | rfl | rfl | rfl <;> rfl
theorem vc_row {w : World} {g : Nat} {f m q : Int} {A1 A2 A3 A4 A5 : Option Addr} {c1 c2 c3 c4 c5 : Nat} {l1 : List VCr} {l2 : List VIx} {l3 : List VLe} {l4 : List VGr} {l5 : List VRe} (h : w.heap[g]? = some (verRow ⟨f, m, q, ⟨A1, c1, l1⟩, ⟨A2, c2, l2⟩, ⟨A3, c3, l3⟩, ⟨A4, c4, l4⟩, ⟨A5, c5, l5⟩⟩)) :
    w.cell? ⟨g, 0, none⟩ = some (.int .i64 f) ∧ w.cell? ⟨g, 1, none⟩ = some (.int .i64 m) ∧ w.cell? ⟨g, 2, none⟩ = some (.int .i64 q) ∧ w.cell? ⟨g, 3, none⟩ = some (.slice A1 l1.length c1) ∧ w.cell? ⟨g, 4, none⟩ = some (.slice A2 l2.length c2) ∧ w.cell? ⟨g, 5, none⟩ = some (.slice A3 l3.length c3) ∧ w.cell? ⟨g, 6, none⟩ = some (.slice A4 l4.length c4) ∧ w.cell? ⟨g, 7, none⟩ = some (.slice A5 l5.length c5) := by
  refine ⟨?_, ?_, ?_, ?_, ?_, ?_, ?_, ?_⟩ <;> rw [cell_of_row _ _ _ _ _ _ h] <;> rfl
def mb (b : Bool) : Nat := cond b 0 1
/-- A version is returned, its rows in new blocks; the reader has moved or is bad. -/
def RetVer (R : Nat) (K : RC) (a : Nat) (w : World) (e : Ending) (w' : World) : Prop := ∃ C : Vc, e = .returned (.agg C.cells.toArray) ∧ VW w' w.heap.size C ∧ ∃ (a' : Nat) (b' : Bool), a ≤ a' ∧ (b' = false → a < a') ∧ Rdr w' R K a' b' ∧ Kp R w w'
set_option maxRecDepth 100000 in
set_option maxHeartbeats 16000000 in
theorem version_any {R : Nat} {K : RC} {a : Nat} {b : Bool} {w : World} (h : Rdr w R K a b) : Calls Tryz.prog 25 #[.pointer (some ⟨R, 0, none⟩)] w (RetVer R K a w) := by
  have hRw := h.lt
  go_enter Tryz.func25, Tryz.ntmps25
  go_upto_region 2 with (fail)
  obtain ⟨W, hW⟩ : ∃ W, W = (w.alloc (.cells #[.int .i64 0, .int .i64 0, .int .i64 0, .slice none 0 0, .slice none 0 0, .slice none 0 0, .slice none 0 0, .slice none 0 0] 78)).alloc (.cells #[.int .i64 0, .int .i64 0, .int .i64 0, .slice none 0 0, .slice none 0 0, .slice none 0 0, .slice none 0 0, .slice none 0 0] 78) := ⟨_, rfl⟩
  have hI : VI w R K 0 0 0 a b W := by
    have hb : Below w.heap.size w W := by rw [hW]; exact ((Below.refl _ w).alloc (Nat.le_refl _) _).alloc (by simp) _
    refine ⟨h.to hb, ?_, ?_, Kp.of hb, by rw [hW]; simp⟩
    · rw [hW]; exact (Below.heap_alloc _ _ _ (by simp)).trans (heap_alloc_new w _)
    · rw [hW]; exact heap_alloc2_new w _ _
  rw [← hW]
  clear hW h
  go_wp2_with fail
  refine (want_p hI.rd _).mono ?_
  rintro e w1 ⟨rfl, a1, b1, ha1, hp1, hR1, hk1⟩
  have hI1 := hI.kp hRw hR1 hk1
  clear hI hR1 hk1
  obtain ⟨kv, hkv⟩ : ∃ v, kdB K a1 b1 3 = v := ⟨_, rfl⟩
  have HV := Lib.hid hkv
  clear hkv
  go_wp2_with fail
  refine (kind_fn hI1.rd HV.out).mono ?_
  rintro e w2 ⟨rfl, q1, rfl⟩
  obtain ⟨W, hW⟩ : ∃ W, W = w1.drewN q1 := ⟨_, rfl⟩
  have hI2 : VI w R K 0 0 0 a1 b1 W := by rw [hW]; exact hI1.kp hRw (hI1.rd.to (below_N _ _)) (Kp.of (below_N _ _))
  rw [← hW]
  clear hW hI1
  go_upto_if 7 with (fail)
  go_cut [] from 8 to 29 (fun wx => ∃ (a' : Nat) (b' : Bool) (f : Int), a ≤ a' ∧ (b' = false → a < a') ∧ VI w R K f 0 0 a' b' wx)
  case first =>
    cases kv
    · go_wp2_with fail
      refine (stop_any hI2.rd).mono ?_
      rintro e w3 ⟨rfl, hR3, hk3⟩
      go_wp2_with fail
      go_meet
      exact ⟨a1, true, 0, ha1, (fun h => by cases h), hI2.kp hRw hR3 hk3⟩
    · obtain ⟨rfl, x, hx, hx1⟩ := kdB_true HV.out
      have hR2 := hI2.rd
      have hal := (List.getElem?_eq_some_iff.1 hx).1
      have hok := hR2.ok x (List.mem_of_getElem? hx)
      have hxo := hok.1
      have hx1' := hok.2 hx1
      have hL := hR2.len
      have c0 : W.cell? ⟨R, 0, none⟩ = some (.slice K.A K.L.length K.c) := by rw [cell_of_row _ _ _ _ _ _ hR2.row]; rfl
      have c1 : W.cell? ⟨R, 1, none⟩ = some (.int .i64 (a1 : Int)) := by rw [cell_of_row _ _ _ _ _ _ hR2.row]; rfl
      obtain ⟨_, g, o, hA, hgR, hc⟩ := hR2.toks.elem tk_len hx (by omega)
      have e1 : W.cell? ⟨g, o + a1 * 3 + 1, none⟩ = some (.string x.t) := hc 1 _ rfl
      have hlo : (0 : Int) ≤ (a1 : Int) := by omega
      have hhi : (a1 : Int) < (K.L.length : Int) := by omega
      rw [hA] at c0
      clear hx hx1 hc hok
      have HA := Lib.hid hA
      clear hA
      have y0 : W.cell? ⟨w.heap.size + 1, 0, none⟩ = some (.int .i64 0) := by rw [cell_of_row _ _ _ _ _ _ hI2.v]; rfl
      have z0 := frozen_of_row W (w.heap.size + 1) 0 _ _ hI2.v
      have hId : VI w R K 0 0 0 a1 false W.drew := hI2.kp hRw (hR2.to (Below.refl _ _).drew) (Kp.of (Below.refl _ _).drew)
      have hn1 : R ≠ w.heap.size + 1 := by omega
      have hn2 : g ≠ w.heap.size + 1 := by omega
      have hn3 : w.heap.size + 1 ≠ R := by omega
      have hn4 : w.heap.size + 1 ≠ g := by omega
      go_upto_region 4 with (fail)
      go_cut [] from 8 to 20 (fun wx => ∃ f : Int, VI w R K f 0 0 a1 false wx)
      case first =>
       go_region_held3 (fun w' => w'.cell? ⟨R, 0, none⟩ = some (.slice (some ⟨g, o, none⟩) K.L.length K.c) ∧ w'.cell? ⟨R, 1, none⟩ = some (.int .i64 (a1 : Int)) ∧ w'.cell? ⟨g, o + a1 * 3 + 1, none⟩ = some (.string x.t)) (go_keep)
         (first
           | (go_at_call 40; ((with_reducible refine (dayof_any x.t hx1' hxo W.drew).mono ?_)); rintro e w2 ⟨⟨r, rfl⟩, rfl⟩
              have y1 : W.drew.cell? ⟨w.heap.size + 1, 0, none⟩ = some (.int .i64 0) := y0
              have z1 : W.drew.frozen? ⟨w.heap.size + 1, 0, none⟩ = false := z0))
       all_goals (go_wp2_with fail; go_meet)
       all_goals exact ⟨_, hId.set hRw 0 _ rfl⟩
      case rest =>
       obtain ⟨f, hI3⟩ := hcut
       clear c0 c1 e1 y0 z0 hI2 hId hR2
       have hR3 := hI3.rd
       have c1 : wc.cell? ⟨R, 1, none⟩ = some (.int .i64 (a1 : Int)) := by rw [cell_of_row _ _ _ _ _ _ hR3.row]; rfl
       have z1 := frozen_of_row wc R 1 _ _ hR3.row
       go_wp2_with fail
       go_meet
       exact ⟨a1 + 1, false, f, by omega, (fun _ => by omega), hI3.kp hRw (hR3.set 1 (.int .i64 ((a1 : Int) + 1)) (by simp) hal) (Kp.set wc 1 _)⟩
  case rest =>
   obtain ⟨a3, b3, f, ha3, hp3, hI3⟩ := hcut
   clear hI2 HV
   go_wp2_with fail
   refine (want_p hI3.rd _).mono ?_
   rintro e w4 ⟨rfl, a4, b4, ha4, hp4, hR4, hk4⟩
   have hI4 := hI3.kp hRw hR4 hk4
   clear hR4 hk4 hI3
   go_wp2_with fail
   refine (want_p hI4.rd _).mono ?_
   rintro e w5 ⟨rfl, a5, b5, ha5, hp5, hR5, hk5⟩
   have hI5 := hI4.kp hRw hR5 hk5
   clear hR5 hk5 hI4
   go_wp2_with fail
   refine (of_any hI5.rd (.inr (.inr rfl))).mono ?_
   rintro e w6 ⟨r6, rfl, -, -, a6, b6, ha6, hb6, hR6, hk6⟩
   have hJ6 := hI5.kp hRw hR6 hk6
   clear hR6 hk6 hI5
   have y1 : w6.cell? ⟨w.heap.size + 1, 1, none⟩ = some (.int .i64 0) := by rw [cell_of_row _ _ _ _ _ _ hJ6.v]; rfl
   have z1 := frozen_of_row w6 (w.heap.size + 1) 1 _ _ hJ6.v
   have hI6 := hJ6.set hRw 1 (.int .i64 r6) (m' := r6) (u' := 0) (f' := f) rfl
   go_upto_region 10 with (fail)
   obtain ⟨U6, hU6⟩ : ∃ U, U = w6.setCell ⟨w.heap.size + 1, 1, none⟩ (.int .i64 r6) := ⟨_, rfl⟩
   rw [← hU6] at hI6 ⊢
   clear hU6 y1 z1 hJ6
   go_wp2_with fail
   refine (rwhole_any hI6.rd 1 100000 (by omega) (by omega)).mono ?_
   rintro e w7 ⟨r7, rfl, -, -, a7, b7, ha7, hb7, hR7, hk7⟩
   have hJ7 := hI6.kp hRw hR7 hk7
   clear hR7 hk7 hI6
   have y2 : w7.cell? ⟨w.heap.size + 1, 2, none⟩ = some (.int .i64 0) := by rw [cell_of_row _ _ _ _ _ _ hJ7.v]; rfl
   have z2 := frozen_of_row w7 (w.heap.size + 1) 2 _ _ hJ7.v
   have hI7 := hJ7.set hRw 2 (.int .i64 r7) (m' := r6) (u' := r7) (f' := f) rfl
   go_upto_region 11 with (fail)
   obtain ⟨U7, hU7⟩ : ∃ U, U = w7.setCell ⟨w.heap.size + 1, 2, none⟩ (.int .i64 r7) := ⟨_, rfl⟩
   rw [← hU7] at hI7 ⊢
   clear hU7 y2 z2 hJ7
   go_wp2_with fail
   refine (want_p hI7.rd _).mono ?_
   rintro e w8 ⟨rfl, a8, b8, ha8, hp8, hR8, hk8⟩
   have hI8 := hI7.kp hRw hR8 hk8
   clear hR8 hk8 hI7
   have hp9 : b8 = false → a < a8 := fun h => by have := hp8 h; omega
   have ha9 : a ≤ a8 := by omega
   have hs8 := hI8.s
   go_wp2_with fail
   go_loopg [] (2 * K.L.length + 1) (fun g wr => ∃ (a' : Nat) (b' : Bool) (C : Vc), 2 * (K.L.length - a') + mb b' ≤ g ∧ a ≤ a' ∧ (b' = false → a < a') ∧ Rdr wr R K a' b' ∧ VS wr (w.heap.size + 2) (w.heap.size + 1) C ∧ VL C a' ∧ KB (w.heap.size + 2) R (w.heap.size + 1) w8 wr)
   case atStart => exact ⟨a8, b8, VC0 f r6 r7, by cases b8 <;> simp only [mb, cond] <;> omega, ha9, hp9, hI8.rd, hI8.vs, vl0 _ _ _ _, KB.refl _ _ _ _⟩
   case round =>
     obtain ⟨a', b', C, hg, haa, hpp, hR, hS, hl, hB⟩ := hrel
     have b3' : wr.cell? ⟨R, 3, none⟩ = some (.bool b') := by rw [cell_of_row _ _ _ _ _ _ hR.row]; rfl
     have hszr := hB.size
     cases b'
     · go_wp2_with fail
       refine (take_any hR _).mono ?_
       rintro e w9 ⟨v, rfl, hv, hk9⟩
       have hS9 := hS.kp hk9 (by omega) (by omega)
       have hB9 := hB.trans (KB.kp hk9 (by omega))
       have hz9 := hk9.size
       clear b3' hk9 hS hB hR
       rcases hv with ⟨rfl, -, hR9⟩ | ⟨rfl, hR9⟩
       ·
         obtain ⟨f9, m9, q9, ⟨A1, c1, l1⟩, ⟨A2, c2, l2⟩, ⟨A3, c3, l3⟩, ⟨A4, c4, l4⟩, ⟨A5, c5, l5⟩⟩ := C
         obtain ⟨p0, p1, p2, p3, p4, p5, p6, p7⟩ := vc_row hS9.row
         have rE := (hB9.block w.heap.size (by omega) (by omega) (by omega)).trans hI8.e
         have hkz := hB9.toKp hI8.k
         go_wp2_with (refine wpList_store_row (by rfl) 78 (.tmp 2) (.tmp 56) (by rfl) w.heap.size _ _ (Vc.cells ⟨f9, m9, q9, ⟨A1, c1, l1⟩, ⟨A2, c2, l2⟩, ⟨A3, c3, l3⟩, ⟨A4, c4, l4⟩, ⟨A5, c5, l5⟩⟩) (by rfl) (by rfl) rE (by rfl) (by kernel_rfl) (vc_one _) ?_; intro W' hw' hg' hs')
         obtain ⟨y0, y1, y2, y3, y4, y5, y6, y7⟩ := vc_row hw'
         exact bodyPost_ret (v := .agg (Vc.cells ⟨f9, m9, q9, ⟨A1, c1, l1⟩, ⟨A2, c2, l2⟩, ⟨A3, c3, l3⟩, ⟨A4, c4, l4⟩, ⟨A5, c5, l5⟩⟩).toArray) (by simp [results, Tryz.f25, go_sem, y0, y1, y2, y3, y4, y5, y6, y7, Vc.cells]) rfl ⟨_, rfl, (hS9.rows.kp hg' (by omega)).base (by omega), a' + 1, false, by omega, (fun _ => by omega), hR9.own hg' hRw, hkz.own hg' (Nat.le_refl _)⟩
       · go_wp2_with fail
         refine (clause_any hR9 hS9 hl (by omega) (by omega) (by omega)).mono ?_
         rintro e w10 ⟨rfl, a10, b10, C10, ha10, hp10, hR10, hS10, hl10, hB10⟩
         have hle10 := hR10.le
         go_wp2_with fail
         go_roundg (2 * (K.L.length - a10) + mb b10)
         case measure => cases b10 with
           | false => have := hp10 rfl; simp only [mb, cond] at hg ⊢; omega
           | true => simp only [mb, cond] at hg ⊢; omega
         case rel => exact ⟨a10, b10, C10, Nat.le_refl _, by omega, (fun h => by have := hp10 h; omega), hR10, hS10, hl10, hB9.trans hB10⟩
     · clear hg
       obtain ⟨f9, m9, q9, ⟨A1, c1, l1⟩, ⟨A2, c2, l2⟩, ⟨A3, c3, l3⟩, ⟨A4, c4, l4⟩, ⟨A5, c5, l5⟩⟩ := C
       obtain ⟨p0, p1, p2, p3, p4, p5, p6, p7⟩ := vc_row hS.row
       have rE := (hB.block w.heap.size (by omega) (by omega) (by omega)).trans hI8.e
       have hkz := hB.toKp hI8.k
       go_wp2_with (refine wpList_store_row (by rfl) 78 (.tmp 2) (.tmp 56) (by rfl) w.heap.size _ _ (Vc.cells ⟨f9, m9, q9, ⟨A1, c1, l1⟩, ⟨A2, c2, l2⟩, ⟨A3, c3, l3⟩, ⟨A4, c4, l4⟩, ⟨A5, c5, l5⟩⟩) (by rfl) (by rfl) rE (by rfl) (by kernel_rfl) (vc_one _) ?_; intro W' hw' hg' hs')
       obtain ⟨y0, y1, y2, y3, y4, y5, y6, y7⟩ := vc_row hw'
       exact bodyPost_ret (v := .agg (Vc.cells ⟨f9, m9, q9, ⟨A1, c1, l1⟩, ⟨A2, c2, l2⟩, ⟨A3, c3, l3⟩, ⟨A4, c4, l4⟩, ⟨A5, c5, l5⟩⟩).toArray) (by simp [results, Tryz.f25, go_sem, y0, y1, y2, y3, y4, y5, y6, y7, Vc.cells]) rfl ⟨_, rfl, (hS.rows.kp hg' (by omega)).base (by omega), a', true, by omega, (fun h => by cases h), hR.own hg' hRw, hkz.own hg' (Nat.le_refl _)⟩
end Go.Proofs.YtghmmcdeejhcjaaGreat
