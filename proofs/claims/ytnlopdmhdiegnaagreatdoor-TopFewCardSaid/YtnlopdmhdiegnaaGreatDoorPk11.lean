/- Lemmas (no conditions): Tkh, Pra, Prb -/
import Derived.Test.YtnlopdmhdiegnaaGreatDoorPk09
set_option linter.unusedSimpArgs false
set_option linter.unusedVariables false
set_option maxRecDepth 100000
set_option maxHeartbeats 64000000
namespace Go.Proofs.YtnlopdmhdiegnaaGreatDoor
open Go.RowKit
section
def headI (r : By) : Int := match r with | [] => -1 | c :: _ => (c.toNat : Int)
inductive Pce (r : By) : By -> Int -> Prop where
 | word {c : UInt8} {u : By} (h0 : letV c.toNat = true) (h1 : ∀ x ∈ u, inwV (x.toNat : Int) = true) (h2 : u.length < 12) (h3 : inwV (headI r) = false) : Pce r (c :: u) 1
 | num {k : Nat} {dim : Int} (hk : k < 1000000000) (hd : dim = 2 ∨ dim = 3 ∨ dim = 4) (h3 : numB (headI r) = false) : Pce r (dgl k ++ sufB dim.toNat) 2
 | date : Pce r (64 :: day0) 3
 | sign {j : Nat} {t : By} (hj : j = 1 ∨ j = 12 ∨ j = 13 ∨ j = 15) (ht : t = sgB.getD j []) : Pce r t 4
inductive LxL : By -> List (Int × By) -> Prop where
 | nil {b : By} (h : ∀ c ∈ b, c = 32) : LxL b []
 | cons {b t r : By} {kd : Int} {ts : List (Int × By)} (h : ∀ c ∈ b, c = 32) (hp : Pce r t kd) (hr : LxL r ts) : LxL (b ++ (t ++ r)) ((kd, t) :: ts)
theorem atB_bs (l : By) (i : Nat) (h : i < l.length) : atB (bs l) i = (l[i].toNat : Int) := by
 rw [atB_lt (by rw [bs_size]; exact h), bs_get]
theorem atB_off (x y : By) (i : Nat) : atB (bs (x ++ y)) (x.length + i) = atB (bs y) i := by
 by_cases h : i < y.length
 ·rw [atB_bs _ _ (by rw [List.length_append]; omega), atB_bs y i h]
  simp
 ·rw [atB_ge (by rw [bs_size, List.length_append]; omega), atB_ge (by rw [bs_size]; exact h)]
theorem atB_fst (x y : By) (i : Nat) (h : i < x.length) : atB (bs (x ++ y)) i = (x[i].toNat : Int) := by
 rw [atB_bs _ _ (by rw [List.length_append]; omega)]
 simp [List.getElem_append_left h]
theorem atB_head (y : By) : atB (bs y) 0 = headI y := by
 cases y with
 | nil => exact atB_ge (by rw [bs_size]; simp)
 | cons c r => rw [atB_bs _ _ (by simp)]; rfl
theorem ext_mid (x t r : By) : (bs (x ++ (t ++ r))).extract x.length (x.length + t.length) = bs t := by
 rw [bs_ext]
 congr 1
 rw [<- List.append_assoc, List.take_left' (by simp)]
 simp
theorem ext_tail (x y : By) : (bs (x ++ y)).extract x.length (bs (x ++ y)).size = bs y := by
 rw [bs_ext, bs_size, List.take_length]
 simp
theorem dgl_inw (n : Nat) : ∀ c ∈ dgl n, inwV (c.toNat : Int) = true := by
 intro c hc
 have := dgl_dig n c hc
 have h : digV (c.toNat : Int) = true := by simp only [digV, Bool.and_eq_true, decide_eq_true_eq]; omega
 simp [inwV, h]
theorem suf_inw (dim : Int) : ∀ c ∈ sufB dim.toNat, inwV (c.toNat : Int) = true := by
 intro c hc
 unfold sufB at hc
 split at hc
 ·obtain rfl := List.mem_singleton.1 hc; decide
 ·split at hc
  ·obtain rfl := List.mem_singleton.1 hc; decide
  ·cases hc
theorem inw_not {c : Int} (h : inwV c = true) : c ≠ 32 /\ c ≠ 9 /\ c ≠ 10 /\ c ≠ 13 /\ c ≠ 35 := by
 refine ⟨?_, ?_, ?_, ?_, ?_⟩ <;> (intro e; subst e; revert h; decide)
theorem ext_of {x t r : By} {kd : Int} (hp : Pce r t kd) (hs : (x ++ (t ++ r)).length <= 8000) : Ext (bs (x ++ (t ++ r))) x.length (x.length + t.length) kd := by
 have hz : (bs (x ++ (t ++ r))).size = x.length + t.length + r.length := by rw [bs_size]; simp; omega
 have hs2 : (bs (x ++ (t ++ r))).size <= 100000 := by rw [bs_size]; omega
 have hend : atB (bs (x ++ (t ++ r))) (x.length + t.length) = headI r := by
  rw [atB_off, show t.length = t.length + 0 from rfl, atB_off, atB_head]
 have hget : ∀ i, (h : i < t.length) -> atB (bs (x ++ (t ++ r))) (x.length + i) = (t[i].toNat : Int) := fun i h => by rw [atB_off, atB_fst _ _ _ h]
 have hex := ext_mid x t r
 cases hp with
 | word h0 h1 h2 h3 =>
  rename_i c u
  have hb : ∀ i, x.length <= i -> i < x.length + (c :: u).length -> inwV (atB (bs (x ++ ((c :: u) ++ r))) i) = true := by
   intro i hi1 hi2
   obtain ⟨j, rfl⟩ : ∃ j, i = x.length + j := ⟨i - x.length, by omega⟩
   rw [hget j (by omega)]
   have hm : (c :: u)[j] ∈ c :: u := List.getElem_mem _
   rcases List.mem_cons.1 hm with e | hm
   ·rw [e]; simp [inwV, h0]
   ·exact h1 _ hm
  have hfirst : atB (bs (x ++ ((c :: u) ++ r))) x.length = (c.toNat : Int) := hget 0 (by simp)
  refine ⟨by simp, by rw [hz]; omega, inw_not (hb _ (Nat.le_refl _) (by simp)), by decide, fun w _ => ?_⟩
  refine (extent_word _ x.length (c :: u).length (by simp) (by simp; omega) (by rw [hz]; omega) hs2 (by rw [hfirst]; exact h0) hb (by rw [hend]; exact h3) w).mono ?_
  rintro e w1 ⟨h, rfl⟩
  exact ⟨h, Below.refl _ _⟩
 | num hk hd h3 =>
  rename_i k dim
  have hp1 := dgl_pos k
  have hb : ∀ i, x.length <= i -> i < x.length + (dgl k ++ sufB dim.toNat).length -> inwV (atB (bs (x ++ ((dgl k ++ sufB dim.toNat) ++ r))) i) = true := by
   intro i hi1 hi2
   obtain ⟨j, rfl⟩ : ∃ j, i = x.length + j := ⟨i - x.length, by omega⟩
   rw [hget j (by omega)]
   rcases List.mem_append.1 (List.getElem_mem (show j < (dgl k ++ sufB dim.toNat).length by omega)) with hm | hm
   ·exact dgl_inw k _ hm
   ·exact suf_inw dim _ hm
  have hlt : 0 < (dgl k ++ sufB dim.toNat).length := by rw [List.length_append]; omega
  have hfirst : digV (atB (bs (x ++ ((dgl k ++ sufB dim.toNat) ++ r))) x.length) = true := by
   have h := hget 0 hlt
   rw [Nat.add_zero] at h
   rw [h, List.getElem_append_left (by omega)]
   have := dgl_dig k _ (List.getElem_mem (show 0 < (dgl k).length by omega))
   simp only [digV, Bool.and_eq_true, decide_eq_true_eq]
   omega
  refine ⟨by omega, by rw [hz]; omega, inw_not (hb _ (Nat.le_refl _) (by omega)), by decide, fun w hw => ?_⟩
  exact extent_number _ x.length _ k dim hd hk (by omega) (by rw [hz]; omega) hs2 hex hfirst hb (by rw [hend]; exact h3) w hw
 | date =>
  have hfirst : atB (bs (x ++ ((64 :: day0) ++ r))) x.length = 64 := hget 0 (by simp)
  have he2 : (bs (x ++ ((64 :: day0) ++ r))).extract (x.length + 1) (x.length + 11) = bs day0 := by
   have h := ext_mid (x ++ [64]) day0 r
   simp only [List.append_assoc, List.length_append, List.length_cons, List.length_nil, List.cons_append, List.nil_append] at h ⊢
   exact h
  refine ⟨by simp, by rw [hz]; omega, by rw [hfirst]; decide, by decide, fun w _ => ?_⟩
  exact extent_date _ x.length (by rw [hz]; simp [day0]) hs2 hfirst he2 w
 | sign hj ht =>
  rename_i j
  have htl : (bs (x ++ (t ++ r))).extract x.length (bs (x ++ (t ++ r))).size = bs (t ++ r) := ext_tail x (t ++ r)
  have hn : (sgS j).size = t.length := by rw [ht]; exact bs_size _
  have key : ∀ i, i <= j -> Lib.hasPrefix (t ++ r) (sgB.getD i []) = decide (i = j) := by
   intro i hi
   subst ht
   rcases hj with rfl | rfl | rfl | rfl
   all_goals
    unfold Lib.hasPrefix
    rcases i with _ | _ | _ | _ | _ | _ | _ | _ | _ | _ | _ | _ | _ | _ | _ | _ | i
    all_goals first
     | (exfalso; omega)
     | (simp [sgB, List.isPrefixOf]; done)
     | (simp [sgB, List.isPrefixOf]; decide)
  have h1 : 1 <= t.length /\ t.length <= 2 /\ letV (headI (t ++ r)) = false /\ digV (headI (t ++ r)) = false /\ (headI (t ++ r) == 64) = false /\ (headI (t ++ r) ≠ 32 /\ headI (t ++ r) ≠ 9 /\ headI (t ++ r) ≠ 10 /\ headI (t ++ r) ≠ 13 /\ headI (t ++ r) ≠ 35) := by
   subst ht
   rcases hj with rfl | rfl | rfl | rfl <;> (refine ⟨by decide, by decide, ?_⟩; simp only [sgB, List.getD_cons_succ, List.getD_cons_zero, List.cons_append, headI]; decide)
  obtain ⟨l1, l2, g1, g2, g3, g4⟩ := h1
  have hfirst : atB (bs (x ++ (t ++ r))) x.length = headI (t ++ r) := by
   have h := atB_off x (t ++ r) 0
   rw [Nat.add_zero] at h
   rw [h, atB_head]
  have hj16 : j < 16 := by rcases hj with rfl | rfl | rfl | rfl <;> decide
  refine ⟨by omega, by rw [hz]; omega, by rw [hfirst]; exact g4, by decide, fun w _ => ?_⟩
  refine (extent_sign _ x.length j t.length hj16 hn l2 (by rw [hz]; omega) hs2 (by rw [hfirst]; exact g1) (by rw [hfirst]; exact g2) (by rw [hfirst]; exact g3) ?_ ?_ w).mono ?_
  ·intro i hi
   rw [htl]
   have h := key i (by omega)
   rw [decide_eq_false (by omega)] at h
   exact h
  ·rw [htl]
   have h := key j (Nat.le_refl _)
   rw [decide_eq_true rfl] at h
   exact h
  ·rintro e w1 ⟨h, rfl⟩
   exact ⟨h, Below.refl _ _⟩
def Toks (L : List Tk) (ts : List (Int × By)) : Prop := L.map (fun x => (x.k, x.t)) = ts.map fun y => (y.1, bs y.2)
theorem lx_of {q : By} {ts : List (Int × By)} (h : LxL q ts) : ∀ (p : By), (p ++ q).length <= 8000 -> ∃ L, Lx (bs (p ++ q)) p.length L /\ Toks L ts := by
 induction h with
 | nil h =>
  rename_i b
  intro p hp
  refine ⟨[], .nil (by rw [bs_size, List.length_append]; omega) ?_, rfl⟩
  intro i h1 h2
  rw [bs_size, List.length_append] at h2
  obtain ⟨j, rfl⟩ : ∃ j, i = p.length + j := ⟨i - p.length, by omega⟩
  rw [atB_off, atB_bs b j (by omega), h _ (List.getElem_mem _)]
  rfl
 | cons h hp hr ih =>
  rename_i b t r kd ts
  intro p hl
  have e : p ++ (b ++ (t ++ r)) = (p ++ b) ++ (t ++ r) := by simp
  have e2 : p ++ (b ++ (t ++ r)) = (p ++ b ++ t) ++ r := by simp
  have hl2 : ((p ++ b ++ t) ++ r).length <= 8000 := by rw [<- e2]; exact hl
  obtain ⟨L, hL, hT⟩ := ih (p ++ b ++ t) hl2
  have hx := ext_of (x := p ++ b) hp (by rw [<- e]; exact hl)
  have hmid := ext_mid (p ++ b) t r
  refine ⟨tkOf (bs (p ++ (b ++ (t ++ r)))) (p ++ b).length ((p ++ b).length + t.length) kd :: L, .cons (by rw [List.length_append]; omega) ?_ (by rw [e]; exact hx) ?_, ?_⟩
  ·intro i h1 h2
   rw [List.length_append] at h2
   obtain ⟨j, rfl⟩ : ∃ j, i = p.length + j := ⟨i - p.length, by omega⟩
   have hj : j < b.length := by omega
   rw [atB_off, atB_fst b _ j hj, h _ (List.getElem_mem hj)]
   rfl
  ·rw [e2]
   rw [List.length_append] at hL
   exact hL
  ·show (_, _) :: _ = (_, _) :: _
   congr 1
   show (kd, (bs (p ++ (b ++ (t ++ r)))).extract _ _) = _
   rw [e, hmid]
theorem all_text {q : By} {ts : List (Int × By)} (h : LxL q ts) (hq : q.length <= 8000) (w : World) (hw : Ml w) :
  Calls Tryz.prog 42 #[.string (bs q)] w fun e w' => ∃ (A : Option Addr) (c : Nat) (L : List Tk), Toks L ts /\ e = .returned (.tuple #[.slice A L.length c, .int .i64 0, .int .i64 0]) /\ w'.ownsRow w.heap.size 124 3 (.slice A L.length c) L.length (flat Tk.cells L) /\ Below w.heap.size w w' := by
 obtain ⟨L, hL, hT⟩ := lx_of h [] hq
 refine (all_ok (bs q) (by rw [bs_size]; exact hq) L hL w hw).mono ?_
 rintro e w1 ⟨A, c, h1, h2, h3⟩
 exact ⟨A, c, L, hT, h1, h2, h3⟩
end
section
theorem tk_len (x : Tk) : x.cells.length = 3 := rfl
structure Prs (w : World) (R : Nat) (L : List Tk) : Prop where
 ex : ∃ (B : Option Addr) (c : Nat) (z p : Int), L.length <= c /\ c <= 9223372036854775807 /\ w.heap[R]? = some (.cells #[.slice B L.length c, .int .i64 z, .bool false, .int .i64 p] 122 (0, 0)) /\ Rd w R 3 B L.length (flat Tk.cells L)
 len : L.length <= 8000
 ml : Ml w
 r3 : 3 <= R
abbrev Kp (R : Nat) (w w' : World) : Prop := w.grownBy w' (some R)
theorem Kp.refl (R : Nat) (w : World) : Kp R w w := ⟨rfl, rfl, rfl, Nat.le_refl _, fun _ _ _ => rfl⟩
theorem Kp.trans {R : Nat} {a b c : World} (h : Kp R a b) (k : Kp R b c) : Kp R a c := grownBy_trans h k
theorem Kp.of {R : Nat} {w w' : World} (h : Below w.heap.size w w') : Kp R w w' := grownBy_of_below h _
theorem Kp.set {R : Nat} (w : World) (j : Nat) (v : Value) : Kp R w (w.setCell ⟨R, j, none⟩ v) :=
 ⟨rfl, rfl, rfl, by simp [World.setCell], fun k _ hk => Below.heap_setCell _ _ _ _ (fun e => hk (by rw [e]))⟩
theorem Prs.lt {w : World} {R : Nat} {L : List Tk} (h : Prs w R L) : R < w.heap.size := by
 obtain ⟨_, _, _, _, _, _, hr, _⟩ := h.ex
 exact (gis hr).1
theorem Prs.to {w w' : World} {R : Nat} {L : List Tk} (h : Prs w R L) (hb : Below w.heap.size w w') : Prs w' R L := by
 obtain ⟨B, c, z, p, h1, h2, h3, h4⟩ := h.ex
 exact ⟨⟨B, c, z, p, h1, h2, (hb.block R h.lt).trans h3, h4.below (hb.mono (Nat.le_of_lt h.lt))⟩, h.len, h.ml.kp hb, h.r3⟩
theorem Prs.put {w : World} {R : Nat} {L K : List Tk} (h : Prs w R L) {B B' : Option Addr} {n c c' : Nat} {z p : Int} (hr : w.heap[R]? = some (.cells #[.slice B n c, .int .i64 z, .bool false, .int .i64 p] 122 (0, 0)))
  (hd : Rd w R 3 B' K.length (flat Tk.cells K)) (hc : K.length <= c') (hc2 : c' <= 9223372036854775807) (hK : K.length <= L.length) : Prs (w.setCell ⟨R, 0, none⟩ (.slice B' K.length c')) R K :=
 ⟨⟨B', c', z, p, hc, hc2, heap_setCell_same w R 0 _ _ _ hr, hd.below ((Below.refl R w).setCell (Nat.le_refl R) _)⟩, Nat.le_trans hK h.len, h.ml.below ((Below.refl 3 w).setCell (p := ⟨R, 0, none⟩) h.r3 _) (Nat.le_refl 3), h.r3⟩
theorem peek_ok {R : Nat} {x : Tk} {L : List Tk} {w : World} (h : Prs w R (x :: L)) : Calls Tryz.prog 44 #[.pointer (some ⟨R, 0, none⟩)] w fun e w' => e = .returned x.agg /\ Below w.heap.size w w' := by
 obtain ⟨B, c, z, p, h1, h2, h3, h4⟩ := h.ex
 obtain ⟨_, g, o, hA, hgR, hc⟩ := h4.elem tk_len (k := 0) (x := x) rfl (by simp)
 have hlt := h.lt
 have hl8 := h.len
 obtain ⟨n, hn⟩ : ∃ n, (x :: L).length = n := ⟨_, rfl⟩
 have hn1 : 0 < n := by rw [<- hn]; simp
 rw [hn] at h1 h3 hl8
 have c0 : w.cell? ⟨R, 0, none⟩ = some (.slice B n c) := by rw [cell_of_row _ _ _ _ _ _ h3]; rfl
 have c2 : w.cell? ⟨R, 2, none⟩ = some (.bool false) := by rw [cell_of_row _ _ _ _ _ _ h3]; rfl
 have e0 : w.cell? ⟨g, o, none⟩ = some (.int .i64 x.k) := by simpa using hc 0 _ rfl
 have e1 : w.cell? ⟨g, o + 1, none⟩ = some (.string x.t) := by simpa using hc 1 _ rfl
 have e2 : w.cell? ⟨g, o + 2, none⟩ = some (.int .i64 x.a) := by simpa using hc 2 _ rfl
 have d0 : ((n : Int) == 0) = false := beq_eq_false_iff_ne.2 (by omega)
 rw [hA] at c0
 have hbel := (Below.refl w.heap.size w).alloc (Nat.le_refl _) (.cells #[.int .i64 0, .string ⟨#[]⟩, .int .i64 0] 124)
 have r1 := heap_alloc_new w (.cells #[.int .i64 0, .string ⟨#[]⟩, .int .i64 0] 124)
 obtain ⟨xk, xt, xa⟩ := x
 dsimp only at e0 e1 e2
 clear hc hA h4 h3 h hn h1
 go_enter Tryz.func44, Tryz.ntmps44
 go_upto_region 1 with (fail)
 obtain ⟨W, hW⟩ : ∃ W, w.alloc (.cells #[.int .i64 0, .string ⟨#[]⟩, .int .i64 0] 124) = W := ⟨_, rfl⟩
 rw [hW] at hbel r1 ⊢
 clear hW
 rw [<- hbel.cell (by show R < _; omega)] at c0 c2
 rw [<- hbel.cell (by show g < _; omega)] at e0 e1 e2
 have f0 : W.cell? ⟨w.heap.size, 0, none⟩ = some (.int .i64 0) := by rw [cell_of_row _ _ _ _ _ _ r1]; rfl
 have f1 : W.cell? ⟨w.heap.size, 1, none⟩ = some (.string ⟨#[]⟩) := by rw [cell_of_row _ _ _ _ _ _ r1]; rfl
 have f2 : W.cell? ⟨w.heap.size, 2, none⟩ = some (.int .i64 0) := by rw [cell_of_row _ _ _ _ _ _ r1]; rfl
 have y0 := frozen_of_row W w.heap.size 0 _ _ r1
 have y1 := frozen_of_row W w.heap.size 1 _ _ r1
 have y2 := frozen_of_row W w.heap.size 2 _ _ r1
 clear r1
 go_wp2_with fail
 exact bodyPost_ret (v := .agg #[.int .i64 xk, .string xt, .int .i64 xa]) (by simp [results, Tryz.f44, go_sem, f0, f1, f2]) rfl ⟨rfl, ((hbel.setCell (p := ⟨w.heap.size, 0, none⟩) (Nat.le_refl _) _).setCell (p := ⟨w.heap.size, 1, none⟩) (Nat.le_refl _) _).setCell (p := ⟨w.heap.size, 2, none⟩) (Nat.le_refl _) _⟩
theorem next_ok {R : Nat} {x : Tk} {L : List Tk} {w : World} (h : Prs w R (x :: L)) : Calls Tryz.prog 46 #[.pointer (some ⟨R, 0, none⟩)] w fun e w' => e = .returned (.tuple #[]) /\ Prs w' R L /\ Kp R w w' := by
 obtain ⟨B, c, z, p, h1, h2, h3, h4⟩ := h.ex
 obtain ⟨_, g, o, hA, hgR, hc⟩ := h4.elem tk_len (k := 0) (x := x) rfl (by simp)
 have hl8 := h.len
 have hml := h.ml
 have hRlt := h.lt
 have hd := h4.drop (k := 1) (c := c) (by simp) h1
 have e3 : (flat Tk.cells (x :: L)).drop (1 * 3) = flat Tk.cells L := rfl
 have e4 : (x :: L).length - 1 = L.length := rfl
 rw [e3, e4] at hd
 clear e3 e4 hc h4
 have hn : (x :: L).length = L.length + 1 := rfl
 rw [hn] at h1 h3 hl8
 have c0 : w.cell? ⟨R, 0, none⟩ = some (.slice B (L.length + 1) c) := by rw [cell_of_row _ _ _ _ _ _ h3]; rfl
 have z0 := frozen_of_row w R 0 _ _ h3
 obtain ⟨n, hn⟩ : ∃ n, L.length = n := ⟨_, rfl⟩
 rw [hn] at h1 h3 hl8 c0 hd
 subst hA
 have h3' := h3
 clear h3
 by_cases hc1 : c = 1
 ·subst hc1
  obtain rfl : n = 0 := by omega
  go_enter Tryz.func46, Tryz.ntmps46
  go_wp2_with fail
  go_end0
  have hd' : Rd w R 3 (some ⟨g, o, none⟩) L.length (flat Tk.cells L) := by rw [hn]; exact hd
  have hp := h.put (K := L) (c' := 0) h3' hd' (by omega) (by omega) (by simp)
  rw [hn] at hp
  exact ⟨rfl, hp, Kp.set w 0 _⟩
 ·rw [if_neg hc1] at hd
  go_enter Tryz.func46, Tryz.ntmps46
  go_wp2_with fail
  go_end0
  have hd' : Rd w R 3 (some ⟨g, o + 3, none⟩) L.length (flat Tk.cells L) := by rw [hn]; exact hd
  have hp := h.put (K := L) (c' := c - 1) h3' hd' (by omega) (by omega) (by simp)
  rw [hn] at hp
  exact ⟨rfl, hp, Kp.set w 0 _⟩
def isB (x : Tk) (s : ByteArray) : Bool := (x.k == 1 || x.k == 4) && x.t.toList == s.toList
theorem is_ok {R : Nat} {x : Tk} {L : List Tk} {w : World} (h : Prs w R (x :: L)) (s : ByteArray) : Calls Tryz.prog 52 #[.pointer (some ⟨R, 0, none⟩), .string s] w fun e w' => e = .returned (.bool (isB x s)) /\ Below w.heap.size w w' := by
 have hpk := peek_ok h
 clear h
 obtain ⟨xk, xt, xa⟩ := x
 dsimp only [isB]
 dsimp only [Tk.agg] at hpk
 obtain ⟨b1, hb1⟩ : ∃ b, (xk == 1) = b := ⟨_, rfl⟩
 obtain ⟨b4, hb4⟩ : ∃ b, (xk == 4) = b := ⟨_, rfl⟩
 obtain ⟨bs, hbs⟩ : ∃ b, (xt.toList == s.toList) = b := ⟨_, rfl⟩
 rw [hb1, hb4, hbs]
 go_enter Tryz.func52, Tryz.ntmps52
 go_wp2_with fail
 refine hpk.mono ?_
 rintro e w1 ⟨rfl, hb⟩
 go_upto_region 2 with (fail)
 obtain ⟨W, hW, hbW, hr⟩ : ∃ W, w1.alloc (.cells #[.int .i64 xk, .string xt, .int .i64 xa] 124) = W /\ Below w.heap.size w W /\ W.heap[w1.heap.size]? = some (.cells #[.int .i64 xk, .string xt, .int .i64 xa] 124) :=
  ⟨_, rfl, hb.alloc hb.size _, heap_alloc_new w1 _⟩
 rw [hW]
 clear hW
 have f0 : W.cell? ⟨w1.heap.size, 0, none⟩ = some (.int .i64 xk) := by rw [cell_of_row _ _ _ _ _ _ hr]; rfl
 have f1 : W.cell? ⟨w1.heap.size, 1, none⟩ = some (.string xt) := by rw [cell_of_row _ _ _ _ _ _ hr]; rfl
 clear hr hb hpk
 cases b1 <;> cases b4 <;> cases bs
 all_goals
  go_wp2_with fail
  go_ret
  exact ⟨rfl, hbW⟩
theorem is_to {R : Nat} {x : Tk} {L : List Tk} {w : World} (h : Prs w R (x :: L)) {s : ByteArray} {b : Bool} (hb : isB x s = b) : Calls Tryz.prog 52 #[.pointer (some ⟨R, 0, none⟩), .string s] w fun e w' => e = .returned (.bool b) /\ Below w.heap.size w w' := by
 subst hb
 exact is_ok h s
theorem accept_yes {R : Nat} {x : Tk} {L : List Tk} {w : World} (h : Prs w R (x :: L)) {s : ByteArray} (hb : isB x s = true) : Calls Tryz.prog 28 #[.pointer (some ⟨R, 0, none⟩), .string s] w fun e w' => e = .returned (.bool true) /\ Prs w' R L /\ Kp R w w' := by
 have hi := is_to h hb
 go_enter Tryz.func28, Tryz.ntmps28
 go_wp2_with fail
 refine hi.mono ?_
 rintro e w1 ⟨rfl, hb1⟩
 go_wp2_with fail
 refine (next_ok (h.to hb1)).mono ?_
 rintro e w2 ⟨rfl, h2, hk⟩
 go_wp2_with fail
 go_ret
 exact ⟨rfl, h2, (Kp.of hb1).trans hk⟩
theorem accept_no {R : Nat} {x : Tk} {L : List Tk} {w : World} (h : Prs w R (x :: L)) {s : ByteArray} (hb : isB x s = false) : Calls Tryz.prog 28 #[.pointer (some ⟨R, 0, none⟩), .string s] w fun e w' => e = .returned (.bool false) /\ Below w.heap.size w w' := by
 have hi := is_to h hb
 go_enter Tryz.func28, Tryz.ntmps28
 go_wp2_with fail
 refine hi.mono ?_
 rintro e w1 ⟨rfl, hb1⟩
 go_wp2_with fail
 go_ret
 exact ⟨rfl, hb1⟩
theorem expect_yes {R : Nat} {x : Tk} {L : List Tk} {w : World} (h : Prs w R (x :: L)) {s : ByteArray} (hb : isB x s = true) : Calls Tryz.prog 24 #[.pointer (some ⟨R, 0, none⟩), .string s] w fun e w' => e = .returned (.tuple #[]) /\ Prs w' R L /\ Kp R w w' := by
 have hi := accept_yes h hb
 go_enter Tryz.func24, Tryz.ntmps24
 go_wp2_with fail
 refine hi.mono ?_
 rintro e w1 ⟨rfl, h2, hk⟩
 go_wp2_with fail
 go_end0
 exact ⟨rfl, h2, hk⟩
end
section
def kwB : List By := [[97, 110, 100], [98, 101, 115, 116], [98, 121], [99, 114, 101, 100, 105, 116], [99, 117, 114, 114, 101, 110, 99, 121], [101, 108, 115, 101], [102, 108, 111, 111, 114], [102, 114, 111, 109], [103, 114, 97, 110, 116], [105, 102], [105, 110, 100, 101, 120], [108, 101, 116], [108, 105, 109, 105, 116], [109, 97, 120], [109, 105, 110], [110, 111, 116], [111, 114], [112, 97, 121], [114, 101, 100, 117, 99, 101], [114, 111, 117, 110, 100], [115, 116, 97, 116, 117, 116, 101], [116, 104, 101, 110]]
theorem keyword_no (S : ByteArray) (t : By) (hS : S = bs t) (ht : kwB.contains t = false) (w : World) : Calls Tryz.prog 92 #[.string S] w fun e w' => e = .returned (.bool false) /\ w = w' := by
 have hk : ∀ l : By, kwB.contains l = true -> (S.toList == l) = false := by
  intro l hl
  rw [ByteArray.toList_eq, beq_eq_false_iff_ne]
  intro e
  have e2 : t = l := by rw [hS] at e; exact e
  rw [e2, hl] at ht
  cases ht
 clear hS ht
 have k0 : (S.toList == [97, 110, 100]) = false := hk _ (by decide)
 have k1 : (S.toList == [98, 101, 115, 116]) = false := hk _ (by decide)
 have k2 : (S.toList == [98, 121]) = false := hk _ (by decide)
 have k3 : (S.toList == [99, 114, 101, 100, 105, 116]) = false := hk _ (by decide)
 have k4 : (S.toList == [99, 117, 114, 114, 101, 110, 99, 121]) = false := hk _ (by decide)
 have k5 : (S.toList == [101, 108, 115, 101]) = false := hk _ (by decide)
 have k6 : (S.toList == [102, 108, 111, 111, 114]) = false := hk _ (by decide)
 have k7 : (S.toList == [102, 114, 111, 109]) = false := hk _ (by decide)
 have k8 : (S.toList == [103, 114, 97, 110, 116]) = false := hk _ (by decide)
 have k9 : (S.toList == [105, 102]) = false := hk _ (by decide)
 have k10 : (S.toList == [105, 110, 100, 101, 120]) = false := hk _ (by decide)
 have k11 : (S.toList == [108, 101, 116]) = false := hk _ (by decide)
 have k12 : (S.toList == [108, 105, 109, 105, 116]) = false := hk _ (by decide)
 have k13 : (S.toList == [109, 97, 120]) = false := hk _ (by decide)
 have k14 : (S.toList == [109, 105, 110]) = false := hk _ (by decide)
 have k15 : (S.toList == [110, 111, 116]) = false := hk _ (by decide)
 have k16 : (S.toList == [111, 114]) = false := hk _ (by decide)
 have k17 : (S.toList == [112, 97, 121]) = false := hk _ (by decide)
 have k18 : (S.toList == [114, 101, 100, 117, 99, 101]) = false := hk _ (by decide)
 have k19 : (S.toList == [114, 111, 117, 110, 100]) = false := hk _ (by decide)
 have k20 : (S.toList == [115, 116, 97, 116, 117, 116, 101]) = false := hk _ (by decide)
 have k21 : (S.toList == [116, 104, 101, 110]) = false := hk _ (by decide)
 clear hk
 go_enter Tryz.func92, Tryz.ntmps92
 go_wp2_with fail
 go_ret
 exact ⟨rfl, rfl⟩
theorem isword_ok (S : ByteArray) (c : UInt8) (u : By) (hS : S = bs (c :: u)) (h0 : letV c.toNat = true) (h1 : ∀ x ∈ u, inwV (x.toNat : Int) = true) (h2 : u.length < 12) (w : World) : Calls Tryz.prog 91 #[.string S] w fun e w' => e = .returned (.bool true) /\ w = w' := by
 have hz : S.size = u.length + 1 := by rw [hS, bs_size]; rfl
 have hz0 : 0 < S.size := by omega
 have hg0 : letV (S[0].toNat : Int) = true := by subst hS; exact h0
 have hin : ∀ i (h : i < S.size), inwV (S[i].toNat : Int) = true := by
  intro i h
  subst hS
  rw [bs_get]
  rcases List.mem_cons.1 (List.getElem_mem (show i < (c :: u).length by rw [bs_size] at h; exact h)) with e | hm
  ·rw [e]; simp [inwV, h0]
  ·exact h1 _ hm
 have q1 : decide ((S.size : Int) < 1) = false := decide_eq_false (by omega)
 have q2 : decide (12 < (S.size : Int)) = false := decide_eq_false (by omega)
 have H0 := Lib.hid hg0
 have HI := Lib.hid hin
 have hs : S.size <= 100000 := by omega
 clear hg0 hin hS h0 h1 hz
 go_enter Tryz.func91, Tryz.ntmps91
 go_wp2_with fail
 refine (lower_to H0.out _).mono ?_
 rintro e w1 ⟨rfl, rfl⟩
 go_wp2_with fail
 go_loop [3] (fun i => ∃ k : Nat, k <= S.size /\ i = .int .i64 (k : Int)) (fun i => S.size - (intOf i).toNat)
 case atStart => exact ⟨0, by omega, rfl⟩
 case round =>
  obtain ⟨k, hk, rfl⟩ := hrel
  by_cases hlt : k < S.size
  ·have hi := HI.out k hlt
   have HK := Lib.hid hi
   clear hi
   go_wp2_with fail
   refine (inword_to HK.out _).mono ?_
   rintro e w1 ⟨rfl, rfl⟩
   go_wp2_with fail
   go_round
   case rel => exact ⟨k + 1, by omega, by go_num⟩
   case measure => simp [intOf]; omega
  ·obtain rfl : k = S.size := by omega
   go_wp2_with fail
   go_ret
   exact ⟨rfl, rfl⟩
structure Nm (t : By) : Prop where
 ex : ∃ c u, t = c :: u /\ letV c.toNat = true /\ (∀ x ∈ u, inwV (x.toNat : Int) = true) /\ u.length < 12
 kw : kwB.contains t = false
theorem isname_ok (S : ByteArray) (t : By) (hS : S = bs t) (h : Nm t) (w : World) : Calls Tryz.prog 45 #[.string S] w fun e w' => e = .returned (.bool true) /\ w = w' := by
 obtain ⟨c, u, e, h0, h1, h2⟩ := h.ex
 have a1 := fun v => isword_ok S c u (by rw [hS, e]) h0 h1 h2 v
 have a2 := fun v => keyword_no S t hS h.kw v
 clear hS
 go_enter Tryz.func45, Tryz.ntmps45
 go_wp2_with fail
 refine (a1 _).mono ?_
 rintro e w1 ⟨rfl, rfl⟩
 go_wp2_with fail
 refine (a2 _).mono ?_
 rintro e w1 ⟨rfl, rfl⟩
 go_wp2_with fail
 go_ret
 exact ⟨rfl, rfl⟩
theorem name_ok {R : Nat} {x : Tk} {L : List Tk} {w : World} (h : Prs w R (x :: L)) {t : By} (hk : x.k = 1) (ht : x.t = bs t) (hn : Nm t) : Calls Tryz.prog 25 #[.pointer (some ⟨R, 0, none⟩)] w fun e w' => e = .returned (.string (bs t)) /\ Prs w' R L /\ Kp R w w' := by
 have hpk := peek_ok h
 have hin := fun v => isname_ok x.t t ht hn v
 rw [<- ht]
 clear ht
 obtain ⟨xk, xt, xa⟩ := x
 obtain rfl : xk = 1 := hk
 dsimp only [Tk.agg] at hpk hin ⊢
 go_enter Tryz.func25, Tryz.ntmps25
 go_wp2_with fail
 refine hpk.mono ?_
 rintro e w1 ⟨rfl, hb⟩
 go_upto_region 2 with (fail)
 obtain ⟨W, hW, hbW, hr⟩ : ∃ W, w1.alloc (.cells #[.int .i64 1, .string xt, .int .i64 xa] 124) = W /\ Below w.heap.size w W /\ W.heap[w1.heap.size]? = some (.cells #[.int .i64 1, .string xt, .int .i64 xa] 124) :=
  ⟨_, rfl, hb.alloc hb.size _, heap_alloc_new w1 _⟩
 rw [hW]
 clear hW
 have hzz := hb.size
 have hlt := h.lt
 have f0 : W.cell? ⟨w1.heap.size, 0, none⟩ = some (.int .i64 1) := by rw [cell_of_row _ _ _ _ _ _ hr]; rfl
 have f1 : W.cell? ⟨w1.heap.size, 1, none⟩ = some (.string xt) := by rw [cell_of_row _ _ _ _ _ _ hr]; rfl
 go_wp2_with fail
 refine (hin _).mono ?_
 rintro e w2 ⟨rfl, rfl⟩
 go_wp2_with fail
 refine (next_ok (h.to hbW)).mono ?_
 rintro e w2 ⟨rfl, h2, hk2⟩
 have r2 := (hk2.block w1.heap.size (gis hr).1 (fun e => by injection e with e; omega)).trans hr
 have g1 : w2.cell? ⟨w1.heap.size, 1, none⟩ = some (.string xt) := by rw [cell_of_row _ _ _ _ _ _ r2]; rfl
 clear f0 f1 hr r2 hpk hin
 go_wp2_with fail
 go_ret
 exact ⟨rfl, h2, (Kp.of hbW).trans hk2⟩
theorem number_ok {R : Nat} {x : Tk} {L : List Tk} {w : World} (h : Prs w R (x :: L)) {n lo hi : Nat} (hk : x.k = 2) (ht : x.t = bs (dgl n)) (hlo : lo <= n) (hhi : n <= hi) (hn : n < 1000000000) : Calls Tryz.prog 26 #[.pointer (some ⟨R, 0, none⟩), .int .i64 (lo : Int), .int .i64 (hi : Int)] w fun e w' => e = .returned (.int .i64 (n : Int)) /\ Prs w' R L /\ Kp R w w' := by
 have hpk := peek_ok h
 have hwh := fun v hv => whole_ok n hn v hv
 rw [<- ht] at hwh
 clear ht
 obtain ⟨xk, xt, xa⟩ := x
 obtain rfl : xk = 2 := hk
 dsimp only [Tk.agg] at hpk hwh ⊢
 have q1 : decide ((n : Int) < (lo : Int)) = false := decide_eq_false (by omega)
 have q2 : decide ((hi : Int) < (n : Int)) = false := decide_eq_false (by omega)
 go_enter Tryz.func26, Tryz.ntmps26
 go_wp2_with fail
 refine hpk.mono ?_
 rintro e w1 ⟨rfl, hb⟩
 go_upto_region 2 with (fail)
 obtain ⟨W, hW, hbW, hr⟩ : ∃ W, w1.alloc (.cells #[.int .i64 2, .string xt, .int .i64 xa] 124) = W /\ Below w.heap.size w W /\ W.heap[w1.heap.size]? = some (.cells #[.int .i64 2, .string xt, .int .i64 xa] 124) :=
  ⟨_, rfl, hb.alloc hb.size _, heap_alloc_new w1 _⟩
 rw [hW]
 clear hW
 have hzz := hb.size
 have hlt := h.lt
 have f1 : W.cell? ⟨w1.heap.size, 1, none⟩ = some (.string xt) := by rw [cell_of_row _ _ _ _ _ _ hr]; rfl
 have h1 := hwh W (h.to hbW).ml
 go_wp2_with fail
 refine h1.mono ?_
 rintro e w2 ⟨rfl, hb2⟩
 have r2 := (hb2.block w1.heap.size (gis hr).1).trans hr
 have g0 : w2.cell? ⟨w1.heap.size, 0, none⟩ = some (.int .i64 2) := by rw [cell_of_row _ _ _ _ _ _ r2]; rfl
 have hp2 := (h.to hbW).to hb2
 have hbb := (Kp.of (R := R) hbW).trans (Kp.of hb2)
 clear f1 hr r2 hpk hwh h1
 go_wp2_with fail
 refine (next_ok hp2).mono ?_
 rintro e w3 ⟨rfl, h3, hk3⟩
 go_wp2_with fail
 go_ret
 exact ⟨rfl, h3, hbb.trans hk3⟩
end
end Go.Proofs.YtnlopdmhdiegnaaGreatDoor
