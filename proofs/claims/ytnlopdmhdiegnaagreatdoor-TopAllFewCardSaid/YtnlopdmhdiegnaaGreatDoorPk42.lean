/- Lemmas (no conditions): Stb, Bnb -/
import Derived.Test.YtnlopdmhdiegnaaGreatDoorPk39
import Derived.Test.YtnlopdmhdiegnaaGreatDoorPk40
import Derived.Test.YtnlopdmhdiegnaaGreatDoorSx
set_option linter.unusedSimpArgs false
set_option linter.unusedVariables false
set_option maxRecDepth 100000
set_option maxHeartbeats 64000000
namespace Go.Proofs.YtnlopdmhdiegnaaGreatDoor
open Go.RowKit
section
open Go.RowKit Go.Shelf
attribute [local go_sem] Oper.semAt_some
theorem cell_turn {w w' : World} {row : Option Nat} {p : Addr} {v : Value} (h : w.cell? p = some v) (hg : w.grownBy w' row) (hr : ∀ r, row = some r -> ∃ o : Obj, w.heap[r]? = some o /\ o.isCells = false) : w'.cell? p = some v := by
 have hl := World.block_lt_of_cell? w p h
 rw [World.cell?_of_block (hg.block p.block hl fun e => ?_)]
 ·exact h
 ·obtain ⟨o, ho, hc⟩ := hr _ e.symm
  unfold World.cell? at h
  rw [ho] at h
  cases o <;> simp [Obj.isCells] at h hc
theorem Rz.turn {w w' : World} {row : Option Nat} {hi g : Nat} {xs : List Value} (h : Rz w hi g xs) (hg : w.grownBy w' row) (hr : ∀ r, row = some r -> ∃ o : Obj, w.heap[r]? = some o /\ o.isCells = false) : Rz w' hi g xs :=
 ⟨h.1, fun j u hu => cell_turn (h.2 j u hu) hg hr⟩
theorem VerR.turn {w w' : World} {row : Option Nat} {hi : Nat} {D : Sd} {x : Vs} (h : VerR w hi D x) (hg : w.grownBy w' row) (hr : ∀ r, row = some r -> ∃ o : Obj, w.heap[r]? = some o /\ o.isCells = false) : VerR w' hi D x := by
 refine ⟨?_, ?_⟩
 ·rcases h.cr with ⟨h1, b, h2, h3, h4, h5⟩ | h1
  ·exact .inl ⟨h1, b, h2, h3, h4, h5.turn hg hr⟩
  ·exact .inr h1
 ·obtain ⟨b, X, h1, h2, h3, h4⟩ := h.gr
  refine ⟨b, X, h1, h2, h3.turn hg hr, ?_⟩
  obtain ⟨cr, ci, py⟩ := D
  cases ci with
  | leaf v => exact h4
  | cmp u v =>
   obtain ⟨g, c, h5, h6, h7⟩ := h4
   exact ⟨g, c, h5, h6, h7.turn hg hr⟩
theorem eight_row {w : World} {g : Nat} (h : w.heap[g]? = some vzBox) (y : Vs) : ((((((((w.setCell ⟨g, 0, none⟩ (.int .i64 0)).setCell ⟨g, 1, none⟩ (.int .i64 1)).setCell ⟨g, 2, none⟩ (.int .i64 1)).setCell ⟨g, 3, none⟩ (.slice y.cA y.cn y.cc)).setCell ⟨g, 4, none⟩ (.slice none 0 0)).setCell ⟨g, 5, none⟩ (.slice none 0 0)).setCell ⟨g, 6, none⟩ (.slice y.gA 1 y.gc)).setCell ⟨g, 7, none⟩ (.slice none 0 0)).heap[g]? = some (verBox y) :=
 hSs _ g 7 _ _ _ (hSs _ g 6 _ _ _ (hSs _ g 5 _ _ _ (hSs _ g 4 _ _ _ (hSs _ g 3 _ _ _ (hSs _ g 2 _ _ _ (hSs _ g 1 _ _ _ (hSs w g 0 _ _ _ h)))))))
theorem heap_turnS {w w' : World} {row : Option Nat} {b : Nat} {cs : Array Value} {t : TypeId} {fr : Nat × Nat} (h : w.heap[b]? = some (.cells cs t fr)) (hg : w.grownBy w' row) (hr : ∀ r, row = some r -> ∃ o : Obj, w.heap[r]? = some o /\ o.isCells = false) : w'.heap[b]? = some (.cells cs t fr) := by
 refine (hg.block b (gis h).1 fun e => ?_).trans h
 obtain ⟨o, ho, hc⟩ := hr b e.symm
 rw [h] at ho
 cases ho
 cases hc
theorem keeps_belowV {W W' : World} (h : Below W.heap.size W W') : KeepsOthers W W' := ⟨h.size, fun k _ hk _ => (h.block k (gis hk).1).trans hk⟩
theorem sat_in (F : Fence) (n : Nat) (hF : ∀ f, F.fn f) (hro : F.round = none) (hn : 5 <= n) (nm : By) (x : St) (v : Vs) {cr : Bool} {a b py : Lf} (d : Int) (hd : 0 <= d) (hi : Nat) (w : World) (hX : Rz w hi x.b v.cells) (hc1 : 1 <= x.c) (hhi : hi <= w.heap.size)
  (hv : ∀ (m : Nat) (W : World), CallsIn F m Tryz.prog 64 #[.int .i64 d] W fun e w' => e = .returned (.bool true) /\ W = w')
  (hcl : ∀ (m : Nat) (W : World), Below w.heap.size w W -> CallsIn F m Tryz.prog 119 #[v.agg] W fun e w' => ∃ y : Vs, e = .returned y.agg /\ VerO w' W.heap.size w'.heap.size cr a b py y /\ Below W.heap.size W w') :
  CallsIn F n Tryz.prog 68 #[x.agg nm, .int .i64 d] w fun e w' => ∃ y : Vs, e = .returned (.tuple #[y.agg, .bool true]) /\ VerR w' w'.heap.size ⟨cr, .cmp a b, py⟩ y /\ Below w.heap.size w w' := by
 have h1 : 1 <= n := by omega
 obtain ⟨W1, hW1, b1, r1⟩ := st_new w nm x
 obtain ⟨W2, hW2, b2, r2⟩ := box_new W1 (.cells #[.int .i64 d] 3)
 obtain ⟨W3, hW3, b3, r3⟩ := vz_new W2
 obtain ⟨W4, hW4, b4, r4⟩ := box_new W3 (.cells #[.bool false] 4)
 obtain ⟨W5, hW5, b5, r5⟩ := box_new W4 (.cells #[.slice (some ⟨x.b, 0, none⟩) 1 x.c] 50)
 have l1 := (gis r1).1
 have l2 := (gis r2).1
 have l3 := (gis r3).1
 have l4 := (gis r4).1
 have l5 := (gis r5).1
 have z1 := b1.size
 have z2 := b2.size
 have z3 := b3.size
 have z4 := b4.size
 have z5 := b5.size
 have b45 := b4.trans (b5.mono z4)
 have b35 := b3.trans (b45.mono z3)
 have b25 := b2.trans (b35.mono z2)
 have b05 := b1.trans (b25.mono z1)
 have b24 := b2.trans ((b3.trans (b4.mono z3)).mono z2)
 obtain ⟨c0, c1, c2⟩ := stbox ((b24.block _ l1).trans r1)
 have q1 := (b25.block _ l1).trans r1
 have q2 := (b35.block _ l2).trans r2
 have q3 := (b45.block _ l3).trans r3
 have q4 := (b5.block _ l4).trans r4
 have hs0 : W5.cell? ⟨W4.heap.size, 0, none⟩ = some (.slice (some ⟨x.b, 0, none⟩) 1 x.c) := by rw [cOr r5]; rfl
 have cdd : W2.cell? ⟨W1.heap.size, 0, none⟩ = some (.int .i64 d) := by rw [cOr r2]; rfl
 have cd4 : W4.cell? ⟨W1.heap.size, 0, none⟩ = some (.int .i64 d) := by rw [cOr (((b3.trans (b4.mono z3)).block _ l2).trans r2)]; rfl
 have hX0 : Rz W5 W5.heap.size x.b v.cells := (hX.below (b05.mono hhi)).mono (by omega)
 refine callsIn_of_wp_marks Tryz.func68 rfl (hF _) ?_ hro
 simp only [Tryz.ntmps68, List.size_toArray, List.length_cons, List.length_nil, Nat.reduceAdd, Nat.reduceSub, Array.replicate_succ, Array.replicate_zero, List.push_toArray, List.append_toArray, List.nil_append, List.cons_append]
 unfold St.agg
 dsimp only [stBox, vzBox] at hW1 hW3
 gi_wp2_with (first
  | (gi_at_call 64; refine (hv _ _).mono ?_; rintro e w' ⟨rfl, rfl⟩)
  | (gi_at_call 118; refine (bwv_in F (n - 1) (hF _) hro _ _ _ _).mono ?_; rintro e w' ⟨rfl, rfl⟩))
 clear hW1 hW2 hW3 hW4 hW5 c0 c1 c2 cdd cd4 hv
 refine wpIn_rangeFunc_ownH hro h1 (gf := 171) (lb := #[.pointer (some ⟨W4.heap.size, 0, none⟩)]) rfl (hF _) (enters_of Tryz.func171 (by kernel_rfl) rfl)
  (bwv_stops F (n - 1) (hF _) hro (by omega) W4.heap.size W5.heap.size x.b x.c v W5 (by omega) (lRf) hc1 hs0 hX0) belowK_t (belowK_b (by omega)) (bRf) (fun _ => rfl)
  (fun pre W => pre = [] /\ Below W5.heap.size W5 W)
  (fun c pre W => (c = .ret /\ ∃ y : Vs, W.heap[W2.heap.size]? = some (verBox y) /\ W.heap[W3.heap.size]? = some (.cells #[.bool true] 4 (0, 0)) /\ ∃ hh, hh <= W.heap.size /\ VerR W hh ⟨cr, .cmp a b, py⟩ y) /\ Below w.heap.size w W)
  (OwnFrom.and (fun s A B row hs hg hr => hs) (ownFrom_below (by omega) (by omega)))
  (fun c => OwnFrom.and (fun s A B row hs hg hr => by
    obtain ⟨hc, y, q1, q2, hh, q3, q4⟩ := hs
    exact ⟨hc, y, heap_turnS q1 hg (fun r e => (hr r e).2), heap_turnS q2 hg (fun r e => (hr r e).2), hh, lTr q3 hg.size, q4.turn hg (fun r e => (hr r e).2)⟩) (ownFrom_below (lRf) (by omega)))
  ⟨rfl, bRf⟩
  (fun _ a' W => ∃ Bx, W5.heap.size <= Bx /\ W.heap[Bx]? = some (verBox v) /\ a' = { tmps := #[.agg #[.string (bs nm), .int .i64 1, .slice (some ⟨x.b, 0, none⟩) 1 x.c], .int .i64 d, .pointer (some ⟨w.heap.size, 0, none⟩), .pointer (some ⟨W1.heap.size, 0, none⟩), .pointer (some ⟨W2.heap.size, 0, none⟩), .pointer (some ⟨W3.heap.size, 0, none⟩), undef, .pointer (some ⟨Bx, 0, none⟩), .int .i64 d, .bool true, .bool false, undef, .pointer (some ⟨w.heap.size, 2, none⟩), .slice (some ⟨x.b, 0, none⟩) 1 x.c, .func (.func 171) #[] #[.pointer (some ⟨W4.heap.size, 0, none⟩)], .int .i64 0, v.agg, undef, undef, undef, undef, undef, undef, undef], defers := [] })
  (fun x a' => fun _ A B row hs hg hr => by
    obtain ⟨Bx, h1, h2, h3⟩ := hs
    exact ⟨Bx, h1, heap_turnS h2 hg (fun r e => (hr r e).2), h3⟩)
  ?assign ?body ?done ?stop
 case assign =>
  rintro l pre x W K ⟨hp, hB⟩ hK
  dsimp only [Vs.agg]
  gi_wp2
  refine hK _ _ ((KeepsOthers.alloc _ _).from _) ((Below.refl _ W).alloc (by have := hB.size; omega) _) ⟨hp, hB.alloc (by have := hB.size; omega) _⟩ ⟨W.heap.size, by have := hB.size; omega, hAn W _, rfl⟩
 case body =>
  rintro l pre x' a' W hl ⟨rr, hrr⟩ ⟨rfl, hB⟩ ⟨Bx, hBx, hbx, rfl⟩ hlt
  have hWs := hB.size
  have cd : W.cell? ⟨W1.heap.size, 0, none⟩ = some (.int .i64 d) := by
   rw [cell_of_row W _ 0 _ _ _ ((hB.block W1.heap.size (by omega)).trans q2)]; rfl
  obtain ⟨y0, y1, y2, y3, y4, y5, y6, y7⟩ := verbox hbx
  have hdf : decide (0 <= d) = true := decide_eq_true hd
  have hbR : Below w.heap.size w W := b05.trans (hB.mono (by omega))
  have hr1 := (hB.block W2.heap.size (by omega)).trans q3
  have hr2 := (hB.block W3.heap.size (by omega)).trans q4
  have hcW := fun m => hcl m W hbR
  unfold Vs.agg at hcW
  clear y1 y2
  have y1 : W.cell? ⟨Bx, 1, none⟩ = some (.int .i64 1) := by rw [cell_of_row W _ 1 _ _ _ hbx]; rfl
  have y2 : W.cell? ⟨Bx, 2, none⟩ = some (.int .i64 1) := by rw [cell_of_row W _ 2 _ _ _ hbx]; rfl
  dsimp only [Vs.agg]
  gi_wp2_with (refine ⟨fun _ => by omega, ?_⟩; gi_at_call 119; refine (CallsIn.inRound l (hcW _)).mono ?_; rintro e V2 ⟨y, rfl, hy, hb2⟩
               have z1' := (hb2.block W2.heap.size (by omega)).trans hr1
               have z2' := (hb2.block W3.heap.size (by omega)).trans hr2
               obtain ⟨⟨f0, f1, f2, f3, f4, f5, f6, f7⟩, ⟨g0, g1, g2, g3, g4, g5, g6, g7⟩⟩ := vzbox z1'
               have v0 : V2.cell? ⟨W3.heap.size, 0, none⟩ = some (.bool false) := by rw [cell_of_row V2 _ 0 _ _ _ z2']; rfl
               have vf := fZr 0 z2'
               have n1 : ¬ (W3.heap.size = W2.heap.size) := by omega
               have n2 : ¬ (W2.heap.size = W3.heap.size) := by omega)
  have t1 := eight_row z1' y
  have kp1 := eight_kp V2 W2.heap.size (.int .i64 0) (.int .i64 1) (.int .i64 1) (.slice y.cA y.cn y.cc) (.slice none 0 0) (.slice none 0 0) (.slice y.gA 1 y.gc) (.slice none 0 0)
  have hy1 := (hy.kp kp1 (by omega) (lRf)).kp (Kp.set (R := W3.heap.size) _ 0 (.bool true)) (by omega) (lRf)
  have t2 := (kp1.block W3.heap.size (by have := hb2.size; omega) (fun e => by injection e with e; omega)).trans z2'
  have hbl := (eight_below (g := W2.heap.size) (hbR.trans (hb2.mono hbR.size)) (by omega) (.int .i64 0) (.int .i64 1) (.int .i64 1) (.slice y.cA y.cn y.cc) (.slice none 0 0) (.slice none 0 0) (.slice y.gA 1 y.gc) (.slice none 0 0)).setCell (p := ⟨W3.heap.size, 0, none⟩) (by show w.heap.size <= W3.heap.size; omega) (.bool true)
  refine ⟨((((((((((keeps_belowV hb2).trans (KeepsOthers.setCell _ _ _)).trans (KeepsOthers.setCell _ _ _)).trans (KeepsOthers.setCell _ _ _)).trans (KeepsOthers.setCell _ _ _)).trans (KeepsOthers.setCell _ _ _)).trans (KeepsOthers.setCell _ _ _)).trans (KeepsOthers.setCell _ _ _)).trans (KeepsOthers.setCell _ _ _)).trans (KeepsOthers.setCell _ _ _)).from _, ⟨rfl, y, (Below.heap_setCell _ _ _ _ (by show W2.heap.size ≠ W3.heap.size; omega)).trans t1, hSs _ W3.heap.size 0 _ _ (.bool true) t2, _, lRf, hy1.rd⟩, hbl⟩
 case done =>
  rintro D' ys W hD hys ⟨hp, hB⟩ hK
  rw [hp] at hys
  cases hys
 case stop =>
  rintro D' c pre W hD hpre ⟨⟨rfl, y, p1, p2, hh, p3, p4⟩, hB⟩ hK
  gi_wp2
  refine ⟨by simp, .inl ⟨_, _, rfl, run_takeDeferred hK, ?_⟩⟩
  have m1 := heap_turnS p1 (grownBy_putObj' W D' (.deferred none)) (fun r e => by cases e; exact ⟨_, hK, rfl⟩)
  have m2 := heap_turnS p2 (grownBy_putObj' W D' (.deferred none)) (fun r e => by cases e; exact ⟨_, hK, rfl⟩)
  have m3 := p4.turn (grownBy_putObj' W D' (.deferred none)) (fun r e => by cases e; exact ⟨_, hK, rfl⟩)
  have hbf := hB.trans (belowK_b (w := w) (lRf) W D' _ (.deferred none) (by omega) hK rfl rfl)
  have m4 : (W.putObj D' (.deferred none)).heap.size = W.heap.size := by simp [World.putObj]
  obtain ⟨Wf, hWf⟩ : ∃ Wf, Wf = W.putObj D' (.deferred none) := ⟨_, rfl⟩
  rw [<- hWf] at m1 m2 m3 m4 hbf ⊢
  obtain ⟨f0, f1, f2, f3, f4, f5, f6, f7⟩ := verbox m1
  have g0 : Wf.cell? ⟨W3.heap.size, 0, none⟩ = some (.bool true) := by rw [cell_of_row Wf _ 0 _ _ _ m2]; rfl
  refine ⟨.tuple #[y.agg, .bool true], ?_, y, rfl, m3.mono (by omega), hbf⟩
  simp [results, Tryz.f68, go_sem, f0, f1, f2, f3, f4, f5, f6, f7, g0, Vs.agg]
theorem sat_ok {nm : By} {x : St} {cr : Bool} {a b py : Lf} {d hi : Nat} {w : World} (hd : d <= 73048) (h : StR w hi ⟨cr, .cmp a b, py⟩ x) (hhi : hi <= w.heap.size) :
  Calls Tryz.prog 68 #[x.agg nm, .int .i64 (d : Int)] w fun e w' => ∃ y : Vs, e = .returned (.tuple #[y.agg, .bool true]) /\ VerR w' w'.heap.size ⟨cr, .cmp a b, py⟩ y /\ Below w.heap.size w w' := by
 obtain ⟨v, h1, h2⟩ := h.ex
 refine (callsIn_wide (n := 7)).1 (sat_in Fence.wide 7 (fun _ => trivial) rfl (by omega) nm x v (d : Int) (by omega) hi w h1 h.c1 hhi (fun m W => callsIn_wide.2 (tvd_any d hd W)) fun m W hW => callsIn_wide.2 ?_)
 exact cv_ok (h2.below (hW.mono hhi)) (lTr hhi hW.size)
end
section
theorem Rz.own {w w' : World} {Q hi g j : Nat} {u : Value} {xs : List Value} (h : Rz w hi g xs) (hk : Kp Q w w') (hx : xs[j]? = some u) (hq : w.cell? ⟨Q, j, none⟩ ≠ some u) : Rz w' hi g xs := by
 refine ⟨h.1, fun i v hv => ?_⟩
 have hne : g ≠ Q := fun e => hq (by rw [<- e]; exact h.2 j u hx)
 have h1 := h.2 i v hv
 have hl := World.block_lt_of_cell? w _ h1
 rw [World.cell?_of_block (hk.block g hl fun e => hne (Option.some.inj e))]
 exact h1
theorem VerR.st {w w' : World} {Q hi : Nat} {cr : Bool} {a b py : Lf} {x : Vs} {s : ByteArray} (h : VerR w hi ⟨cr, .cmp a b, py⟩ x) (hk : Kp Q w w') (hq : w.cell? ⟨Q, 0, none⟩ = some (.string s)) : VerR w' hi ⟨cr, .cmp a b, py⟩ x := by
 refine ⟨?_, ?_⟩
 ·rcases h.cr with ⟨h1, g, h2, h3, h4, h5⟩ | h1
  ·exact .inl ⟨h1, g, h2, h3, h4, h5.own (j := 0) hk rfl (by rw [hq]; simp)⟩
  ·exact .inr h1
 ·obtain ⟨g, X, h1, h2, h3, g2, c, h5, h6, h7⟩ := h.gr
  exact ⟨g, X, h1, h2, h3.own (j := 0) hk rfl (by rw [hq]; simp), g2, c, h5, h6, h7.own (j := 0) hk rfl (by rw [hq]; simp)⟩
theorem VerR.vz {w w' : World} {Q hi : Nat} {cr : Bool} {a b py : Lf} {x : Vs} (h : VerR w hi ⟨cr, .cmp a b, py⟩ x) (hk : Kp Q w w') (hq : w.cell? ⟨Q, 0, none⟩ = some (.int .i64 0)) (hq3 : w.cell? ⟨Q, 3, none⟩ = some (.slice none 0 0)) : VerR w' hi ⟨cr, .cmp a b, py⟩ x := by
 refine ⟨?_, ?_⟩
 ·rcases h.cr with ⟨h1, g, h2, h3, h4, h5⟩ | h1
  ·exact .inl ⟨h1, g, h2, h3, h4, h5.own (j := 0) hk rfl (by rw [hq]; simp)⟩
  ·exact .inr h1
 ·obtain ⟨g, X, h1, h2, h3, g2, c, h5, h6, h7⟩ := h.gr
  exact ⟨g, X, h1, h2, h3.own (j := 0) hk rfl (by rw [hq]; simp), g2, c, h5, h6, h7.own (j := 3) hk rfl (by rw [hq3]; simp)⟩
theorem st_row {w : World} {g : Nat} (h : w.heap[g]? = some (.cells #[.string ⟨#[]⟩, .int .i64 0, .slice none 0 0] 52)) :
  (w.cell? ⟨g, 0, none⟩ = some (.string ⟨#[]⟩) /\ w.cell? ⟨g, 1, none⟩ = some (.int .i64 0) /\ w.cell? ⟨g, 2, none⟩ = some (.slice none 0 0)) /\ (w.frozen? ⟨g, 0, none⟩ = false /\ w.frozen? ⟨g, 1, none⟩ = false /\ w.frozen? ⟨g, 2, none⟩ = false) := by
 refine ⟨⟨?_, ?_, ?_⟩, fZr 0 h, fZr 1 h, fZr 2 h⟩ <;> rw [cOr h] <;> rfl
theorem bversion_ok {b : Bn} {nm : By} {x : St} {cr : Bool} {p q py : Lf} {s d : Nat} {w : World} (hS : Rd w w.heap.size 4 b.SA b.k (flat (saCells nm x) (List.range b.k))) (hs : s < b.k) (h6 : b.k <= 6)
  (hX : StR w w.heap.size ⟨cr, .cmp p q, py⟩ x) (hd : d <= 73048) (hbd : b.d = (d : Int)) :
  Calls Tryz.prog 34 #[b.agg, .int .i64 (s : Int)] w fun e w' => ∃ y : Vs, e = .returned (.tuple #[x.agg nm, y.agg, .int .i64 0]) /\ VerR w' w'.heap.size ⟨cr, .cmp p q, py⟩ y /\ Below w.heap.size w w' := by
 obtain ⟨W, hW, bW, rW⟩ := bn_new w b
 obtain ⟨V, hV, bV, rV⟩ := box_new W (.cells #[.string ⟨#[]⟩, .int .i64 0, .slice none 0 0] 52)
 obtain ⟨U, hU, bU, rU⟩ := vz_new V
 have lW := (gis rW).1
 have lV := (gis rV).1
 have lU := (gis rU).1
 have bVU := bV.trans (bU.mono bV.size)
 have bWU := bW.trans (bVU.mono bW.size)
 obtain ⟨c0, c1, c2, c3, c4, c5, c6, c7, c8⟩ := bnbox ((bVU.block _ lW).trans rW)
 have hzW := bW.size
 have hzV := bV.size
 have hbs := bstatute_ok (b := b) ((hS.below bWU).mono bWU.size) hs h6
 have hat := fun (u : World) (hu : Below U.heap.size U u) => sat_ok (nm := nm) hd (hX.below (bWU.trans (hu.mono bWU.size))) (lTr bWU.size hu.size)
 have HR := hID (show ∀ u, Below U.heap.size U u -> u.heap[W.heap.size]? = some (.cells #[.string ⟨#[]⟩, .int .i64 0, .slice none 0 0] 52 (0, 0)) /\ u.heap[V.heap.size]? = some vzBox /\ u.cell? ⟨w.heap.size, 3, none⟩ = some (.int .i64 (d : Int)) from
  fun u hu => ⟨(hu.block _ (lLt lV bU.size)).trans ((bU.block _ lV).trans rV), (hu.block _ lU).trans rU, by rw [<- hbd, <- c3]; exact hu.cell (by show w.heap.size < U.heap.size; omega)⟩)
 obtain ⟨SA, k, sc, RA, rc, d0, md, MA, mc⟩ := b
 unfold Bn.agg St.agg at hbs ⊢
 unfold St.agg at hat
 dsimp only [bnBox] at hW c0 c1 c3 c5 c8 hs h6 hbd hbs
 dsimp only [vzBox] at hU
 subst hbd
 have HAT := hID hat
 clear rW rV rU hS hX hat bVU
 go_enter Tryz.func34, Tryz.ntmps34
 go_upto_region 1 with (fail)
 clear hW hV hU
 go_wp2_with fail
 refine hbs.mono ?_
 rintro e w1 ⟨rfl, b1⟩
 clear hbs
 go_upto_region 2 with (fail)
 obtain ⟨W1, hW1, b2, r2⟩ : ∃ V2, V2 = w1.alloc (stBox nm x) /\ Below w1.heap.size w1 V2 /\ V2.heap[w1.heap.size]? = some (stBox nm x) :=
  ⟨_, rfl, (bRf).alloc (lRf) _, hAn w1 _⟩
 dsimp only [stBox] at hW1
 rw [<- hW1]
 clear hW1
 have l2 := (gis r2).1
 obtain ⟨t0, t1, t2⟩ := stbox r2
 have hb1 := b1.trans (b2.mono b1.size)
 have d3 := (HR.out W1 hb1).2.2
 go_wp2_with fail
 refine (HAT.out _ hb1).mono ?_
 rintro e w2 ⟨y, rfl, hy, b3⟩
 dsimp only [Vs.agg]
 go_upto_region 3 with (fail)
 obtain ⟨W2, hW2, b4, r4⟩ : ∃ V2, V2 = w2.alloc (verBox y) /\ Below w2.heap.size w2 V2 /\ V2.heap[w2.heap.size]? = some (verBox y) :=
  ⟨_, rfl, (bRf).alloc (lRf) _, hAn w2 _⟩
 dsimp only [verBox] at hW2
 rw [<- hW2]
 clear hW2 t0 t1 t2 d3
 obtain ⟨v0, v1, v2, v3, v4, v5, v6, v7⟩ := verbox r4
 have b34 := b3.trans (b4.mono b3.size)
 have hb2 := hb1.trans (b34.mono hb1.size)
 obtain ⟨t0, t1, t2⟩ : W2.cell? ⟨w1.heap.size, 0, none⟩ = some (.string (bs nm)) /\ W2.cell? ⟨w1.heap.size, 1, none⟩ = some (.int .i64 1) /\ W2.cell? ⟨w1.heap.size, 2, none⟩ = some (.slice (some ⟨x.b, 0, none⟩) 1 x.c) := stbox ((b34.block _ l2).trans (by assumption))
 obtain ⟨rq, rv, _⟩ := HR.out W2 hb2
 obtain ⟨⟨s0, s1, s2⟩, y0, y1, y2⟩ := st_row rq
 obtain ⟨⟨k0, k1, k2, k3, k4, k5, k6, k7⟩, z0, z1, z2, z3, z4, z5, z6, z7⟩ := vzbox rv
 have hy2 := hy.below b4
 have hfin : VerR (((W2.setCell ⟨W.heap.size, 0, none⟩ (.string (bs nm))).setCell ⟨W.heap.size, 1, none⟩ (.int .i64 1)).setCell ⟨W.heap.size, 2, none⟩ (.slice (some ⟨x.b, 0, none⟩) 1 x.c)) w2.heap.size ⟨cr, .cmp p q, py⟩ y := hy2.st (Q := W.heap.size) (((Kp.set W2 0 _).trans (Kp.set _ 1 _)).trans (Kp.set _ 2 _)) s0
 have h1 := b1.size
 have h2 := b2.size
 have h3 := b3.size
 have h4 := b4.size
 have hbf := bWU.trans (hb2.mono bWU.size)
 go_wp2_with fail
 have g0 := hfin.vz (Q := V.heap.size) (eight_kp _ V.heap.size (.int .i64 0) (.int .i64 1) (.int .i64 1) (.slice y.cA y.cn y.cc) (.slice none 0 0) (.slice none 0 0) (.slice y.gA 1 y.gc) (.slice none 0 0)) (by rw [World.cell?_of_block ((((Kp.set W2 0 _).trans (Kp.set _ 1 _)).trans (Kp.set _ 2 _)).block V.heap.size (by omega) (fun e => by have := Option.some.inj e; omega))]; exact k0) (by rw [World.cell?_of_block ((((Kp.set W2 0 _).trans (Kp.set _ 1 _)).trans (Kp.set _ 2 _)).block V.heap.size (by omega) (fun e => by have := Option.some.inj e; omega))]; exact k3)
 have GF := hID g0
 have hlo : w.heap.size <= V.heap.size := by omega
 have hb9 := (((((((((((hbf.setCell (p := ⟨W.heap.size, 0, none⟩) hzW (.string (bs nm))).setCell (p := ⟨W.heap.size, 1, none⟩) hzW (.int .i64 1)).setCell (p := ⟨W.heap.size, 2, none⟩) hzW (.slice (some ⟨x.b, 0, none⟩) 1 x.c)).setCell (p := ⟨V.heap.size, 0, none⟩) hlo (.int .i64 0)).setCell (p := ⟨V.heap.size, 1, none⟩) hlo (.int .i64 1)).setCell (p := ⟨V.heap.size, 2, none⟩) hlo (.int .i64 1)).setCell (p := ⟨V.heap.size, 3, none⟩) hlo (.slice y.cA y.cn y.cc)).setCell (p := ⟨V.heap.size, 4, none⟩) hlo (.slice none 0 0)).setCell (p := ⟨V.heap.size, 5, none⟩) hlo (.slice none 0 0)).setCell (p := ⟨V.heap.size, 6, none⟩) hlo (.slice y.gA 1 y.gc)).setCell (p := ⟨V.heap.size, 7, none⟩) hlo (.slice none 0 0))
 have hVW : V.heap.size ≠ W.heap.size := by omega
 have kW := ((Kp.set W2 0 (.string (bs nm)) (R := W.heap.size)).trans (Kp.set _ 1 (.int .i64 1))).trans (Kp.set _ 2 (.slice (some ⟨x.b, 0, none⟩) 1 x.c))
 have kV := eight_kp (((W2.setCell ⟨W.heap.size, 0, none⟩ (.string (bs nm))).setCell ⟨W.heap.size, 1, none⟩ (.int .i64 1)).setCell ⟨W.heap.size, 2, none⟩ (.slice (some ⟨x.b, 0, none⟩) 1 x.c)) V.heap.size (.int .i64 0) (.int .i64 1) (.int .i64 1) (.slice y.cA y.cn y.cc) (.slice none 0 0) (.slice none 0 0) (.slice y.gA 1 y.gc) (.slice none 0 0)
 have rV9 := eight_row ((kW.block V.heap.size (by omega) (fun e => hVW (Option.some.inj e))).trans rv) y
 have rW9 := (kV.block W.heap.size (by simp; omega) (fun e => hVW (Option.some.inj e).symm)).trans (hSs _ W.heap.size 2 _ _ (.slice (some ⟨x.b, 0, none⟩) 1 x.c) (hSs _ W.heap.size 1 _ _ (.int .i64 1) (hSs W2 W.heap.size 0 _ _ (.string (bs nm)) rq)))
 clear hfin kW kV
 go_region
 clear s0 s1 s2 y0 y1 y2 k0 k1 k2 k3 k4 k5 k6 k7 z0 z1 z2 z3 z4 z5 z6 z7 v0 v1 v2 v3 v4 v5 v6 v7 t0 t1 t2 rq rv GF
 have g9 := g0.mono (hi' := W2.heap.size) (by omega)
 have hz9 : W2.heap.size = (((((((((((W2.setCell ⟨W.heap.size, 0, none⟩ (.string (bs nm))).setCell ⟨W.heap.size, 1, none⟩ (.int .i64 1)).setCell ⟨W.heap.size, 2, none⟩ (.slice (some ⟨x.b, 0, none⟩) 1 x.c)).setCell ⟨V.heap.size, 0, none⟩ (.int .i64 0)).setCell ⟨V.heap.size, 1, none⟩ (.int .i64 1)).setCell ⟨V.heap.size, 2, none⟩ (.int .i64 1)).setCell ⟨V.heap.size, 3, none⟩ (.slice y.cA y.cn y.cc)).setCell ⟨V.heap.size, 4, none⟩ (.slice none 0 0)).setCell ⟨V.heap.size, 5, none⟩ (.slice none 0 0)).setCell ⟨V.heap.size, 6, none⟩ (.slice y.gA 1 y.gc)).setCell ⟨V.heap.size, 7, none⟩ (.slice none 0 0)).heap.size := by simp
 rw [hz9] at g9
 clear hz9 g0
 generalize (((((((((((W2.setCell ⟨W.heap.size, 0, none⟩ (.string (bs nm))).setCell ⟨W.heap.size, 1, none⟩ (.int .i64 1)).setCell ⟨W.heap.size, 2, none⟩ (.slice (some ⟨x.b, 0, none⟩) 1 x.c)).setCell ⟨V.heap.size, 0, none⟩ (.int .i64 0)).setCell ⟨V.heap.size, 1, none⟩ (.int .i64 1)).setCell ⟨V.heap.size, 2, none⟩ (.int .i64 1)).setCell ⟨V.heap.size, 3, none⟩ (.slice y.cA y.cn y.cc)).setCell ⟨V.heap.size, 4, none⟩ (.slice none 0 0)).setCell ⟨V.heap.size, 5, none⟩ (.slice none 0 0)).setCell ⟨V.heap.size, 6, none⟩ (.slice y.gA 1 y.gc)).setCell ⟨V.heap.size, 7, none⟩ (.slice none 0 0)) = F at *
 have g10 : VerR F.drew F.drew.heap.size ⟨cr, .cmp p q, py⟩ y := ⟨g9.cr, g9.gr⟩
 have hb10 := hb9.drew
 have rV10 : F.drew.heap[V.heap.size]? = some (verBox y) := rV9
 have rW10 : F.drew.heap[W.heap.size]? = some (stBox nm x) := rW9
 clear g9 hb9 rV9 rW9
 generalize F.drew = G at *
 obtain ⟨s0, s1, s2⟩ := stbox rW10
 obtain ⟨v0, v1, v2, v3, v4, v5, v6, v7⟩ := verbox rV10
 clear rV10 rW10
 go_wp2_with fail
 exact bodyPost_ret (v := .tuple #[x.agg nm, y.agg, .int .i64 0]) (by simp [results, Tryz.f34, go_sem, St.agg, Vs.agg, s0, s1, s2, v0, v1, v2, v3, v4, v5, v6, v7]) rfl ⟨y, rfl, g10, hb10⟩
end
end Go.Proofs.YtnlopdmhdiegnaaGreatDoor
