/- Lemmas (no conditions): Fact, SpPw, SpPs, SpNs -/
import Derived.Lib.Bytealg
import Derived.Lib.SortBridge
import Derived.Lib.RowBridge
import Derived.Test.YtnlopdmhdiegnaaGreatDoorPk07
set_option linter.unusedSimpArgs false
set_option linter.unusedVariables false
set_option maxRecDepth 100000
set_option maxHeartbeats 64000000
namespace Go.Proofs.YtnlopdmhdiegnaaGreatDoor
open Go.RowKit
section
structure Fc where
 i : Int
 n : Int
 v : Int
 g : Bool
 p : Int
 k : Int
 s : Int
 f : Int
 t : Int
 e : Int
 h : Int
 c : Int
 a : Int
 r : Int
def useL (k : Int) : List UInt8 :=
 if k = 1 then [83, 80, 84, 72, 67, 65]
 else if k = 2 then [83, 80, 72, 67, 65]
 else if k = 3 then [83, 80, 72, 67, 65]
 else if k = 4 then [83, 80, 84]
 else if k = 5 then [83, 80]
 else if k = 6 then [83, 80, 67, 65]
 else if k = 7 then [83, 80]
 else if k = 8 then [83, 80]
 else if k = 9 then [83, 80]
 else if k = 10 then [83, 80, 82]
 else if k = 11 then [80]
 else if k = 12 then [80]
 else if k = 13 then [80]
 else if k = 14 then [80, 82]
 else []
theorem kinds {k : Int} (h1 : 1 <= k) (h2 : k <= 14) : k = 1 ∨ k = 2 ∨ k = 3 ∨ k = 4 ∨ k = 5 ∨ k = 6 ∨ k = 7 ∨ k = 8 ∨ k = 9 ∨ k = 10 ∨ k = 11 ∨ k = 12 ∨ k = 13 ∨ k = 14 := by omega
def FldOk (U : List UInt8) (l : UInt8) (x lo hi : Int) : Prop := (l ∈ U -> lo <= x /\ x <= hi) /\ (l ∉ U -> x = 0)
structure Vld (x : Fc) : Prop where
 i : 0 <= x.i /\ x.i <= 5
 n : 1 <= x.n /\ x.n <= 999
 v : 1 <= x.v /\ x.v <= 99
 p : 1 <= x.p /\ x.p <= 99
 k : 1 <= x.k /\ x.k <= 14
 sp : 0 <= x.f /\ x.f < x.t /\ x.t <= 73049
 s : FldOk (useL x.k) 83 x.s 0 5
 e : FldOk (useL x.k) 84 x.e 0 5
 h : FldOk (useL x.k) 72 x.h 1 100
 c : FldOk (useL x.k) 67 x.c 1 999
 a : FldOk (useL x.k) 65 x.a 0 1000000000
 r : FldOk (useL x.k) 82 x.r 1 99
 q4 : x.k = 4 -> x.s ≠ x.e
 q1 : x.k = 11 ∨ x.k = 12 -> x.t = x.f + 1
 q2 : x.k = 10 ∨ x.k = 14 -> x.r ≠ x.p
theorem FldOk.bd {U : List UInt8} {l : UInt8} {x lo hi : Int} (h : FldOk U l x lo hi) (hlo : 0 <= lo) (hhi : 0 <= hi) : 0 <= x /\ x <= hi := by
 by_cases hm : l ∈ U
 ·have := h.1 hm
  omega
 ·have := h.2 hm
  omega
def stepD (k : Int) (o : Option Int) (x : Fc) : Option Int := if (!x.g && x.k == k) = true then (match o with | none => some x.f | some d => if x.f < d then some x.f else some d) else o
def firD (k : Int) (L : List Fc) : Option Int := L.foldl (stepD k) none
theorem firD_snoc (k : Int) (L : List Fc) (x : Fc) : firD k (L ++ [x]) = stepD k (firD k L) x := by
 unfold firD
 rw [List.foldl_append]
 rfl
theorem firD_take {k : Int} {L : List Fc} {j : Nat} {x : Fc} (h : L[j]? = some x) : firD k (L.take (j + 1)) = stepD k (firD k (L.take j)) x := by
 rw [List.take_add_one, h]
 exact firD_snoc _ _ _
end
section
structure Pw where
 p : Pc
 a : Option Addr
 c : Nat
def Pw.cells (x : Pw) : List Value := [.int .i64 x.p.f, .int .i64 x.p.t, .slice x.a x.p.m.length x.c]
theorem pw_len (x : Pw) : x.cells.length = 3 := rfl
theorem pw_flen (l : List Pw) : (flat Pw.cells l).length = l.length * 3 := flat_length pw_len l
theorem info_piece : (Tryz.prog.info? 319).map (fun i => (i.zero, i.size, i.bytes)) = some (some (.agg #[.int .i64 0, .int .i64 0, .slice none 0 0]), 3, 40) := by kernel_rfl
theorem info_lists : (Tryz.prog.info? 180).map (fun i => (i.zero, i.size, i.bytes)) = some (some (.slice none 0 0), 1, 24) := by kernel_rfl
theorem own_apart {w : World} {base base' e e' sz sz' n n' : Nat} {v v' : Value} {xs xs' : List Value} (h : w.ownsRow base e sz v n xs) (h' : w.ownsRow base' e' sz' v' n' xs') (hne : e ≠ e') : v.ownBlock = none ∨ v.ownBlock ≠ v'.ownBlock := by
 rcases h.2 with ⟨rfl, _⟩ | ⟨g, cap, cur, rfl, _, hg, _⟩
 ·exact .inl rfl
 ·refine .inr ?_
  rcases h'.2 with ⟨rfl, _⟩ | ⟨g', cap', cur', rfl, _, hg', _⟩
  ·simp [Value.ownBlock]
  ·intro e2
   have e3 : g = g' := by simpa [Value.ownBlock] using e2
   rw [e3, hg'] at hg
   injection hg with hg
   injection hg with _ ht
   exact hne ht.symm
theorem own_under {w w' : World} {base e sz n : Nat} {v : Value} {xs : List Value} (h : w.ownsRow base e sz v n xs) (hb : Below w.heap.size w w') : w'.ownsRow base e sz v n xs :=
 h.kept (row := none) (grownBy_of_below hb none) (Classical.em _)
theorem own_setCell_apart {w : World} {base base' e e' sz sz' n n' : Nat} {v v' : Value} {xs xs' : List Value} (h : w.ownsRow base e sz v n xs) (h' : w.ownsRow base' e' sz' v' n' xs') (hne : e ≠ e') {p : Addr} (hp : v'.ownBlock = some p.block) (u : Value) : (w.setCell p u).ownsRow base e sz v n xs := by
 rcases own_apart h h' hne with h1 | h1
 ·exact h.kept (row := some p.block) ⟨rfl, rfl, rfl, by simp, fun k _ hk => heap_setCell_other w p k u (fun e => hk (by rw [e]))⟩ (.inl h1)
 ·exact ownsRow_setCell_ne h (by rw [<- hp]; exact h1) u
def Mr (w : World) (base : Nat) (x : Pw) : Prop := w.ownsRow base 3 1 (.slice x.a x.p.m.length x.c) x.p.m.length (ints x.p.m)
def Pws (w : World) (base : Nat) (v : Value) (X : List Pw) : Prop := w.ownsRow base 319 3 v X.length (flat Pw.cells X) /\ ∀ x ∈ X, Mr w base x
theorem Pws.nil (w : World) (base : Nat) : Pws w base (.slice none 0 0) [] := ⟨World.ownsRow_nil _ _ _ _, by simp⟩
theorem Pws.under {w w' : World} {base : Nat} {v : Value} {X : List Pw} (h : Pws w base v X) (hb : Below w.heap.size w w') : Pws w' base v X := ⟨own_under h.1 hb, fun x hx => own_under (h.2 x hx) hb⟩
theorem Pws.base {w : World} {base base' : Nat} {v : Value} {X : List Pw} (h : Pws w base v X) (hb : base' <= base) : Pws w base' v X := ⟨ownsRow_base h.1 hb, fun x hx => ownsRow_base (h.2 x hx) hb⟩
theorem Pws.grown {w w' : World} {base : Nat} {v v' : Value} {X : List Pw} {x : Pw} (h : Pws w base v X) (hx : Mr w base x) (hg : w.grownBy w' v.ownBlock) (h' : w'.ownsRow base 319 3 v' (X.length + 1) (flat Pw.cells X ++ x.cells)) : Pws w' base v' (X ++ [x]) := by
 refine ⟨?_, fun y hy => ?_⟩
 ·rw [List.length_append, flat_append, flat_one]
  exact h'
 ·rcases List.mem_append.1 hy with hy | hy
  ·exact (h.2 y hy).kept hg (own_apart (h.2 y hy) h.1 (by decide))
  ·rw [List.mem_singleton.1 hy]
   exact hx.kept hg (own_apart hx h.1 (by decide))
theorem flat_set_end (X : List Pw) (q : Pw) (b : Int) : (flat Pw.cells (X ++ [q])).set (X.length * 3 + 1) (.int .i64 b) = flat Pw.cells (X ++ [⟨⟨q.p.f, b, q.p.m⟩, q.a, q.c⟩]) := by
 rw [flat_append, flat_append, flat_one, flat_one, List.set_append_right _ _ (by rw [pw_flen]; omega), pw_flen, show X.length * 3 + 1 - X.length * 3 = 1 by omega]
 rfl
theorem Pws.setEnd {w : World} {base g n c : Nat} {X : List Pw} {q : Pw} (h : Pws w base (.slice (some ⟨g, 0, none⟩) n c) (X ++ [q])) (b : Int) : Pws (w.setCell ⟨g, X.length * 3 + 1, none⟩ (.int .i64 b)) base (.slice (some ⟨g, 0, none⟩) n c) (X ++ [⟨⟨q.p.f, b, q.p.m⟩, q.a, q.c⟩]) := by
 have hn : n = (X ++ [q]).length := by
  rcases h.1.2 with ⟨e, _⟩ | ⟨g', cap, cur, e, _⟩
  ·cases e
  ·injection e
 subst hn
 refine ⟨?_, fun y hy => ?_⟩
 ·have h1 := (h.1.stored (X.length * 3 + 1) (.int .i64 b)).1
  rw [flat_set_end] at h1
  simpa using h1
 ·have hy2 : Mr w base y := by
   rcases List.mem_append.1 hy with hy | hy
   ·exact h.2 y (by simp [hy])
   ·rw [List.mem_singleton.1 hy]
    exact h.2 q (by simp)
  exact own_setCell_apart hy2 h.1 (by decide) (p := ⟨g, X.length * 3 + 1, none⟩) rfl _
theorem pw_cells {w : World} {B n : Nat} {A : Option Addr} {X : List Pw} (h : Rd w B 3 A n (flat Pw.cells X)) {k : Nat} {x : Pw} (hx : X[k]? = some x) :
  k < n /\ ∃ b o, A = some ⟨b, o, none⟩ /\ b < B /\ w.cell? ⟨b, o + k * 3, none⟩ = some (.int .i64 x.p.f) /\ w.cell? ⟨b, o + k * 3 + 1, none⟩ = some (.int .i64 x.p.t) /\ w.cell? ⟨b, o + k * 3 + 2, none⟩ = some (.slice x.a x.p.m.length x.c) := by
 obtain ⟨hk, b, o, e, hb, hc⟩ := h.elem pw_len hx (by omega)
 exact ⟨hk, b, o, e, hb, by simpa using hc 0 _ rfl, hc 1 _ rfl, hc 2 _ rfl⟩
def RetPc (w : World) (L : List Pc) (e : Ending) (w' : World) : Prop :=
 ∃ A c X, e = .returned (.slice A L.length c) /\ X.map Pw.p = L /\ Pws w' w.heap.size (.slice A L.length c) X /\ Below w.heap.size w w'
theorem addP_map (X : List Pw) (q : Pw) (a b : Int) (m : List Int) : addP ((X ++ [q]).map Pw.p) a b m = if m = [] then (X ++ [q]).map Pw.p else if q.p.t = a /\ q.p.m = m then X.map Pw.p ++ [⟨q.p.f, b, q.p.m⟩] else (X ++ [q]).map Pw.p ++ [⟨a, b, m⟩] := by
 rw [List.map_append, List.map_cons, List.map_nil, addP_snoc]
 split
 ·rfl
 ·split
  ·rename_i h
   rw [h.2]
  ·simp
end
section
open Go.Sort (Holds grow putRow mapBlock onCells)
def sortI (zs : List Int) : List Int := zs.mergeSort fun x y => decide (x <= y)
theorem sortI_length (zs : List Int) : (sortI zs).length = zs.length := List.length_mergeSort zs
theorem mem_sortI (zs : List Int) (x : Int) : x ∈ sortI zs ↔ x ∈ zs := List.mem_mergeSort
theorem sortI_le (zs : List Int) : (sortI zs).Pairwise (· <= ·) := by
 have h1 : (sortI zs).Pairwise (fun x y => decide (x <= y) = true) := List.pairwise_mergeSort (fun a b c h1 h2 => by simp at *; omega) (fun a b => by simp; omega) zs
 exact h1.imp fun h => by simpa using h
theorem get_bang {zs : List Int} {j : Nat} (h : j < zs.length) : zs.toArray[j]! = zs[j] := by simp [h]
theorem compact_upto {zs : List Int} (hs : zs.Pairwise (· <= ·)) : ∀ m : Nat, m <= zs.length -> (∀ x ∈ Lib.compactUpTo zs.toArray m, ∃ j, j < m /\ zs.toArray[j]! = x) /\ (∀ j, j < m -> zs.toArray[j]! ∈ Lib.compactUpTo zs.toArray m) /\ (Lib.compactUpTo zs.toArray m).Pairwise (· < ·)
 | 0, _ => by simp [Lib.compactUpTo]
 | m + 1, hm => by
  obtain ⟨h1, h2, h3⟩ := compact_upto hs m (by omega)
  have hle : ∀ i j, i <= j -> j < zs.length -> zs.toArray[i]! <= zs.toArray[j]! := fun i j hij hj => by
   rw [get_bang (by omega), get_bang hj]
   by_cases e : i = j
   ·subst e; exact Int.le_refl _
   ·exact List.pairwise_iff_getElem.1 hs i j (by omega) hj (by omega)
  rw [Lib.compactUpTo_succ]
  cases hk : Lib.keeps zs.toArray m with
  | true =>
   simp only [if_true]
   refine ⟨fun x hx => ?_, fun j hj => ?_, ?_⟩
   ·rcases List.mem_append.1 hx with hx | hx
    ·obtain ⟨j, hj, e⟩ := h1 x hx
     exact ⟨j, by omega, e⟩
    ·exact ⟨m, by omega, (List.mem_singleton.1 hx).symm⟩
   ·by_cases e : j = m
    ·subst e; simp
    ·exact List.mem_append.2 (.inl (h2 j (by omega)))
   ·rw [List.pairwise_append]
    refine ⟨h3, List.pairwise_singleton _ _, fun x hx y hy => ?_⟩
    rw [List.mem_singleton.1 hy]
    obtain ⟨j, hj, e⟩ := h1 x hx
    have hne : zs.toArray[m]! ≠ zs.toArray[m - 1]! := fun he => by rw [Lib.keeps_neg (by omega) he] at hk; cases hk
    have a1 := hle j (m - 1) (by omega) (by omega)
    have a2 := hle (m - 1) m (by omega) (by omega)
    omega
  | false =>
   simp only [Bool.false_eq_true, if_false, List.append_nil]
   have hm0 : 0 < m := by
    rcases Nat.eq_zero_or_pos m with e | e
    ·subst e
     rw [Lib.keeps_lt_one zs.toArray 0 (by omega)] at hk
     cases hk
    ·exact e
   have he : zs.toArray[m]! = zs.toArray[m - 1]! := by
    by_cases he : zs.toArray[m]! = zs.toArray[m - 1]!
    ·exact he
    ·rw [Lib.keeps_pos he] at hk
     cases hk
   refine ⟨fun x hx => ?_, fun j hj => ?_, h3⟩
   ·obtain ⟨j, hj, e⟩ := h1 x hx
    exact ⟨j, by omega, e⟩
   ·by_cases e : j = m
    ·subst e
     rw [he]
     exact h2 (j - 1) (by omega)
    ·exact h2 j (by omega)
theorem compact_ok {zs : List Int} (hs : zs.Pairwise (· <= ·)) : (∀ x, x ∈ Lib.compact zs ↔ x ∈ zs) /\ (Lib.compact zs).Pairwise (· < ·) := by
 obtain ⟨h1, h2, h3⟩ := compact_upto hs zs.length (Nat.le_refl _)
 refine ⟨fun x => ⟨fun hx => ?_, fun hx => ?_⟩, h3⟩
 ·obtain ⟨j, hj, e⟩ := h1 x hx
  rw [<- e, get_bang hj]
  exact List.getElem_mem _
 ·obtain ⟨j, hj⟩ := List.getElem?_of_mem hx
  obtain ⟨hl, he⟩ := List.getElem?_eq_some_iff.1 hj
  have := h2 j hl
  rw [get_bang hl, he] at this
  exact this
theorem compact_length (zs : List Int) : (Lib.compact zs).length <= zs.length := by
 unfold Lib.compact Lib.compactUpTo
 rw [List.length_map]
 exact Nat.le_trans (List.length_filter_le _ _) (by simp)
theorem sortI_cut {ls : List Int} : ∀ x, x ∈ Lib.compact (sortI ls) ↔ x ∈ ls := fun x => ((compact_ok (sortI_le ls)).1 x).trans (mem_sortI ls x)
def Hs (w : World) (A : Option Addr) (zs : List Int) : Prop := zs = [] ∨ ∃ g, A = some ⟨g, 0, none⟩ /\ Holds (Value.int .i64) w g 0 zs.toArray /\ g < w.heap.size
theorem sort_cuts {w : World} {base c : Nat} {A : Option Addr} {zs : List Int} (h : w.ownsRow base 3 1 (.slice A zs.length c) zs.length (ints zs)) (hsm : zs.length <= 1000000) :
  Calls Tryz.prog 125 #[.slice A zs.length c] w fun e w' => e = .returned (.tuple #[]) /\ Hs w' A (sortI zs) /\ w.grownBy w' (Value.slice A zs.length c).ownBlock := by
 by_cases hz : zs = []
 ·subst hz
  refine (Tryz.slices_Sort_int_none A c w).mono ?_
  rintro e w' ⟨rfl, rfl⟩
  exact ⟨rfl, .inl (by unfold sortI; simp), World.grownBy.refl _ _⟩
 ·rcases h.2 with ⟨_, h0⟩ | ⟨g, cap, cur, hv, hbg, hg, hnc, hcm, hcs, ht⟩
  ·exact absurd (List.eq_nil_of_length_eq_zero h0) hz
  ·injection hv with hA _ hc
   subst hA; subst hc
   have hlt : g < w.heap.size := (gis hg).1
   have hcell : ∀ j, j < zs.length -> w.cell? ⟨g, 0 + j, none⟩ = some (.int .i64 (zs.getD j 0)) := by
    intro j hj
    have hx : (ints zs)[j]? = some (.int .i64 (zs.getD j 0)) := by
     rw [ints_at, List.getElem?_eq_getElem hj]
     simp [List.getD, hj]
    have hc := h.cells (g := g) rfl j _ hx
    rwa [addAt] at hc
   have hfr : ∀ j, j < zs.length -> w.frozen? ⟨g, 0 + j, none⟩ = false := fun j _ => frozen_of_row w g _ _ _ hg
   have hH : Holds (Value.int .i64) w g 0 zs.toArray := by
    have := Lib.holds_of_ints (n := zs.length) (Nat.le_refl _) hcell hfr
    rwa [List.take_length] at this
   refine (Tryz.slices_Sort_int g 0 c zs w hH hlt (by omega)).mono ?_
   rintro e w' ⟨rfl, q, os, rfl⟩
   have hs : (putRow (Value.int .i64) (Sort.ahead w q) g 0 (zs.mergeSort fun x y => decide (x <= y)).toArray).heap.size = w.heap.size := by simp [putRow, mapBlock, Sort.ahead]
   have hsl : (sortI zs).length = zs.length := sortI_length zs
   refine ⟨rfl, .inr ⟨g, rfl, ?_, by rw [Sort.size_grow, hs]; omega⟩, ?_⟩
   ·exact Sort.holds_grow (Value.int .i64) _ os g 0 (sortI zs).toArray (by rw [hs]; exact hlt) (Sort.holds_putRow (Value.int .i64) (Sort.ahead w q) g 0 zs.toArray (sortI zs).toArray hH (by simpa using hsl))
   ·refine ⟨rfl, rfl, rfl, by rw [Sort.size_grow, hs]; omega, fun k hk hne => ?_⟩
    rw [Sort.heap_grow_old _ _ (by rw [hs]; omega)]
    have hne : g ≠ k := fun e => hne (by rw [<- e]; rfl)
    simp [putRow, mapBlock, Sort.ahead, Array.getElem?_modify, hne]
theorem compact_cuts {w : World} {c n : Nat} {A : Option Addr} {zs : List Int} (h : Hs w A zs) (hn : zs.length = n) (hsm : n <= 1000000) (hc : n <= c) :
  Calls Tryz.prog 126 #[.slice A n c] w fun e w' => e = .returned (.slice A (Lib.compact zs).length c) /\ Rd w' w'.heap.size 1 A (Lib.compact zs).length (ints (Lib.compact zs)) /\ w.grownBy w' (Value.slice A n c).ownBlock := by
 subst hn
 rcases h with rfl | ⟨g, rfl, hH, hg⟩
 ·refine (Tryz.slices_Compact_int_empty A c w).mono ?_
  rintro e w' ⟨rfl, rfl⟩
  have e0 : Lib.compact [] = [] := List.eq_nil_of_length_eq_zero (by have := compact_length []; simpa using this)
  rw [e0]
  exact ⟨rfl, Rd.zero _ _ _ _, World.grownBy.refl _ _⟩
 ·refine (Tryz.slices_Compact_int g 0 c zs w hH (by omega) hc).mono ?_
  rintro e w' ⟨rfl, q, rfl⟩
  have hs : (putRow (Value.int .i64) (Sort.ahead w q) g 0 (Lib.compact zs ++ List.replicate (zs.length - (Lib.compact zs).length) 0).toArray).heap.size = w.heap.size := by simp [putRow, mapBlock, Sort.ahead]
  have hcl := compact_length zs
  refine ⟨rfl, ⟨by rw [ints_length]; simp, fun hn => ⟨g, 0, rfl, by rw [hs]; exact hg, fun j u hu => ?_⟩⟩, ?_⟩
  ·have hp := Sort.holds_putRow (Value.int .i64) (Sort.ahead w q) g 0 zs.toArray (Lib.compact zs ++ List.replicate (zs.length - (Lib.compact zs).length) 0).toArray hH (by simp; omega)
   have hj : j < (Lib.compact zs).length := by
    have := (List.getElem?_eq_some_iff.1 hu).1
    simpa [ints] using this
   have h1 := (hp j (by simp; omega)).1
   rw [h1]
   rw [ints_at, List.getElem?_eq_getElem hj] at hu
   rw [<- Option.some.inj hu]
   congr 2
   have hj2 : j < (Lib.compact zs ++ List.replicate (zs.length - (Lib.compact zs).length) 0).length := by rw [List.length_append]; omega
   rw [get_bang hj2, List.getElem_append_left hj]
  ·refine ⟨rfl, rfl, rfl, by rw [hs]; omega, fun k hk hne => ?_⟩
   have hne : g ≠ k := fun e => hne (by rw [<- e]; rfl)
   simp [putRow, mapBlock, Sort.ahead, Array.getElem?_modify, hne]
theorem own_int {w : World} {base n c : Nat} {A : Option Addr} {xs : List Int} (h : w.ownsRow base 3 1 (.slice A n c) n (ints xs)) (h0 : xs ≠ []) :
  n = xs.length /\ ∃ g, A = some ⟨g, 0, none⟩ /\ g < w.heap.size /\ ∀ j, j < xs.length -> w.cell? ⟨g, 0 + j, none⟩ = some (.int .i64 (xs.getD j 0)) := by
 have hl : xs.length = n := by have := h.1; rw [ints_length] at this; omega
 rcases h.2 with ⟨_, h1⟩ | ⟨g, cap, cur, hv, hbg, hg, _⟩
 ·exact absurd (List.eq_nil_of_length_eq_zero (by omega)) h0
 ·injection hv with hA _ _
  subst hA
  refine ⟨hl.symm, g, rfl, (gis hg).1, fun j hj => ?_⟩
  have hx : (ints xs)[j]? = some (.int .i64 (xs.getD j 0)) := by
   rw [ints_at, List.getElem?_eq_getElem hj]
   simp [List.getD, hj]
  have hc := h.cells (g := g) rfl j _ hx
  rwa [addAt] at hc
theorem equal_rows {w : World} {base base' n n' c c' : Nat} {A A' : Option Addr} {xs ys : List Int} (h : w.ownsRow base 3 1 (.slice A n c) n (ints xs)) (h' : w.ownsRow base' 3 1 (.slice A' n' c') n' (ints ys)) (hx : xs ≠ []) (hy : ys ≠ []) (h1 : n <= 1000000) (h2 : n' <= 1000000) :
  Calls Tryz.prog 238 #[.slice A n c, .slice A' n' c'] w fun e w' => e = .returned (.bool (decide (xs = ys))) /\ ∃ q, w' = w.drewN q := by
 obtain ⟨rfl, g, rfl, _, hc⟩ := own_int h hx
 obtain ⟨rfl, g', rfl, _, hc'⟩ := own_int h' hy
 refine (Tryz.slices_Equal_int g 0 xs.length c g' 0 ys.length c' xs ys w (Nat.le_refl _) (Nat.le_refl _) (by omega) (by omega) hc hc').mono ?_
 rintro e w' ⟨rfl, hq⟩
 refine ⟨ret_bool ?_, hq⟩
 rw [List.take_length, List.take_length, Bool.eq_iff_iff]
 simp
theorem equal_rows_q {w : World} {base base' n n' c c' : Nat} {A A' : Option Addr} {xs ys : List Int} {b : Bool} (h : w.ownsRow base 3 1 (.slice A n c) n (ints xs)) (h' : w.ownsRow base' 3 1 (.slice A' n' c') n' (ints ys)) (hx : xs ≠ []) (hy : ys ≠ []) (h1 : n <= 1000000) (h2 : n' <= 1000000) (hb : decide (xs = ys) = b) (q : Nat) :
  Calls Tryz.prog 238 #[.slice A n c, .slice A' n' c'] (w.drewN q) fun e w' => e = .returned (.bool b) /\ ∃ m, w' = w.drewN m := by
 subst hb
 have hq : (w.drewN q).ownsRow base 3 1 (.slice A n c) n (ints xs) := h
 have hq' : (w.drewN q).ownsRow base' 3 1 (.slice A' n' c') n' (ints ys) := h'
 exact Calls.quiet_of (equal_rows hq hq' hx hy h1 h2)
end
section
def Nv (w : World) (B : Nat) (v : Value) (l : List Sp) : Prop := ∃ A c, v = .slice A l.length c /\ Rd w B 2 A l.length (flat Sp.cells l)
def Ns (w : World) (B : Nat) (vs : List Value) (ls : List (List Sp)) : Prop := vs.length = ls.length /\ ∀ (i : Nat) (v : Value) (l : List Sp), vs[i]? = some v -> ls[i]? = some l -> Nv w B v l
theorem Nv.below {w w' : World} {B : Nat} {v : Value} {l : List Sp} (h : Nv w B v l) (hb : Below B w w') : Nv w' B v l := by
 obtain ⟨A, c, e, hr⟩ := h
 exact ⟨A, c, e, hr.below hb⟩
theorem Nv.mono {w : World} {B B' : Nat} {v : Value} {l : List Sp} (h : Nv w B v l) (hB : B <= B') : Nv w B' v l := by
 obtain ⟨A, c, e, hr⟩ := h
 exact ⟨A, c, e, hr.mono hB⟩
theorem Nv.grown {w w' : World} {B : Nat} {v : Value} {l : List Sp} {row : Option Nat} (h : Nv w B v l) (hg : w.grownBy w' row) (hB : B <= w.heap.size) (hr : ∀ g, row = some g -> B <= g) : Nv w' B v l := by
 obtain ⟨A, c, e, hrd⟩ := h
 exact ⟨A, c, e, hrd.grown hg hB hr⟩
theorem Ns.nil (w : World) (B : Nat) : Ns w B [] [] := ⟨rfl, fun i v l h => by simp at h⟩
theorem Ns.below {w w' : World} {B : Nat} {vs : List Value} {ls : List (List Sp)} (h : Ns w B vs ls) (hb : Below B w w') : Ns w' B vs ls := ⟨h.1, fun i v l h1 h2 => (h.2 i v l h1 h2).below hb⟩
theorem Ns.mono {w : World} {B B' : Nat} {vs : List Value} {ls : List (List Sp)} (h : Ns w B vs ls) (hB : B <= B') : Ns w B' vs ls := ⟨h.1, fun i v l h1 h2 => (h.2 i v l h1 h2).mono hB⟩
theorem Ns.snoc {w : World} {B : Nat} {vs : List Value} {ls : List (List Sp)} {v : Value} {l : List Sp} (h : Ns w B vs ls) (hv : Nv w B v l) : Ns w B (vs ++ [v]) (ls ++ [l]) := by
 refine ⟨by simp [h.1], fun i u k h1 h2 => ?_⟩
 by_cases hi : i < vs.length
 ·rw [List.getElem?_append_left hi] at h1
  rw [List.getElem?_append_left (by rw [<- h.1]; exact hi)] at h2
  exact h.2 i u k h1 h2
 ·rw [List.getElem?_append_right (by omega)] at h1
  rw [List.getElem?_append_right (by rw [<- h.1]; omega), <- h.1] at h2
  have := (List.getElem?_eq_some_iff.1 h1).1
  have h0 : i - vs.length = 0 := by simp at this; omega
  rw [h0] at h1 h2
  simp at h1 h2
  subst h1 h2
  exact hv
theorem Ns.set {w : World} {B k : Nat} {vs : List Value} {ls : List (List Sp)} {v : Value} {l : List Sp} (h : Ns w B vs ls) (hv : Nv w B v l) : Ns w B (vs.set k v) (ls.set k l) := by
 refine ⟨by simp [h.1], fun i u q h1 h2 => ?_⟩
 by_cases hk : k = i
 ·subst hk
  have l1 := (List.getElem?_eq_some_iff.1 h1).1
  have l2 := (List.getElem?_eq_some_iff.1 h2).1
  rw [List.length_set] at l1 l2
  rw [List.getElem?_set_self l1] at h1
  rw [List.getElem?_set_self l2] at h2
  cases h1
  cases h2
  exact hv
 ·rw [List.getElem?_set_ne hk] at h1 h2
  exact h.2 i u q h1 h2
end
end Go.Proofs.YtnlopdmhdiegnaaGreatDoor
