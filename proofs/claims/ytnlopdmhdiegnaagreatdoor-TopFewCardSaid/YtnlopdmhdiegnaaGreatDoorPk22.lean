/- Lemmas (no conditions): TrC -/
import Derived.RangeFuncNested
import Derived.RangeFuncBound
import Derived.RangeFuncCalls
import Derived.Shelf.RegionOpen
import Derived.Test.YtnlopdmhdiegnaaGreatDoorPk08
import Derived.Test.YtnlopdmhdiegnaaGreatDoorPk20
set_option linter.unusedSimpArgs false
set_option linter.unusedVariables false
set_option maxRecDepth 100000
set_option maxHeartbeats 64000000
namespace Go.Proofs.YtnlopdmhdiegnaaGreatDoor
open Go.RowKit
section
open Go.RowKit Go.Shelf
attribute [local go_sem] Oper.semAt_some
theorem backward_in (F : Fence) (n : Nat) (h5 : F.fn 65) (hro : F.round = none) (a : Option Addr) (len cap : Nat) (w : World) :
  CallsIn F n Tryz.prog 65 #[.slice a len cap] w fun e w' => e = .returned (.func (.func 117) #[] #[.pointer (some ⟨w.heap.size, 0, none⟩)]) /\ w' = w.alloc (.cells #[.slice a len cap] 25) := by
 refine callsIn_of_wp Tryz.func65 rfl h5 ?_ hro
 simp only [Tryz.ntmps65, List.size_toArray, List.length_cons, List.length_nil, Nat.reduceAdd, Nat.reduceSub, Array.replicate_succ, Array.replicate_zero, List.push_toArray, List.append_toArray, List.nil_append, List.cons_append]
 gi_wp2
 go_ret
 exact ⟨rfl, rfl⟩
theorem backward_stops (F : Fence) (n : Nat) (h8 : F.fn 117) (hro : F.round = none) (hn : 1 <= n) (Bs n₀ len cap : Nat) (A : Option Addr) (X : List Rv) (hreach : len <= 1000000) (w : World) (hBs : Bs < n₀) (hn₀ : n₀ <= w.heap.size)
  (hc : w.cell? ⟨Bs, 0, none⟩ = some (.slice A len cap)) (hX : Rus w n₀ A len X) :
  SeqStopsK F n Tryz.prog 117 #[.pointer (some ⟨Bs, 0, none⟩)] (fun x : Nat × {x : Rv // x ∈ X} => #[Value.int .i64 (x.1 : Int), x.2.1.agg]) (Below n₀) (fun ys => strp ys = bwd X len)
   (fun pre => ∃ k, k <= len /\ strp pre = bwd X k) len w := fun l J Jx W hW _ _ hY h0 => by
 have hW' := hW.mono hn₀
 have hc' := (hW'.cell (p := ⟨Bs, 0, none⟩) hBs).trans hc
 exact backward1_in F n h8 hro hn l Bs n₀ len cap A X hreach J Jx hY W hc' hBs (hX.below hW') h0
def RetAt (w : World) (o : Option Ru) (e : Ending) (w' : World) : Prop := Below w.heap.size w w' /\ match o with
 | some r => ∃ (a : Option Addr) (c : Nat), e = .returned (.tuple #[(⟨r, a, c⟩ : Rv).agg, .bool true]) /\ w'.ownsRow w.heap.size 3 1 (.slice a r.m.length c) r.m.length (ints r.m)
 | none => e = .returned (.tuple #[(⟨⟨0, 0, 0, 0, []⟩, none, 0⟩ : Rv).agg, .bool false])
theorem clone_rd {a : Option Addr} {n c B : Nat} {m : List Int} {w : World} (h : Rd w B 1 a n (ints m)) (hn : n <= 17592186044416) :
  Calls Tryz.prog 66 #[.slice a n c] w fun e w' => ∃ a' c', e = .returned (.slice a' n c') /\ w'.ownsRow w.heap.size 3 1 (.slice a' n c') n (ints m) /\ Below w.heap.size w w' := by
 have hl := h.len1
 by_cases h0 : 0 < n
 ·obtain ⟨b, o, rfl, hb, hc⟩ := h.2 h0
  refine (Tryz.slices_Clone_int b o n c m w (by omega) (by omega) fun j hj => ?_).mono ?_
  ·obtain ⟨x, hx⟩ : ∃ x, m[j]? = some x := ⟨_, List.getElem?_eq_getElem hj⟩
   have := hc j (.int .i64 x) (by rw [ints_at, hx]; rfl)
   rw [this, List.getD_eq_getElem?_getD, hx]
   rfl
  ·rintro e w' ⟨v', rfl, hown, _, hbw⟩
   obtain ⟨a', c', rfl, _, _, _⟩ := own_form hown
   rw [List.take_of_length_le (by omega)] at hown
   exact ⟨a', c', rfl, hown, hbw⟩
 ·obtain rfl : n = 0 := by omega
  obtain rfl : m = [] := List.eq_nil_of_length_eq_zero hl
  cases a with
  | none =>
   refine (Tryz.slices_Clone_int_nil 0 c w).mono ?_
   rintro e w' ⟨rfl, rfl⟩
   exact ⟨none, 0, rfl, World.ownsRow_nil _ _ _ _, Below.refl _ _⟩
  | some a =>
   refine (Tryz.slices_Clone_int_zero a c w).mono ?_
   rintro e w' ⟨v', rfl, hown, _, hbw⟩
   obtain ⟨a', c', rfl, _, _, _⟩ := own_form hown
   exact ⟨a', c', rfl, hown, hbw⟩
theorem own_turn {w w' : World} {row : Option Nat} {base e sz n : Nat} {v : Value} {xs : List Value} (h : w.ownsRow base e sz v n xs) (hg : w.grownBy w' row) (hr : ∀ r, row = some r -> ∃ o : Obj, w.heap[r]? = some o /\ o.isCells = false) : w'.ownsRow base e sz v n xs := by
 refine h.kept hg ?_
 rcases h.2 with ⟨rfl, _⟩ | ⟨g, cap, cur, rfl, _, hgc, _⟩
 ·exact .inl rfl
 ·refine .inr fun e => ?_
  obtain ⟨o, ho, hc⟩ := hr g e.symm
  rw [hgc] at ho
  cases ho
  cases hc
theorem heap_turn {w w' : World} {row : Option Nat} {b : Nat} {cs : Array Value} {t : TypeId} {fr : Nat × Nat} (h : w.heap[b]? = some (.cells cs t fr)) (hg : w.grownBy w' row) (hr : ∀ r, row = some r -> ∃ o : Obj, w.heap[r]? = some o /\ o.isCells = false) : w'.heap[b]? = some (.cells cs t fr) := by
 refine (hg.block b (gis h).1 fun e => ?_).trans h
 obtain ⟨o, ho, hc⟩ := hr b e.symm
 rw [h] at ho
 cases ho
 cases hc
def Bef {X : List Rv} (d : Int) (pre : List (Nat × {x : Rv // x ∈ X})) : Prop := ∀ p ∈ pre, d < p.2.1.r.f
theorem keeps_below {W W' : World} (h : Below W.heap.size W W') : KeepsOthers W W' := ⟨h.size, fun k _ hk _ => (h.block k (gis hk).1).trans hk⟩
theorem atT_nothing {L : List Ru} {d : Int} (h : ∀ r ∈ L, d < r.f) : atT L d = none := by
 cases ha : atT L d with
 | none => rfl
 | some r =>
  obtain ⟨h1, h2, _⟩ := atT_mem ha
  have := h r h1
  omega
theorem atT_here {L : List Ru} {d : Int} {i : Nat} {r : Ru} (hd : isD d = true) (hi : L[i]? = some r) (hr : r.f <= d) (hl : ∀ (j : Nat) q, L[j]? = some q -> i < j -> d < q.f) : atT L d = some r := by
 have key : ∀ m, i + 1 + m <= L.length -> atT (L.take (i + 1 + m)) d = some r := by
  intro m
  induction m with
  | zero => intro _; rw [Nat.add_zero, atT_take hi hd, if_pos hr]
  | succ m ih =>
   intro hm
   obtain ⟨q, hq⟩ : ∃ q, L[i + 1 + m]? = some q := ⟨_, List.getElem?_eq_getElem (by omega)⟩
   rw [show i + 1 + (m + 1) = i + 1 + m + 1 by omega, atT_take hq hd, if_neg (by have := hl _ q hq (by omega); omega)]
   exact ih (by omega)
 have hil := (List.getElem?_eq_some_iff.1 hi).1
 have := key (L.length - (i + 1)) (by omega)
 rwa [List.take_of_length_le (by omega)] at this
theorem bwd_mem {X : List Rv} {k i : Nat} {x : Rv} (hx : X[i]? = some x) (h : X.length - 1 - i < k) : (i, x) ∈ bwd X k := by
 have hil := (List.getElem?_eq_some_iff.1 hx).1
 refine List.mem_map.2 ⟨X.length - 1 - i, List.mem_range.2 h, ?_⟩
 rw [show X.length - 1 - (X.length - 1 - i) = i by omega, hx]
 rfl
theorem bef_at {X : List Rv} {d : Int} {l : List (Nat × {x : Rv // x ∈ X})} {k i : Nat} {x : Rv} (h : Bef d l) (hl : strp l = bwd X k) (hx : X[i]? = some x) (hk : X.length - 1 - i < k) : d < x.r.f := by
 have hm := bwd_mem hx hk
 rw [<- hl] at hm
 obtain ⟨p, hp, e⟩ := List.mem_map.1 hm
 have h2 := h p hp
 injection e with e1 e2
 rw [<- e2]
 exact h2
theorem tat_in (F : Fence) (n : Nat) (hF : ∀ f, F.fn f) (hro : F.round = none) (hn : 5 <= n) (A : Option Addr) (len cap : Nat) (X : List Rv) (d : Int) (hreach : len <= 1000000) (hml : ∀ x ∈ X, x.r.m.length <= 17592186044416) (w : World) (hX : Rus w w.heap.size A len X) (hd : isD d = true) (hv : ∀ (m : Nat) (W : World), CallsIn F m Tryz.prog 64 #[.int .i64 d] W fun e w' => e = .returned (.bool true) /\ W = w')
  (hcl : ∀ (m : Nat) (W : World) (a : Option Addr) (n c B : Nat) (l : List Int), Rd W B 1 a n (ints l) -> n <= 17592186044416 -> CallsIn F m Tryz.prog 66 #[.slice a n c] W fun e w' => ∃ a' c', e = .returned (.slice a' n c') /\ w'.ownsRow W.heap.size 3 1 (.slice a' n c') n (ints l) /\ Below W.heap.size W w') :
  CallsIn F n Tryz.prog 33 #[.slice A len cap, .int .i64 d] w (RetAt w (atT (X.map Rv.r) d)) := by
 have h1 : 1 <= n := by omega
 refine callsIn_of_wp_marks Tryz.func33 rfl (hF _) ?_ hro
 simp only [Tryz.ntmps33, List.size_toArray, List.length_cons, List.length_nil, Nat.reduceAdd, Nat.reduceSub, Array.replicate_succ, Array.replicate_zero, List.push_toArray, List.append_toArray, List.nil_append, List.cons_append]
 gi_wp2_with (first
  | (gi_at_call 64; refine (hv _ _).mono ?_; rintro e w' ⟨rfl, rfl⟩)
  | (gi_at_call 65; refine (backward_in F (n - 1) (hF _) hro _ _ _ _).mono ?_; rintro e w' ⟨rfl, rfl⟩))
 obtain ⟨W0, hW0⟩ : ∃ W0, W0 = (((w.alloc (.cells #[.int .i64 d] 3)).alloc (.cells #[.int .i64 0, .int .i64 0, .int .i64 0, .int .i64 0, .slice none 0 0] 56)).alloc (.cells #[.bool false] 4)).alloc (.cells #[.slice A len cap] 25) := ⟨_, rfl⟩
 have hsz : W0.heap.size = w.heap.size + 4 := by rw [hW0]; simp
 have hB0 : Below w.heap.size w W0 := by rw [hW0]; exact ((((Below.refl _ w).alloc (Nat.le_refl _) _).alloc (by simp) _).alloc (by simp <;> omega) _).alloc (by simp <;> omega) _
 have hd0 : W0.heap[w.heap.size]? = some (.cells #[.int .i64 d] 3 (0, 0)) := by
  rw [hW0]
  exact (Below.heap_alloc _ _ _ (by simp <;> omega)).trans ((Below.heap_alloc _ _ _ (by simp <;> omega)).trans ((Below.heap_alloc _ _ _ (by simp)).trans (World.alloc_heap_new w _)))
 have hr0 : W0.heap[w.heap.size + 1]? = some (.cells #[.int .i64 0, .int .i64 0, .int .i64 0, .int .i64 0, .slice none 0 0] 56 (0, 0)) := by
  rw [hW0]
  refine (Below.heap_alloc _ _ _ (by simp <;> omega)).trans ((Below.heap_alloc _ _ _ (by simp)).trans ?_)
  have := World.alloc_heap_new (w.alloc (.cells #[.int .i64 d] 3)) (.cells #[.int .i64 0, .int .i64 0, .int .i64 0, .int .i64 0, .slice none 0 0] 56)
  rwa [World.size_alloc] at this
 have hq0 : W0.heap[w.heap.size + 2]? = some (.cells #[.bool false] 4 (0, 0)) := by
  rw [hW0]
  refine (Below.heap_alloc _ _ _ (by simp)).trans ?_
  have := World.alloc_heap_new ((w.alloc (.cells #[.int .i64 d] 3)).alloc (.cells #[.int .i64 0, .int .i64 0, .int .i64 0, .int .i64 0, .slice none 0 0] 56)) (.cells #[.bool false] 4)
  rwa [World.size_alloc, World.size_alloc] at this
 have hs0 : W0.cell? ⟨w.heap.size + 3, 0, none⟩ = some (.slice A len cap) := by
  have : W0.heap[w.heap.size + 3]? = some (.cells #[.slice A len cap] 25 (0, 0)) := by
   rw [hW0]
   have := World.alloc_heap_new (((w.alloc (.cells #[.int .i64 d] 3)).alloc (.cells #[.int .i64 0, .int .i64 0, .int .i64 0, .int .i64 0, .slice none 0 0] 56)).alloc (.cells #[.bool false] 4)) (.cells #[.slice A len cap] 25)
   rwa [World.size_alloc, World.size_alloc, World.size_alloc] at this
  rw [cell_of_row W0 _ 0 _ _ _ this]; rfl
 have hX0 : Rus W0 (w.heap.size + 4) A len X := (hX.below hB0).mono (by omega)
 rw [<- hW0]
 clear hW0
 refine wpIn_rangeFunc_ownH hro h1 (gf := 117) (lb := #[.pointer (some ⟨w.heap.size + 3, 0, none⟩)]) rfl (hF _) (enters_of Tryz.func117 (by kernel_rfl) rfl)
  (backward_stops F (n - 1) (hF _) hro (by omega) (w.heap.size + 3) (w.heap.size + 4) len cap A X hreach W0 (by omega) (by omega) hs0 hX0) belowK_t (belowK_b (by omega)) (Below.refl _ _) (fun _ => rfl)
  (fun pre W => Bef d pre /\ Below (w.heap.size + 4) W0 W)
  (fun c pre W => (c = .ret /\ ∃ ini last, pre = ini ++ [last] /\ Bef d ini /\ last.2.1.r.f <= d /\ ∃ a c', W.heap[w.heap.size + 1]? = some (.cells #[.int .i64 last.2.1.r.f, .int .i64 last.2.1.r.d, .int .i64 last.2.1.r.p, .int .i64 last.2.1.r.b, .slice a last.2.1.r.m.length c'] 56 (0, 0)) /\ W.heap[w.heap.size + 2]? = some (.cells #[.bool true] 4 (0, 0)) /\ W.ownsRow w.heap.size 3 1 (.slice a last.2.1.r.m.length c') last.2.1.r.m.length (ints last.2.1.r.m)) /\ Below w.heap.size w W)
  (OwnFrom.and (fun s A B row hs hg hr => hs) (ownFrom_below (by omega) (by omega)))
  (fun c => OwnFrom.and (fun s A B row hs hg hr => by
    obtain ⟨hc, ini, last, e1, e2, e3, a, c', q1, q2, q3⟩ := hs
    exact ⟨hc, ini, last, e1, e2, e3, a, c', heap_turn q1 hg (fun r e => (hr r e).2), heap_turn q2 hg (fun r e => (hr r e).2), own_turn q3 hg (fun r e => (hr r e).2)⟩) (ownFrom_below (Nat.le_refl _) (by omega)))
  ⟨fun p hp => by simp at hp, Below.refl _ _⟩
  (fun x a' W => ∃ Bx, w.heap.size + 4 <= Bx /\ W.heap[Bx]? = some (.cells #[.int .i64 x.2.1.r.f, .int .i64 x.2.1.r.d, .int .i64 x.2.1.r.p, .int .i64 x.2.1.r.b, .slice x.2.1.a x.2.1.r.m.length x.2.1.c] 56 (0, 0)) /\ a' = { tmps := #[.slice A len cap, .int .i64 d, undef, .pointer (some ⟨w.heap.size, 0, none⟩), .pointer (some ⟨w.heap.size + 1, 0, none⟩), .pointer (some ⟨w.heap.size + 1 + 1, 0, none⟩), undef, .pointer (some ⟨Bx, 0, none⟩), .int .i64 d, .bool true, .bool false, undef, .slice A len cap, .func (.func 117) #[] #[.pointer (some ⟨w.heap.size + 3, 0, none⟩)], .int .i64 (x.1 : Int), x.2.1.agg, undef, undef, undef, undef, undef, undef, undef, undef, undef, undef], defers := [] })
  (fun x a' => fun _ A B row hs hg hr => by
    obtain ⟨Bx, h1, h2, h3⟩ := hs
    exact ⟨Bx, h1, heap_turn h2 hg (fun r e => (hr r e).2), h3⟩)
  ?assign ?body ?done ?stop
 case assign =>
  rintro l pre x W K ⟨hp, hB⟩ hK
  dsimp only [Rv.agg]
  gi_wp2
  refine hK _ _ ((KeepsOthers.alloc _ _).from _) ((Below.refl _ W).alloc (by have := hB.size; omega) _) ⟨hp, hB.alloc (by have := hB.size; omega) _⟩ ⟨W.heap.size, by have := hB.size; omega, heap_alloc_new W _, rfl⟩
 case body =>
  rintro l pre x a' W hl ⟨rr, hrr⟩ ⟨hp, hB⟩ ⟨Bx, hBx, hbx, rfl⟩ hlt
  have hWs := hB.size
  have cd : W.cell? ⟨w.heap.size, 0, none⟩ = some (.int .i64 d) := by
   rw [cell_of_row W _ 0 _ _ _ ((hB.block w.heap.size (by omega)).trans hd0)]; rfl
  have y0 : W.cell? ⟨Bx, 0, none⟩ = some (.int .i64 x.2.1.r.f) := by rw [cell_of_row W _ 0 _ _ _ hbx]; rfl
  have y4 : W.cell? ⟨Bx, 4, none⟩ = some (.slice x.2.1.a x.2.1.r.m.length x.2.1.c) := by rw [cell_of_row W _ 4 _ _ _ hbx]; rfl
  by_cases hf : x.2.1.r.f <= d
  ·have hr1 := (hB.block (w.heap.size + 1) (by omega)).trans hr0
   have hq1 := (hB.block (w.heap.size + 2) (by omega)).trans hq0
   have hBxl : Bx < W.heap.size := (gis hbx).1
   have hdf : decide (x.2.1.r.f <= d) = true := decide_eq_true hf
   have hm := (hX0.2.2 x.2.1 x.2.2).below hB
   have hml2 := hml x.2.1 x.2.2
   have hbR : Below w.heap.size w W := hB0.trans (hB.mono (by omega))
   gi_wp2_with (refine ⟨fun _ => by omega, ?_⟩; gi_at_call 66; refine (CallsIn.inRound l (hcl _ W x.2.1.a x.2.1.r.m.length x.2.1.c _ x.2.1.r.m hm hml2)).mono ?_; rintro e W2 ⟨a2, c2, rfl, hown2, hb2⟩
                have z0 := (hb2.block Bx hBxl).trans hbx
                have z1 := (hb2.block (w.heap.size + 1) (by omega)).trans hr1
                have z2 := (hb2.block (w.heap.size + 2) (by omega)).trans hq1
                have y0' : W2.cell? ⟨Bx, 0, none⟩ = some (.int .i64 x.2.1.r.f) := by rw [cell_of_row W2 _ 0 _ _ _ z0]; rfl
                have y1' : W2.cell? ⟨Bx, 1, none⟩ = some (.int .i64 x.2.1.r.d) := by rw [cell_of_row W2 _ 1 _ _ _ z0]; rfl
                have y2' : W2.cell? ⟨Bx, 2, none⟩ = some (.int .i64 x.2.1.r.p) := by rw [cell_of_row W2 _ 2 _ _ _ z0]; rfl
                have y3' : W2.cell? ⟨Bx, 3, none⟩ = some (.int .i64 x.2.1.r.b) := by rw [cell_of_row W2 _ 3 _ _ _ z0]; rfl
                have y4' : W2.cell? ⟨Bx, 4, none⟩ = some (.slice x.2.1.a x.2.1.r.m.length x.2.1.c) := by rw [cell_of_row W2 _ 4 _ _ _ z0]; rfl
                have yf' := frozen_of_row W2 Bx 4 _ _ z0
                have u0 : W2.cell? ⟨w.heap.size + 1, 0, none⟩ = some (.int .i64 0) := by rw [cell_of_row W2 _ 0 _ _ _ z1]; rfl
                have u1 : W2.cell? ⟨w.heap.size + 1, 1, none⟩ = some (.int .i64 0) := by rw [cell_of_row W2 _ 1 _ _ _ z1]; rfl
                have u2 : W2.cell? ⟨w.heap.size + 1, 2, none⟩ = some (.int .i64 0) := by rw [cell_of_row W2 _ 2 _ _ _ z1]; rfl
                have u3 : W2.cell? ⟨w.heap.size + 1, 3, none⟩ = some (.int .i64 0) := by rw [cell_of_row W2 _ 3 _ _ _ z1]; rfl
                have u4 : W2.cell? ⟨w.heap.size + 1, 4, none⟩ = some (.slice none 0 0) := by rw [cell_of_row W2 _ 4 _ _ _ z1]; rfl
                have uf0 := frozen_of_row W2 (w.heap.size + 1) 0 _ _ z1
                have uf1 := frozen_of_row W2 (w.heap.size + 1) 1 _ _ z1
                have uf2 := frozen_of_row W2 (w.heap.size + 1) 2 _ _ z1
                have uf3 := frozen_of_row W2 (w.heap.size + 1) 3 _ _ z1
                have uf4 := frozen_of_row W2 (w.heap.size + 1) 4 _ _ z1
                have v0 : W2.cell? ⟨w.heap.size + 1 + 1, 0, none⟩ = some (.bool false) := by rw [cell_of_row W2 _ 0 _ _ _ z2]; rfl
                have vf := frozen_of_row W2 (w.heap.size + 1 + 1) 0 _ _ z2
                have n1 : ¬ (w.heap.size + 1 = Bx) := by omega
                have n2 : ¬ (Bx = w.heap.size + 1) := by omega
                have n3 : ¬ (w.heap.size + 1 + 1 = Bx) := by omega
                have n4 : ¬ (Bx = w.heap.size + 1 + 1) := by omega)
   have hbx2 : ∀ {b : Nat}, b < W.heap.size -> (Value.slice a2 x.2.1.r.m.length c2).ownBlock ≠ some b := fun hb e => by have := (hown2.lt _ e).1; omega
   have hbn1 := hbx2 (b := w.heap.size + 1) (by omega)
   have hbn2 := hbx2 (b := w.heap.size + 1 + 1) (by omega)
   have s0 := (heap_setCell_other W2 ⟨Bx, 4, none⟩ (w.heap.size + 1) (.slice a2 x.2.1.r.m.length c2) n1).trans z1
   have s1 := heap_setCell_same _ (w.heap.size + 1) 0 _ _ (.int .i64 x.2.1.r.f) s0
   have s2 := heap_setCell_same _ (w.heap.size + 1) 1 _ _ (.int .i64 x.2.1.r.d) s1
   have s3 := heap_setCell_same _ (w.heap.size + 1) 2 _ _ (.int .i64 x.2.1.r.p) s2
   have s4 := heap_setCell_same _ (w.heap.size + 1) 3 _ _ (.int .i64 x.2.1.r.b) s3
   have s5 := heap_setCell_same _ (w.heap.size + 1) 4 _ _ (.slice a2 x.2.1.r.m.length c2) s4
   have t0 := (heap_setCell_other W2 ⟨Bx, 4, none⟩ (w.heap.size + 1 + 1) (.slice a2 x.2.1.r.m.length c2) n3).trans z2
   have t1 := (heap_setCell_other _ ⟨w.heap.size + 1, 0, none⟩ (w.heap.size + 1 + 1) (.int .i64 x.2.1.r.f) (by show w.heap.size + 1 + 1 ≠ w.heap.size + 1; omega)).trans t0
   have t2 := (heap_setCell_other _ ⟨w.heap.size + 1, 1, none⟩ (w.heap.size + 1 + 1) (.int .i64 x.2.1.r.d) (by show w.heap.size + 1 + 1 ≠ w.heap.size + 1; omega)).trans t1
   have t3 := (heap_setCell_other _ ⟨w.heap.size + 1, 2, none⟩ (w.heap.size + 1 + 1) (.int .i64 x.2.1.r.p) (by show w.heap.size + 1 + 1 ≠ w.heap.size + 1; omega)).trans t2
   have t4 := (heap_setCell_other _ ⟨w.heap.size + 1, 3, none⟩ (w.heap.size + 1 + 1) (.int .i64 x.2.1.r.b) (by show w.heap.size + 1 + 1 ≠ w.heap.size + 1; omega)).trans t3
   have t5 := (heap_setCell_other _ ⟨w.heap.size + 1, 4, none⟩ (w.heap.size + 1 + 1) (.slice a2 x.2.1.r.m.length c2) (by show w.heap.size + 1 + 1 ≠ w.heap.size + 1; omega)).trans t4
   have hbz := hbR.trans (hb2.mono hbR.size)
   refine ⟨(((((((((keeps_below hb2).trans (KeepsOthers.setCell _ _ _)).trans (KeepsOthers.setCell _ _ _)).trans (KeepsOthers.setCell _ _ _)).trans (KeepsOthers.setCell _ _ _)).trans (KeepsOthers.setCell _ _ _)).trans (KeepsOthers.setCell _ _ _)).trans (KeepsOthers.setCell _ _ _)).from _), ⟨rfl, pre, x, rfl, hp, hf, a2, c2, (heap_setCell_other _ ⟨w.heap.size + 1 + 1, 0, none⟩ (w.heap.size + 1) _ (by show w.heap.size + 1 ≠ w.heap.size + 1 + 1; omega)).trans s5, heap_setCell_same _ (w.heap.size + 1 + 1) 0 _ _ (.bool true) t5, ?_⟩, ?_⟩
   ·exact ownsRow_setCell_ne (p := ⟨w.heap.size + 1 + 1, 0, none⟩) (ownsRow_setCell_ne (p := ⟨w.heap.size + 1, 4, none⟩) (ownsRow_setCell_ne (p := ⟨w.heap.size + 1, 3, none⟩) (ownsRow_setCell_ne (p := ⟨w.heap.size + 1, 2, none⟩) (ownsRow_setCell_ne (p := ⟨w.heap.size + 1, 1, none⟩) (ownsRow_setCell_ne (p := ⟨w.heap.size + 1, 0, none⟩) (ownsRow_setCell_ne (p := ⟨Bx, 4, none⟩) (ownsRow_base hown2 hbR.size) (hbx2 hBxl) _) hbn1 _) hbn1 _) hbn1 _) hbn1 _) hbn1 _) hbn2 _
   ·exact ((((((hbz.setCell (p := ⟨Bx, 4, none⟩) (by show w.heap.size <= Bx; omega) _).setCell (p := ⟨w.heap.size + 1, 0, none⟩) (by show w.heap.size <= w.heap.size + 1; omega) _).setCell (p := ⟨w.heap.size + 1, 1, none⟩) (by show w.heap.size <= w.heap.size + 1; omega) _).setCell (p := ⟨w.heap.size + 1, 2, none⟩) (by show w.heap.size <= w.heap.size + 1; omega) _).setCell (p := ⟨w.heap.size + 1, 3, none⟩) (by show w.heap.size <= w.heap.size + 1; omega) _).setCell (p := ⟨w.heap.size + 1, 4, none⟩) (by show w.heap.size <= w.heap.size + 1; omega) _).setCell (p := ⟨w.heap.size + 1 + 1, 0, none⟩) (by show w.heap.size <= w.heap.size + 1 + 1; omega) _
  ·have hdf : decide (x.2.1.r.f <= d) = false := decide_eq_false hf
   gi_wp2
   refine ⟨KeepsFrom.refl _ _, Below.refl _ _, ?_, hB⟩
   intro p hp'
   rcases List.mem_append.1 hp' with h | h
   ·exact hp p h
   ·rw [List.mem_singleton.1 h]; omega
 case done =>
  rintro D ys W hD hys ⟨hp, hB⟩ hK
  have hWs := hB.size
  have hbR : Below w.heap.size w W := hB0.trans (hB.mono (by omega))
  have z1 := (hB.block (w.heap.size + 1) (by omega)).trans hr0
  have z2 : W.heap[w.heap.size + 1 + 1]? = some (.cells #[.bool false] 4 (0, 0)) := (hB.block (w.heap.size + 2) (by omega)).trans hq0
  have u0 : W.cell? ⟨w.heap.size + 1, 0, none⟩ = some (.int .i64 0) := by rw [cell_of_row W _ 0 _ _ _ z1]; rfl
  have u1 : W.cell? ⟨w.heap.size + 1, 1, none⟩ = some (.int .i64 0) := by rw [cell_of_row W _ 1 _ _ _ z1]; rfl
  have u2 : W.cell? ⟨w.heap.size + 1, 2, none⟩ = some (.int .i64 0) := by rw [cell_of_row W _ 2 _ _ _ z1]; rfl
  have u3 : W.cell? ⟨w.heap.size + 1, 3, none⟩ = some (.int .i64 0) := by rw [cell_of_row W _ 3 _ _ _ z1]; rfl
  have u4 : W.cell? ⟨w.heap.size + 1, 4, none⟩ = some (.slice none 0 0) := by rw [cell_of_row W _ 4 _ _ _ z1]; rfl
  have uf0 := frozen_of_row W (w.heap.size + 1) 0 _ _ z1
  have uf1 := frozen_of_row W (w.heap.size + 1) 1 _ _ z1
  have uf2 := frozen_of_row W (w.heap.size + 1) 2 _ _ z1
  have uf3 := frozen_of_row W (w.heap.size + 1) 3 _ _ z1
  have uf4 := frozen_of_row W (w.heap.size + 1) 4 _ _ z1
  have v0 : W.cell? ⟨w.heap.size + 1 + 1, 0, none⟩ = some (.bool false) := by rw [cell_of_row W _ 0 _ _ _ z2]; rfl
  have vf := frozen_of_row W (w.heap.size + 1 + 1) 0 _ _ z2
  gi_wp2
  have s1 := heap_setCell_same _ (w.heap.size + 1) 0 _ _ (.int .i64 0) z1
  have s2 := heap_setCell_same _ (w.heap.size + 1) 1 _ _ (.int .i64 0) s1
  have s3 := heap_setCell_same _ (w.heap.size + 1) 2 _ _ (.int .i64 0) s2
  have s4 := heap_setCell_same _ (w.heap.size + 1) 3 _ _ (.int .i64 0) s3
  have s5 := heap_setCell_same _ (w.heap.size + 1) 4 _ _ (.slice none 0 0) s4
  have t1 := (heap_setCell_other _ ⟨w.heap.size + 1, 0, none⟩ (w.heap.size + 1 + 1) (.int .i64 0) (by show w.heap.size + 1 + 1 ≠ w.heap.size + 1; omega)).trans z2
  have t2 := (heap_setCell_other _ ⟨w.heap.size + 1, 1, none⟩ (w.heap.size + 1 + 1) (.int .i64 0) (by show w.heap.size + 1 + 1 ≠ w.heap.size + 1; omega)).trans t1
  have t3 := (heap_setCell_other _ ⟨w.heap.size + 1, 2, none⟩ (w.heap.size + 1 + 1) (.int .i64 0) (by show w.heap.size + 1 + 1 ≠ w.heap.size + 1; omega)).trans t2
  have t4 := (heap_setCell_other _ ⟨w.heap.size + 1, 3, none⟩ (w.heap.size + 1 + 1) (.int .i64 0) (by show w.heap.size + 1 + 1 ≠ w.heap.size + 1; omega)).trans t3
  have t5 := (heap_setCell_other _ ⟨w.heap.size + 1, 4, none⟩ (w.heap.size + 1 + 1) (.slice none 0 0) (by show w.heap.size + 1 + 1 ≠ w.heap.size + 1; omega)).trans t4
  have q1 : ((((((W.setCell ⟨w.heap.size + 1, 0, none⟩ (.int .i64 0)).setCell ⟨w.heap.size + 1, 1, none⟩ (.int .i64 0)).setCell ⟨w.heap.size + 1, 2, none⟩ (.int .i64 0)).setCell ⟨w.heap.size + 1, 3, none⟩ (.int .i64 0)).setCell ⟨w.heap.size + 1, 4, none⟩ (.slice none 0 0)).setCell ⟨w.heap.size + 1 + 1, 0, none⟩ (.bool false)).heap[w.heap.size + 1]? = some (.cells #[.int .i64 0, .int .i64 0, .int .i64 0, .int .i64 0, .slice none 0 0] 56 (0, 0)) := (heap_setCell_other _ ⟨w.heap.size + 1 + 1, 0, none⟩ (w.heap.size + 1) _ (by show w.heap.size + 1 ≠ w.heap.size + 1 + 1; omega)).trans s5
  have q2 : ((((((W.setCell ⟨w.heap.size + 1, 0, none⟩ (.int .i64 0)).setCell ⟨w.heap.size + 1, 1, none⟩ (.int .i64 0)).setCell ⟨w.heap.size + 1, 2, none⟩ (.int .i64 0)).setCell ⟨w.heap.size + 1, 3, none⟩ (.int .i64 0)).setCell ⟨w.heap.size + 1, 4, none⟩ (.slice none 0 0)).setCell ⟨w.heap.size + 1 + 1, 0, none⟩ (.bool false)).heap[w.heap.size + 1 + 1]? = some (.cells #[.bool false] 4 (0, 0)) := heap_setCell_same _ (w.heap.size + 1 + 1) 0 _ _ (.bool false) t5
  have hko : KeepsOthers W ((((((W.setCell ⟨w.heap.size + 1, 0, none⟩ (.int .i64 0)).setCell ⟨w.heap.size + 1, 1, none⟩ (.int .i64 0)).setCell ⟨w.heap.size + 1, 2, none⟩ (.int .i64 0)).setCell ⟨w.heap.size + 1, 3, none⟩ (.int .i64 0)).setCell ⟨w.heap.size + 1, 4, none⟩ (.slice none 0 0)).setCell ⟨w.heap.size + 1 + 1, 0, none⟩ (.bool false)) := ((((((KeepsOthers.setCell _ _ _).trans (KeepsOthers.setCell _ _ _)).trans (KeepsOthers.setCell _ _ _)).trans (KeepsOthers.setCell _ _ _)).trans (KeepsOthers.setCell _ _ _)).trans (KeepsOthers.setCell _ _ _))
  have hbz : Below w.heap.size w ((((((W.setCell ⟨w.heap.size + 1, 0, none⟩ (.int .i64 0)).setCell ⟨w.heap.size + 1, 1, none⟩ (.int .i64 0)).setCell ⟨w.heap.size + 1, 2, none⟩ (.int .i64 0)).setCell ⟨w.heap.size + 1, 3, none⟩ (.int .i64 0)).setCell ⟨w.heap.size + 1, 4, none⟩ (.slice none 0 0)).setCell ⟨w.heap.size + 1 + 1, 0, none⟩ (.bool false)) := (((((hbR.setCell (p := ⟨w.heap.size + 1, 0, none⟩) (by show w.heap.size <= w.heap.size + 1; omega) _).setCell (p := ⟨w.heap.size + 1, 1, none⟩) (by show w.heap.size <= w.heap.size + 1; omega) _).setCell (p := ⟨w.heap.size + 1, 2, none⟩) (by show w.heap.size <= w.heap.size + 1; omega) _).setCell (p := ⟨w.heap.size + 1, 3, none⟩) (by show w.heap.size <= w.heap.size + 1; omega) _).setCell (p := ⟨w.heap.size + 1, 4, none⟩) (by show w.heap.size <= w.heap.size + 1; omega) _).setCell (p := ⟨w.heap.size + 1 + 1, 0, none⟩) (by show w.heap.size <= w.heap.size + 1 + 1; omega) _
  obtain ⟨V, hV⟩ : ∃ V, V = ((((((W.setCell ⟨w.heap.size + 1, 0, none⟩ (.int .i64 0)).setCell ⟨w.heap.size + 1, 1, none⟩ (.int .i64 0)).setCell ⟨w.heap.size + 1, 2, none⟩ (.int .i64 0)).setCell ⟨w.heap.size + 1, 3, none⟩ (.int .i64 0)).setCell ⟨w.heap.size + 1, 4, none⟩ (.slice none 0 0)).setCell ⟨w.heap.size + 1 + 1, 0, none⟩ (.bool false)) := ⟨_, rfl⟩
  rw [<- hV] at q1 q2 hko hbz ⊢
  have hK' := hko.same D _ hK rfl
  have hna : atT (X.map Rv.r) d = none := atT_nothing fun r hr => by
   obtain ⟨x, hx, rfl⟩ := List.mem_map.1 hr
   obtain ⟨i, hi⟩ := List.mem_iff_getElem?.1 hx
   have hil := (List.getElem?_eq_some_iff.1 hi).1
   exact bef_at hp hys hi (by have := hX.2.1; omega)
  refine ⟨by simp, .inl ⟨_, _, rfl, run_takeDeferred hK', ?_⟩⟩
  have m1 := heap_turn q1 (grownBy_putObj' V D (.deferred none)) (fun r e => by cases e; exact ⟨_, hK', rfl⟩)
  have m2 := heap_turn q2 (grownBy_putObj' V D (.deferred none)) (fun r e => by cases e; exact ⟨_, hK', rfl⟩)
  have hbf := hbz.trans (belowK_b (w := w) (Nat.le_refl _) V D _ (.deferred none) (by omega) hK' rfl rfl)
  obtain ⟨Wf, hWf⟩ : ∃ Wf, Wf = V.putObj D (.deferred none) := ⟨_, rfl⟩
  rw [<- hWf] at m1 m2 hbf ⊢
  have f0 : Wf.cell? ⟨w.heap.size + 1, 0, none⟩ = some (.int .i64 0) := by rw [cell_of_row Wf _ 0 _ _ _ m1]; rfl
  have f1 : Wf.cell? ⟨w.heap.size + 1, 1, none⟩ = some (.int .i64 0) := by rw [cell_of_row Wf _ 1 _ _ _ m1]; rfl
  have f2 : Wf.cell? ⟨w.heap.size + 1, 2, none⟩ = some (.int .i64 0) := by rw [cell_of_row Wf _ 2 _ _ _ m1]; rfl
  have f3 : Wf.cell? ⟨w.heap.size + 1, 3, none⟩ = some (.int .i64 0) := by rw [cell_of_row Wf _ 3 _ _ _ m1]; rfl
  have f4 : Wf.cell? ⟨w.heap.size + 1, 4, none⟩ = some (.slice none 0 0) := by rw [cell_of_row Wf _ 4 _ _ _ m1]; rfl
  have g0 : Wf.cell? ⟨w.heap.size + 1 + 1, 0, none⟩ = some (.bool false) := by rw [cell_of_row Wf _ 0 _ _ _ m2]; rfl
  refine ⟨.tuple #[(⟨⟨0, 0, 0, 0, []⟩, none, 0⟩ : Rv).agg, .bool false], ?_, hbf, ?_⟩
  ·simp [results, Tryz.f33, go_sem, f0, f1, f2, f3, f4, g0, Rv.agg]
  ·rw [hna]
 case stop =>
  rintro D c pre W hD ⟨k, hk, hpre⟩ ⟨⟨rfl, ini, last, e1, e2, e3, a, c', q1, q2, q3⟩, hB⟩ hK
  gi_wp2
  obtain ⟨k', rfl⟩ : ∃ k', k = k' + 1 := by
   cases k with
   | zero =>
    rw [e1, strp_snoc] at hpre
    have := congrArg List.length hpre
    simp [bwd_length] at this
   | succ k' => exact ⟨k', rfl⟩
  rw [e1, strp_snoc, bwd_succ] at hpre
  obtain ⟨e5, e6⟩ := List.append_inj' hpre rfl
  have hXl := hX.2.1
  obtain ⟨x, hx⟩ : ∃ x, X[X.length - 1 - k']? = some x := ⟨_, List.getElem?_eq_getElem (by omega)⟩
  rw [hx] at e6
  simp at e6
  have hat : atT (X.map Rv.r) d = some last.2.1.r := by
   refine atT_here hd (i := X.length - 1 - k') (by rw [List.getElem?_map, hx, <- e6.2]; rfl) e3 fun j q hj hij => ?_
   rw [List.getElem?_map] at hj
   obtain ⟨y, hy, rfl⟩ := Option.map_eq_some_iff.1 hj
   have hjl := (List.getElem?_eq_some_iff.1 hy).1
   exact bef_at e2 e5 hy (by omega)
  refine ⟨by simp, .inl ⟨_, _, rfl, run_takeDeferred hK, ?_⟩⟩
  have m1 := heap_turn q1 (grownBy_putObj' W D (.deferred none)) (fun r e => by cases e; exact ⟨_, hK, rfl⟩)
  have m2 := heap_turn q2 (grownBy_putObj' W D (.deferred none)) (fun r e => by cases e; exact ⟨_, hK, rfl⟩)
  have m3 := own_turn q3 (grownBy_putObj' W D (.deferred none)) (fun r e => by cases e; exact ⟨_, hK, rfl⟩)
  have hbf := hB.trans (belowK_b (w := w) (Nat.le_refl _) W D _ (.deferred none) (by omega) hK rfl rfl)
  obtain ⟨Wf, hWf⟩ : ∃ Wf, Wf = W.putObj D (.deferred none) := ⟨_, rfl⟩
  rw [<- hWf] at m1 m2 m3 hbf ⊢
  have f0 : Wf.cell? ⟨w.heap.size + 1, 0, none⟩ = some (.int .i64 last.2.1.r.f) := by rw [cell_of_row Wf _ 0 _ _ _ m1]; rfl
  have f1 : Wf.cell? ⟨w.heap.size + 1, 1, none⟩ = some (.int .i64 last.2.1.r.d) := by rw [cell_of_row Wf _ 1 _ _ _ m1]; rfl
  have f2 : Wf.cell? ⟨w.heap.size + 1, 2, none⟩ = some (.int .i64 last.2.1.r.p) := by rw [cell_of_row Wf _ 2 _ _ _ m1]; rfl
  have f3 : Wf.cell? ⟨w.heap.size + 1, 3, none⟩ = some (.int .i64 last.2.1.r.b) := by rw [cell_of_row Wf _ 3 _ _ _ m1]; rfl
  have f4 : Wf.cell? ⟨w.heap.size + 1, 4, none⟩ = some (.slice a last.2.1.r.m.length c') := by rw [cell_of_row Wf _ 4 _ _ _ m1]; rfl
  have g0 : Wf.cell? ⟨w.heap.size + 1 + 1, 0, none⟩ = some (.bool true) := by rw [cell_of_row Wf _ 0 _ _ _ m2]; rfl
  refine ⟨.tuple #[(⟨last.2.1.r, a, c'⟩ : Rv).agg, .bool true], ?_, hbf, ?_⟩
  ·simp [results, Tryz.f33, go_sem, f0, f1, f2, f3, f4, g0, Rv.agg]
  ·rw [hat]
   exact ⟨a, c', rfl, m3⟩
end
end Go.Proofs.YtnlopdmhdiegnaaGreatDoor
