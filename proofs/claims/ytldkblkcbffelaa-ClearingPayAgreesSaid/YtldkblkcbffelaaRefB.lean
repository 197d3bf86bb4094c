/- The reference's Post. -/
import Derived.Test.YtldkblkcbffelaaRefA
import Derived.Deep.RegionLaw
import Derived.Deep.Cut
namespace Go.Proofs.Ytldkblkcbffelaa
open Go.RowKit

theorem RefA.lt {w : World} {rb : Nat} {L : List Dt} (h : RefA w rb L) : rb < w.heap.size := by
  obtain ⟨v, hrb, _⟩ := h.row
  exact (Array.getElem?_eq_some_iff.1 hrb).1
/-- The ledger stays what it is while neither its own block nor its array is written. -/
theorem RefA.grown {w w' : World} {rb : Nat} {L : List Dt} {row : Option Nat} (h : RefA w rb L) (hg : w.grownBy w' row) (h1 : some rb ≠ row) (h2 : ∀ k, row = some k → ∀ cur fr, w.heap[k]? ≠ some (.cells cur 37 fr)) : RefA w' rb L := by
  obtain ⟨v, hrb, hown⟩ := h.row
  refine ⟨⟨v, (hg.block rb h.lt h1).trans hrb, hown.kept hg ?_⟩, h.valid, h.short⟩
  rcases hown.2 with ⟨rfl, _⟩ | ⟨g, cap, cur, rfl, _, hgg, _⟩
  · exact .inl rfl
  · refine .inr fun e => ?_
    exact h2 g (by simpa [Value.ownBlock] using e.symm) cur (0, 0) hgg
theorem RefA.below {w w' : World} {rb : Nat} {L : List Dt} (h : RefA w rb L) (hb : Below w.heap.size w w') : RefA w' rb L :=
  h.grown (row := none) ⟨hb.os, hb.tape, hb.output, hb.size, fun i hi _ => hb.block i hi⟩ (by simp) (by simp)

theorem info_debt : (Try.prog.info? 37).map (fun i => (i.zero, i.size, i.bytes)) = some (some (.agg #[.int .i64 0, .int .i64 0, .int .i64 0, .int .i64 0]), 4, 32) := by kernel_rfl

theorem cells_oneD (L : List Dt) : ∀ u ∈ flat Dt.cells L, u.oneCell' = true := by
  intro u hu
  obtain ⟨x, _, hx⟩ := List.mem_flatMap.1 hu
  simp only [Dt.cells, List.mem_cons, List.not_mem_nil, or_false] at hx
  rcases hx with rfl | rfl | rfl | rfl <;> rfl

theorem rpost_bad (rb : Nat) (d c u a : Int) (w : World) (hv : validB d c u a = false) :
    Calls Try.prog 18 #[.pointer (some ⟨rb, 0, none⟩), .agg #[.int .i64 d, .int .i64 c, .int .i64 u, .int .i64 a]] w fun e w' => e = .returned (.int .i64 1) ∧ Below w.heap.size w w' := by
  go_enter Try.func18, Try.ntmps18
  go_wp2_with (first
    | (go_at_call 37; refine (debt_any _ _ _ _ _).mono ?_; rintro e w' ⟨rfl, rfl⟩))
  go_ret
  exact ⟨rfl, ((Below.refl _ _).alloc (Nat.le_refl _) _).alloc (by simp) _⟩

/-- What the reference's Post does of a valid debt. -/
def RPostPost (w : World) (rb : Nat) (L : List Dt) (x : Dt) (e : Ending) (w' : World) : Prop :=
  if (fitsB (rpos (L ++ [x]) x.d x.u) && fitsB (rpos (L ++ [x]) x.c x.u)) = true then
    e = .returned (.int .i64 0) ∧ w.grownBy w' (some rb) ∧ RefA w' rb (L ++ [x])
  else e = .returned (.int .i64 2) ∧ Below w.heap.size w w'

/-- In the midst of it: the new ledger. -/
def RMid (w : World) (bx : Nat) (L : List Dt) (x : Dt) (s5 : Value) (wc : World) : Prop :=
  ∃ nb, s5 = .pointer (some ⟨nb, 0, none⟩) ∧ RefA wc nb (L ++ [x]) ∧ Below w.heap.size w wc ∧ w.heap.size ≤ nb ∧
    wc.cell? ⟨bx, 0, none⟩ = some (.int .i64 x.d) ∧ wc.cell? ⟨bx, 1, none⟩ = some (.int .i64 x.c) ∧ wc.cell? ⟨bx, 2, none⟩ = some (.int .i64 x.u) ∧ bx < wc.heap.size

theorem rmid_of {w w2 : World} {base n bx c2 : Nat} {A2 : Option Addr} {L : List Dt} {x : Dt} (hown : w2.ownsRow base 37 4 (.slice A2 (0 + n + 1) c2) (0 + n + 1) ([] ++ flat Dt.cells L ++ x.cells))
    (Hn : Hid (L.length = n)) (hn : n < 1000) (hval : ∀ y ∈ L, validB y.d y.c y.u y.a = true) (hv : validB x.d x.c x.u x.a = true) (hb : Below w.heap.size w w2)
    (r0 : w2.cell? ⟨bx, 0, none⟩ = some (.int .i64 x.d)) (r1 : w2.cell? ⟨bx, 1, none⟩ = some (.int .i64 x.c)) (r2 : w2.cell? ⟨bx, 2, none⟩ = some (.int .i64 x.u)) (hbx : bx < w2.heap.size) :
    RMid w bx L x (.pointer (some ⟨w2.heap.size, 0, none⟩)) (w2.alloc (.cells #[.slice A2 (n + 1) c2] 33)) := by
  rw [Nat.zero_add] at hown
  have hn' : L.length = n := Hn
  have hlx : (L ++ [x]).length = n + 1 := by simp [hn']
  have hfl : flat Dt.cells (L ++ [x]) = [] ++ flat Dt.cells L ++ x.cells := by rw [flat_append, flat_one]; simp
  refine ⟨w2.heap.size, rfl, ⟨⟨_, heap_alloc_new w2 _, ?_⟩, ?_, by omega⟩, hb.alloc hb.size _, hb.size, ?_, ?_, ?_, by simp; omega⟩
  · rw [hlx, hfl]
    exact (ownsRow_base hown (Nat.zero_le _)).alloc _
  · intro y hy
    rcases List.mem_append.1 hy with hy | hy
    · exact hval y hy
    · rw [List.mem_singleton.1 hy]
      exact hv
  · exact (World.cell?_alloc_lt w2 _ _ hbx).trans r0
  · exact (World.cell?_alloc_lt w2 _ _ hbx).trans r1
  · exact (World.cell?_alloc_lt w2 _ _ hbx).trans r2

set_option maxHeartbeats 2000000 in
theorem rpost_ok (rb : Nat) (L : List Dt) (x : Dt) (w : World) (h : RefA w rb L) (hv : validB x.d x.c x.u x.a = true) (hl : L.length < 1000) :
    Calls Try.prog 18 #[.pointer (some ⟨rb, 0, none⟩), .agg #[.int .i64 x.d, .int .i64 x.c, .int .i64 x.u, .int .i64 x.a]] w (RPostPost w rb L x) := by
  obtain ⟨v, hrb, hown⟩ := h.row
  obtain ⟨A, c, rfl, hnc, hcm, hA⟩ := own_form hown
  have hcell : w.cell? ⟨rb, 0, none⟩ = some (.slice A L.length c) := by rw [cell_of_row w rb 0 _ _ _ hrb]; rfl
  have hrlt := h.lt
  have hrd := Rd.ofOwn hown
  obtain ⟨i0, hi0, hz0, hz1, hz2⟩ := info_parts info_debt
  go_enter Try.func18, Try.ntmps18
  go_wp2_with (first
    | (go_at_call 37; refine (debt_any _ _ _ _ _).mono ?_; rintro e w' ⟨rfl, rfl⟩))
  obtain ⟨W, hW, f0, f1, f2, f3, hWb, hWs⟩ : ∃ W, W = (w.alloc (.cells #[.int .i64 x.d, .int .i64 x.c, .int .i64 x.u, .int .i64 x.a] 37)).alloc (.cells #[.int .i64 x.d, .int .i64 x.c, .int .i64 x.u, .int .i64 x.a] 37) ∧
      W.cell? ⟨w.heap.size, 0, none⟩ = some (.int .i64 x.d) ∧ W.cell? ⟨w.heap.size, 1, none⟩ = some (.int .i64 x.c) ∧ W.cell? ⟨w.heap.size, 2, none⟩ = some (.int .i64 x.u) ∧ W.cell? ⟨w.heap.size, 3, none⟩ = some (.int .i64 x.a) ∧ Below w.heap.size w W ∧ w.heap.size < W.heap.size :=
    ⟨_, rfl, by simp [go_sem], by simp [go_sem], by simp [go_sem], by simp [go_sem], ((Below.refl _ _).alloc (Nat.le_refl _) _).alloc (by simp) _, by simp; omega⟩
  rw [← hW]
  clear hW
  have hcW : W.cell? ⟨rb, 0, none⟩ = some (.slice A L.length c) := (hWb.cell (p := ⟨rb, 0, none⟩) hrlt).trans hcell
  have hrW : Rd W w.heap.size 4 A L.length (flat Dt.cells L) := hrd.below hWb
  have hrW2 : ∀ o, Rd (W.alloc o) w.heap.size 4 A L.length (flat Dt.cells L) := fun o => hrW.alloc (by omega) o
  have hval := h.valid
  have hrlW : rb < W.heap.size := by omega
  clear hrd hown hcell h
  have hlx : (L ++ [x]).length = L.length + 1 := by simp
  have hflat : flat Dt.cells (L ++ [x]) = flat Dt.cells L ++ x.cells := by rw [flat_append, flat_one]
  have Hlx := Lib.hid hlx
  have Hflat := Lib.hid hflat
  clear hlx hflat
  generalize hn : L.length = n at *
  have Hn := Lib.hid hn
  clear hn
  go_cut [5] from 9 (fun s5 wc => RMid w w.heap.size L x s5 wc)
  case first =>
    go_region_law (first
      | (refine step_append_rd (by rfl) (.const (.slice none 0 0)) (.tmp 12) 30 (by rfl) W.heap.size 37 i0 _ 4 32 Try.underlying30 hi0 hz0 hz1 hz2 rfl (by omega) (.slice none 0 0) 0 [] (by rfl) (World.ownsRow_nil _ _ _ _)
          w.heap.size A n c (flat Dt.cells L) (by rfl) (by first | exact hrW | exact hrW2 _) (cells_oneD L) (by unfold maxLen; omega) (by omega) (by simp) ?_
         intro v1 w1 hown1 hg1 hat1
         have p0 := hg1.cell (a := ⟨w.heap.size, 0, none⟩) (v := .int .i64 x.d) (by first | exact f0 | exact (World.cell?_alloc_lt W _ _ hWs).trans f0) (by simp [Value.ownBlock])
         have p1 := hg1.cell (a := ⟨w.heap.size, 1, none⟩) (v := .int .i64 x.c) (by first | exact f1 | exact (World.cell?_alloc_lt W _ _ hWs).trans f1) (by simp [Value.ownBlock])
         have p2 := hg1.cell (a := ⟨w.heap.size, 2, none⟩) (v := .int .i64 x.u) (by first | exact f2 | exact (World.cell?_alloc_lt W _ _ hWs).trans f2) (by simp [Value.ownBlock])
         have p3 := hg1.cell (a := ⟨w.heap.size, 3, none⟩) (v := .int .i64 x.a) (by first | exact f3 | exact (World.cell?_alloc_lt W _ _ hWs).trans f3) (by simp [Value.ownBlock])
         have b1 : Below w.heap.size w w1 := by first | exact hWb.drew.grown hg1 hWb.size (by simp [Value.ownBlock]) | exact (hWb.alloc hWb.size _).drew.grown hg1 (by simp; omega) (by simp [Value.ownBlock])
         have z1 : W.heap.size ≤ w1.heap.size := by have := hg1.size; simp at this; omega
         have ne1 : some w.heap.size ≠ v1.ownBlock := fun e => by have := hown1.lt _ e.symm; omega
         have lo1 : ∀ k, v1.ownBlock = some k → w.heap.size ≤ k := fun k e => by have := hown1.lt _ e; omega)
      | (refine step_append_rd (by rfl) (.tmp 13) (.tmp 15) 30 (by rfl) W.heap.size 37 i0 _ 4 32 Try.underlying30 hi0 hz0 hz1 hz2 rfl (by omega) v1 (0 + n) ([] ++ flat Dt.cells L) (by rfl) (by first | exact hown1 | exact hown1.alloc _)
          w1.heap.size.succ (some ⟨_, 0, none⟩) 1 1 x.cells (by rfl) (by first | exact Rd.built (heap_alloc_new w1 _) (Nat.lt_succ_self _) rfl | exact Rd.built (cs := #[.int .i64 x.d, .int .i64 x.c, .int .i64 x.u, .int .i64 x.a]) ((hg1.block W.heap.size (by simp) (by simp [Value.ownBlock])).trans (heap_alloc_new W _)) (by have := hg1.size; simp at this; omega) rfl) (by intro u hu; simp [Dt.cells] at hu; rcases hu with rfl | rfl | rfl | rfl <;> rfl) (by unfold maxLen; omega) (by omega) (by have := hg1.size; simp at this ⊢; omega) ?_
         intro v2 w2 hown2 hg2 hat2
         have z3 : w.heap.size < w1.heap.size := by omega
         have r0 := hg2.cell (a := ⟨w.heap.size, 0, none⟩) (v := .int .i64 x.d) (by first | exact p0 | exact (World.cell?_alloc_lt w1 _ _ z3).trans p0) ne1
         have r1 := hg2.cell (a := ⟨w.heap.size, 1, none⟩) (v := .int .i64 x.c) (by first | exact p1 | exact (World.cell?_alloc_lt w1 _ _ z3).trans p1) ne1
         have r2 := hg2.cell (a := ⟨w.heap.size, 2, none⟩) (v := .int .i64 x.u) (by first | exact p2 | exact (World.cell?_alloc_lt w1 _ _ z3).trans p2) ne1
         have b2 : Below w.heap.size w w2 := by first | exact b1.grown hg2 b1.size lo1 | exact (b1.alloc b1.size _).grown hg2 (by have := b1.size; simp; omega) lo1
         have z2 : w.heap.size < w2.heap.size := by have := hg2.size; first | omega | (simp at this; omega)
         obtain ⟨A2, c2, rfl, hnc2, hcm2, hA2⟩ := own_form hown2))
    all_goals go_wp2_with fail
    all_goals go_meet
    all_goals exact rmid_of hown2 Hn hl hval hv b2 r0 r1 r2 z2
  case rest =>
    obtain ⟨nb, rfl, hR, hBc, hnb, q0, q1, q2, hbx⟩ := hcut
    have hcell2 : w.cell? ⟨rb, 0, none⟩ = W.cell? ⟨rb, 0, none⟩ := (hWb.cell (p := ⟨rb, 0, none⟩) hrlt).symm
    have hrow : W.heap[rb]? = w.heap[rb]? := hWb.block rb hrlt
    have hrowc : wc.heap[rb]? = w.heap[rb]? := hBc.block rb hrlt
    clear hrW hrW2 f0 f1 f2 f3 hcell2 hrow
    obtain ⟨p1, hp1⟩ : ∃ b, fitsB (rpos (L ++ [x]) x.d x.u) = b := ⟨_, rfl⟩
    obtain ⟨p2, hp2⟩ : ∃ b, fitsB (rpos (L ++ [x]) x.c x.u) = b := ⟨_, rfl⟩
    cases p1 with
    | false =>
      go_wp2_with (first
        | (go_at_call 30; refine (rposition_any nb (L ++ [x]) _ _ _ hR).mono ?_; rintro e w1 ⟨rfl, hb1⟩)
        | (go_at_call 38; refine (wide_any _ _).mono ?_; rintro e w' ⟨rfl, rfl⟩))
      go_ret
      show RPostPost _ _ _ _ _ _
      unfold RPostPost
      rw [hp1]
      exact ⟨rfl, hBc.trans (hb1.mono hBc.size)⟩
    | true =>
      go_wp2_with fail
      refine (rposition_any nb (L ++ [x]) _ _ _ hR).mono ?_
      rintro e w1 ⟨rfl, hb1⟩
      have q1' := (hb1.cell (p := ⟨w.heap.size, 1, none⟩) hbx).trans q1
      have q2' := (hb1.cell (p := ⟨w.heap.size, 2, none⟩) hbx).trans q2
      have hR1 := hR.below hb1
      have hz1 := hb1.size
      go_wp2_with (go_at_call 38; refine (wide_any _ _).mono ?_; rintro e w' ⟨rfl, rfl⟩)
      refine (rposition_any nb (L ++ [x]) _ _ _ hR1).mono ?_
      rintro e w2 ⟨rfl, hb2⟩
      have hz2 := hb2.size
      have hB2 : Below w.heap.size w w2 := (hBc.trans (hb1.mono hBc.size)).trans (hb2.mono (by have := hBc.size; omega))
      have hR2 := hR1.below hb2
      have hrow2 : w2.heap[rb]? = w.heap[rb]? := hB2.block rb hrlt
      rw [hrb] at hrow2
      have k1 : w2.cell? ⟨rb, 0, none⟩ = some (.slice A n c) := by rw [cell_of_row w2 rb 0 _ _ _ hrow2]; rfl
      have k2 := frozen_of_row w2 rb 0 _ _ hrow2
      obtain ⟨v2, hnb2, hown2⟩ := hR2.row
      obtain ⟨A2, c2, rfl, hnc2, hcm2, hA2⟩ := own_form hown2
      have k3 : w2.cell? ⟨nb, 0, none⟩ = some (.slice A2 (L ++ [x]).length c2) := by rw [cell_of_row w2 nb 0 _ _ _ hnb2]; rfl
      have hval2 := hR2.valid
      have hsh2 := hR2.short
      clear hnb2 hR hR1 hR2
      generalize hm : (L ++ [x]).length = m' at *
      have Hm := Lib.hid hm
      clear hm
      cases p2 with
      | false =>
        go_wp2_with (go_at_call 38; refine (wide_any _ _).mono ?_; rintro e w' ⟨rfl, rfl⟩)
        go_ret
        show RPostPost _ _ _ _ _ _
        unfold RPostPost
        rw [hp1, hp2]
        exact ⟨rfl, hB2⟩
      | true =>
        go_wp2_with (go_at_call 38; refine (wide_any _ _).mono ?_; rintro e w' ⟨rfl, rfl⟩)
        go_ret
        show RPostPost _ _ _ _ _ _
        unfold RPostPost
        rw [hp1, hp2]
        refine ⟨rfl, ⟨hB2.os, hB2.tape, hB2.output, by simpa using hB2.size, fun k hk hne => ?_⟩, ⟨⟨_, heap_setCell_same w2 rb 0 _ _ _ hrow2, ?_⟩, hval2, ?_⟩⟩
        · rw [heap_setCell_other _ _ _ _ (fun e => hne (by rw [e]))]
          exact hB2.block k hk
        · have e : (L ++ [x]).length = m' := Hm.out
          rw [e]
          refine hown2.kept ⟨rfl, rfl, rfl, by simp, fun k _ hne => heap_setCell_other w2 ⟨rb, 0, none⟩ k _ (fun e => hne (by rw [e]))⟩ (row := some rb) ?_
          rcases hown2.2 with ⟨e, _⟩ | ⟨g, cap, cur, e, _, hgg, _⟩
          · rw [e]; exact .inl rfl
          · rw [e]
            refine .inr fun e2 => ?_
            have e3 : g = rb := by simpa [Value.ownBlock] using e2
            rw [e3, hrow2] at hgg
            injection hgg with hgg
            injection hgg with _ ht
            cases ht
        · have e : (L ++ [x]).length = m' := Hm.out
          rw [e]
          exact hsh2
end Go.Proofs.Ytldkblkcbffelaa
