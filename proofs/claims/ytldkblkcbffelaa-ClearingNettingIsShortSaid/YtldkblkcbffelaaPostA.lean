/- The program's Post. -/
import Derived.Test.YtldkblkcbffelaaLedgerB
import Derived.Test.YtldkblkcbffelaaStill
import Derived.BigRegion
import Derived.Deep.RegionHeld3
import Derived.Deep.DrawnRows
import Derived.Deep.Cut
namespace Go.Proofs.Ytldkblkcbffelaa
open Go.RowKit

theorem LedA.lt {w : World} {lb mb : Nat} {m : List (Int × (Nat → Nat → Int))} (h : LedA w lb mb m) : lb < w.heap.size := (Array.getElem?_eq_some_iff.1 h.led).1
theorem LedA.same {w w' : World} {lb mb : Nat} {m : List (Int × (Nat → Nat → Int))} (h : LedA w lb mb m) (h1 : w'.heap[lb]? = w.heap[lb]?) (h2 : w'.heap[mb]? = w.heap[mb]?) : LedA w' lb mb m :=
  ⟨h1.trans h.led, h.map.same h2, h.nodup⟩
theorem LedA.below {w w' : World} {lb mb : Nat} {m : List (Int × (Nat → Nat → Int))} (h : LedA w lb mb m) (hb : Below w.heap.size w w') : LedA w' lb mb m := h.same (hb.block lb h.lt) (hb.block mb h.map.lt)
theorem LedA.belowLe {w w' : World} {lb mb B : Nat} {m : List (Int × (Nat → Nat → Int))} (h : LedA w lb mb m) (hb : Below B w w') (h1 : lb < B) (h2 : mb < B) : LedA w' lb mb m := h.same (hb.block lb h1) (hb.block mb h2)
theorem LedA.ltm {w : World} {lb mb : Nat} {m : List (Int × (Nat → Nat → Int))} (h : LedA w lb mb m) : mb < w.heap.size := h.map.lt
theorem LedA.ne {w : World} {lb mb : Nat} {m : List (Int × (Nat → Nat → Int))} (h : LedA w lb mb m) : lb ≠ mb := by
  rintro rfl
  obtain ⟨es, cl, hh, _⟩ := h.map
  rw [h.led] at hh
  cases hh
theorem LedA.grown {w w' : World} {lb mb : Nat} {m : List (Int × (Nat → Nat → Int))} {row : Option Nat} (h : LedA w lb mb m) (hg : w.grownBy w' row) (h1 : some lb ≠ row) (h2 : some mb ≠ row) : LedA w' lb mb m :=
  h.same (hg.block lb h.lt h1) (hg.block mb h.ltm h2)

theorem LedA.alloc {w : World} {lb mb : Nat} {m : List (Int × (Nat → Nat → Int))} (h : LedA w lb mb m) (o : Obj) : LedA (w.alloc o) lb mb m :=
  h.same (Below.heap_alloc w o lb h.lt) (Below.heap_alloc w o mb h.map.lt)
theorem LedA.drew {w : World} {lb mb : Nat} {m : List (Int × (Nat → Nat → Int))} (h : LedA w lb mb m) : LedA w.drew lb mb m := ⟨h.led, h.map, h.nodup⟩

theorem store_mat (W : World) (cur : Array Value) (M : Nat → Nat → Int) (hc : cur.size = 36) :
    (storeCells ⟨W.heap.size, 0, none⟩ (matCells M)).run Try.prog (W.alloc (.cells cur 58)) = .ok () (W.alloc (.cells (matCells M).toArray 58)) := by
  have hs := setCells_fresh W cur (matCells M) 58 (by rw [matCells_length, hc])
  have h := run_storeCells_cells (P := Try.prog) W.heap.size 0 (matCells M) 0 (W.alloc (.cells cur 58)) ?_ ?_ (matCells_one M)
  · simp only [Nat.add_zero] at h
    exact h.trans (congrArg (Result.ok ()) hs)
  · intro j hj
    have hj' : j < cur.size := by rw [hc]; simpa [matCells_length] using hj
    simp [hj']
  · intro j hj
    simp

/-- One entry of a matrix, set. -/
def setM (M : Nat → Nat → Int) (d c : Nat) (v : Int) : Nat → Nat → Int := fun x y => if x = d ∧ y = c then v else M x y
/-- A debt of d to c of the amount a, entered. -/
def entered (M : Nat → Nat → Int) (d c : Nat) (a : Int) : Nat → Nat → Int := setM (setM M d c (M d c + a)) c d (M c d - a)

theorem matCells_set (M : Nat → Nat → Int) (d c : Nat) (v : Int) (hd : d < 6) (hc : c < 6) : (matCells M).toArray.setIfInBounds (d * 6 + c) (.int .i64 v) = (matCells (setM M d c v)).toArray := by
  rw [List.setIfInBounds_toArray]
  congr 1
  apply List.ext_getElem?
  intro i
  rw [List.getElem?_set]
  have hl := matCells_length M
  by_cases h : d * 6 + c = i
  · subst h
    rw [if_pos rfl, if_pos (by omega), matCells_at _ hd hc]
    simp [setM]
  · rw [if_neg h]
    by_cases hi : i < 36
    · have e : i = i / 6 * 6 + i % 6 := by omega
      rw [e, matCells_at _ (by omega) (by omega), matCells_at _ (by omega) (by omega)]
      have hne : ¬(i / 6 = d ∧ i % 6 = c) := fun ⟨h1, h2⟩ => h (by omega)
      simp only [setM, hne, if_false]
    · rw [List.getElem?_eq_none (by omega), List.getElem?_eq_none (by have := matCells_length (setM M d c v); omega)]

theorem setM_bd {M : Nat → Nat → Int} {B v : Int} (h : MBd B M) (d c : Nat) {B' : Int} (hB : B ≤ B') (hv : -B' ≤ v ∧ v ≤ B') : MBd B' (setM M d c v) := by
  intro x y
  unfold setM
  have := h x y
  split <;> omega

/-- In the midst of Post: the ledger, the boxed debt, the copy of the matrix. -/
structure PSt (w W : World) (bx g lb mb : Nat) (m : List (Int × (Nat → Nat → Int))) (d c : Nat) (u a : Int) (M : Nat → Nat → Int) : Prop where
  led : LedA W lb mb m
  b0 : W.cell? ⟨bx, 0, none⟩ = some (.int .i64 d)
  b1 : W.cell? ⟨bx, 1, none⟩ = some (.int .i64 c)
  b2 : W.cell? ⟨bx, 2, none⟩ = some (.int .i64 u)
  b3 : W.cell? ⟨bx, 3, none⟩ = some (.int .i64 a)
  mat : W.heap[g]? = some (.cells (matCells M).toArray 58 (0, 0))
  bel : Below w.heap.size w W
  hbx : bx ≠ g
  hlb : lb ≠ g
  hmb : mb ≠ g
  hg : w.heap.size ≤ g

section
variable {w W : World} {bx g lb mb : Nat} {m : List (Int × (Nat → Nat → Int))} {d c : Nat} {u a : Int} {M : Nat → Nat → Int}
theorem PSt.drew (h : PSt w W bx g lb mb m d c u a M) : PSt w W.drew bx g lb mb m d c u a M := ⟨h.led.drew, h.b0, h.b1, h.b2, h.b3, h.mat, h.bel.drew, h.hbx, h.hlb, h.hmb, h.hg⟩
theorem PSt.cell (h : PSt w W bx g lb mb m d c u a M) {x y : Nat} (hx : x < 6) (hy : y < 6) : W.cell? ⟨g, x * 6 + y, none⟩ = some (.int .i64 (M x y)) := by
  rw [cell_of_row W g _ _ _ _ h.mat, List.getElem?_toArray]
  exact matCells_at M hx hy
theorem PSt.free (h : PSt w W bx g lb mb m d c u a M) (i : Nat) : W.frozen? ⟨g, i, none⟩ = false := frozen_of_row W g i _ _ h.mat
theorem PSt.set (h : PSt w W bx g lb mb m d c u a M) {x y : Nat} (hx : x < 6) (hy : y < 6) (v : Int) : PSt w (W.setCell ⟨g, x * 6 + y, none⟩ (.int .i64 v)) bx g lb mb m d c u a (setM M x y v) := by
  have hne : ∀ i, (⟨g, x * 6 + y, none⟩ : Addr) ≠ ⟨bx, i, none⟩ := fun i e => h.hbx (by injection e with e; exact e.symm)
  refine ⟨h.led.same (heap_setCell_other W _ lb _ h.hlb) (heap_setCell_other W _ mb _ h.hmb), ?_, ?_, ?_, ?_, ?_, h.bel.setCell h.hg _, h.hbx, h.hlb, h.hmb, h.hg⟩
  · rw [World.cell?_setCell_other _ _ _ _ (hne 0)]; exact h.b0
  · rw [World.cell?_setCell_other _ _ _ _ (hne 1)]; exact h.b1
  · rw [World.cell?_setCell_other _ _ _ _ (hne 2)]; exact h.b2
  · rw [World.cell?_setCell_other _ _ _ _ (hne 3)]; exact h.b3
  · rw [← matCells_set M x y v hx hy]
    exact heap_setCell_same W g (x * 6 + y) _ _ _ h.mat
end

theorem fitsB_iff (v : Int) : fitsB v = true ↔ -1000000000000 ≤ v ∧ v ≤ 1000000000000 := by simp [fitsB]

/-- A ledger that is nil, or a debt that is not valid. -/
theorem post_bad (lb : Nat) (d c u a : Int) (w : World) (hv : validB d c u a = false) :
    Calls Try.prog 17 #[.pointer (some ⟨lb, 0, none⟩), .agg #[.int .i64 d, .int .i64 c, .int .i64 u, .int .i64 a]] w fun e w' => e = .returned (.int .i64 1) ∧ Below w.heap.size w w' := by
  go_enter Try.func17, Try.ntmps17
  go_wp2_with (first
    | (go_at_call 34; refine (valid_any _ _ _ _ _).mono ?_; rintro e w' ⟨rfl, rfl⟩))
  go_ret
  exact ⟨rfl, ((Below.refl _ _).alloc (Nat.le_refl _) _).alloc (by simp) _⟩

theorem post_nil (d c u a : Int) (w : World) :
    Calls Try.prog 17 #[.pointer none, .agg #[.int .i64 d, .int .i64 c, .int .i64 u, .int .i64 a]] w fun e w' => e = .returned (.int .i64 1) ∧ Below w.heap.size w w' := by
  go_enter Try.func17, Try.ntmps17
  go_wp2_with fail
  go_ret
  exact ⟨rfl, (Below.refl _ _).alloc (Nat.le_refl _) _⟩

/-- What Post does of a valid debt; M: the matrix of its currency. -/
def PostPost (w : World) (lb mb : Nat) (m : List (Int × (Nat → Nat → Int))) (d c : Nat) (u a : Int) (M : Nat → Nat → Int) (e : Ending) (w' : World) : Prop :=
  if (fitsB (colSum (entered M d c a) d 6) && fitsB (colSum (entered M d c a) c 6)) = true then
    e = .returned (.int .i64 0) ∧ w.grownBy w' (some mb) ∧ LedA w' lb mb (setKey m u (entered M d c a))
  else e = .returned (.int .i64 2) ∧ Below w.heap.size w w'

set_option maxHeartbeats 2000000 in
theorem post_ok (lb mb d c : Nat) (u a : Int) (m : List (Int × (Nat → Nat → Int))) (B : Int) (w : World) (h : LedA w lb mb m) (hB : MBd B (mat m u)) (hB2 : B ≤ 900000000000000) (hB0 : 0 ≤ B) (hv : validB d c u a = true) :
    Calls Try.prog 17 #[.pointer (some ⟨lb, 0, none⟩), .agg #[.int .i64 d, .int .i64 c, .int .i64 u, .int .i64 a]] w (PostPost w lb mb m d c u a (mat m u)) := by
  have hd : d < 6 := by simp [validB] at hv; omega
  have hc : c < 6 := by simp [validB] at hv; omega
  have ha : 1 ≤ a ∧ a ≤ 1000000000000 := by simp [validB] at hv; omega
  have hdc : d ≠ c := by simp [validB] at hv; omega
  generalize hM : mat m u = M at *
  go_enter Try.func17, Try.ntmps17
  go_wp2_with (first
    | (go_at_call 34; refine (valid_any _ _ _ _ _).mono ?_; rintro e w' ⟨rfl, rfl⟩))
  obtain ⟨W, hW, hA, hbox0, hbox1, hbox2, hbox3, hbel⟩ : ∃ W, W = (w.alloc (.cells #[.int .i64 d, .int .i64 c, .int .i64 u, .int .i64 a] 37)).alloc (.cells #[.int .i64 d, .int .i64 c, .int .i64 u, .int .i64 a] 37) ∧ LedA W lb mb m ∧
      W.cell? ⟨w.heap.size, 0, none⟩ = some (.int .i64 d) ∧ W.cell? ⟨w.heap.size, 1, none⟩ = some (.int .i64 c) ∧ W.cell? ⟨w.heap.size, 2, none⟩ = some (.int .i64 u) ∧ W.cell? ⟨w.heap.size, 3, none⟩ = some (.int .i64 a) ∧ Below w.heap.size w W :=
    ⟨_, rfl, (h.alloc _).alloc _, by simp [go_sem], by simp [go_sem], by simp [go_sem], by simp [go_sem], ((Below.refl _ _).alloc (Nat.le_refl _) _).alloc (by simp) _⟩
  have hsz : w.heap.size < W.heap.size := by rw [hW]; simp; omega
  rw [← hW]
  clear hW
  have hcell := hA.cell
  have hlb := hA.lt
  have hmb := hA.map.lt
  have hl1 := hA.drew.lookup u
  have hl2 := fun o => (hA.alloc o).drew.lookup u
  rw [hM] at hl1 hl2
  have hst : ∀ (cur : Array Value) (_ : cur.size = 36), (storeCells ⟨W.heap.size, 0, none⟩ (matCells M)).run Try.prog (W.alloc (.cells cur 58)).drew = .ok () (W.alloc (.cells (matCells M).toArray 58)).drew := fun cur hc => store_mat W.drew cur M hc
  have hlen := matCells_length M
  go_region
  go_wp2_with fail
  obtain ⟨W2, hW2, hP⟩ : ∃ W2, W2 = (W.alloc (.cells (matCells M).toArray 58)).drew ∧ PSt w W2 w.heap.size W.heap.size lb mb m d c u a M :=
    ⟨_, rfl, ⟨(hA.alloc _).drew, (World.cell?_alloc_lt W _ _ hsz).trans hbox0, (World.cell?_alloc_lt W _ _ hsz).trans hbox1, (World.cell?_alloc_lt W _ _ hsz).trans hbox2, (World.cell?_alloc_lt W _ _ hsz).trans hbox3,
      heap_alloc_new W _, (hbel.alloc hbel.size _).drew, by omega, by omega, by omega, by omega⟩⟩
  rw [← hW2]
  clear hW2 hst hl1 hl2 hcell hbox0 hbox1 hbox2 hbox3
  generalize W.heap.size = g at hP ⊢
  have q0 := hP.b0
  have q1 := hP.b1
  have q2 := hP.b2
  have q3 := hP.b3
  have qc := hP.cell hd hc
  have qf := hP.free
  have qb := hB d c
  have hd1 : (d : Int) < 6 := by omega
  have hc1 : (c : Int) < 6 := by omega
  go_region
  go_wp2_with fail
  obtain ⟨W3, hW3, hP3⟩ : ∃ W3, W3 = (W2.setCell ⟨g, d * 6 + c, none⟩ (.int .i64 (M d c + a))).drew ∧ PSt w W3 w.heap.size g lb mb m d c u a (setM M d c (M d c + a)) := ⟨_, rfl, (hP.set hd hc _).drew⟩
  rw [← hW3]
  clear hW3 q0 q1 q2 q3 qc qf hP
  have q0 := hP3.b0
  have q1 := hP3.b1
  have q2 := hP3.b2
  have q3 := hP3.b3
  have qc := hP3.cell hc hd
  have qe : setM M d c (M d c + a) c d = M c d := by simp [setM, Ne.symm hdc]
  rw [qe] at qc
  clear qe
  have qf := hP3.free
  have qb2 := hB c d
  go_region
  go_wp2_with fail
  obtain ⟨W4, hW4, hP4⟩ : ∃ W4, W4 = (W3.setCell ⟨g, c * 6 + d, none⟩ (.int .i64 (M c d - a))).drew ∧ PSt w W4 w.heap.size g lb mb m d c u a (entered M d c a) := ⟨_, rfl, (hP3.set hc hd _).drew⟩
  rw [← hW4]
  clear hW4 q0 q1 q2 q3 qc qf hP3
  have hE : MBd (B + 1000000000000) (entered M d c a) := setM_bd (setM_bd hB d c (by omega) (by omega)) c d (Int.le_refl _) (by omega)
  obtain ⟨E, hEq⟩ : ∃ E, E = entered M d c a := ⟨_, rfl⟩
  rw [← hEq] at hE hP4
  have HE := Lib.hid hEq
  clear hEq
  have q0 := hP4.b0
  have q1 := hP4.b1
  have q2 := hP4.b2
  have hp : ∀ s, s < 6 → ∀ a, a < 6 → W4.cell? ⟨g, 0 + a * 6 + s, none⟩ = some (.int .i64 (E a s)) := fun s hs a ha => by rw [Nat.zero_add]; exact hP4.cell ha hs
  have Hp := Lib.hid hp
  clear hp
  have hlc := hP4.led.cell
  have hrange : W4.rangeAt g 0 (matCells E) := fun j v hv => by rw [Nat.zero_add]; exact (cell_of_row W4 g j _ _ _ hP4.mat).trans (by rw [List.getElem?_toArray]; exact hv)
  have hinfo : (Try.prog.info? 58).map (·.size) = some (matCells E).length := by rw [matCells_length]; exact info_matrix
  have hone := matCells_one E
  have hund := Try.underlying58
  have hlen4 := matCells_length E
  obtain ⟨W5, hupd, hmap5, hgr5⟩ := run_mapUpdate_imap (P := Try.prog) Try.underlying53 Try.underlying3 hP4.drew.led.map u E
  have hupd2 : (Instr.mapUpdate 53 (.map (some mb)) (.int .i64 u) (.agg (matCells E).toArray)).run Try.prog W4.drew = .ok () W5 := hupd
  clear hupd
  have hbelB := hP4.bel
  have hledB := hP4.led
  have hlm : lb ≠ mb := by
    rintro rfl
    obtain ⟨es, cl, hh, _⟩ := hP4.led.map
    rw [hP4.led.led] at hh
    cases hh
  clear hP4
  by_cases f1 : fitsB (colSum E d 6) = true
  · by_cases f2 : fitsB (colSum E c 6) = true
    · go_wp2_with (first
        | (go_at_call 36; refine (position_any g 0 _ E _ _ (by assumption) hE (by omega) (by omega) (Hp.out _ (by assumption))).mono ?_; rintro e w' ⟨rfl, rfl⟩)
        | (go_at_call 35; refine (fits_any _ _).mono ?_; rintro e w' ⟨rfl, rfl⟩))
      refine wp_region_still_tail 7 (by kernel_rfl) (by kernel_rfl) ?_
      simp only [List.take_succ_cons, List.take_zero, List.drop_succ_cons, List.drop_zero]
      repeat still_step
      refine wpStill_load_mid rfl 58 (.tmp 5) rfl g 0 rfl (matCells E) _ hrange hund rfl hinfo ?_
      refine wpStill_nil ?_
      change wpList _ _ _ _ _ W4.drew
      go_wp2_with fail
      go_ret
      show PostPost _ _ _ _ _ _ _ _ _ _ _
      unfold PostPost
      rw [← HE.out, f1, f2]
      refine ⟨rfl, grownBy_trans (grownBy_of_below hbelB.drew _) hgr5, ⟨?_, hmap5, nodup_setKey _ _ _ hledB.nodup⟩⟩
      exact (hgr5.block lb hledB.lt (fun e => hlm (by injection e))).trans hledB.led
    · have f2' : fitsB (colSum E c 6) = false := by simpa using f2
      clear f2
      go_wp2_with (first
        | (go_at_call 36; refine (position_any g 0 _ E _ _ (by assumption) hE (by omega) (by omega) (Hp.out _ (by assumption))).mono ?_; rintro e w' ⟨rfl, rfl⟩)
        | (go_at_call 35; refine (fits_any _ _).mono ?_; rintro e w' ⟨rfl, rfl⟩))
      go_ret
      show PostPost _ _ _ _ _ _ _ _ _ _ _
      unfold PostPost
      rw [← HE.out, f1, f2']
      exact ⟨rfl, hbelB⟩
  · have f1' : fitsB (colSum E d 6) = false := by simpa using f1
    clear f1
    go_wp2_with (first
      | (go_at_call 36; refine (position_any g 0 _ E _ _ (by assumption) hE (by omega) (by omega) (Hp.out _ (by assumption))).mono ?_; rintro e w' ⟨rfl, rfl⟩)
      | (go_at_call 35; refine (fits_any _ _).mono ?_; rintro e w' ⟨rfl, rfl⟩))
    go_ret
    show PostPost _ _ _ _ _ _ _ _ _ _ _
    unfold PostPost
    rw [← HE.out, f1']
    exact ⟨rfl, hbelB⟩
end Go.Proofs.Ytldkblkcbffelaa
