/- Contains of the program: slices.ContainsFunc with its closure. -/
import Derived.Test.YtkncfhdfobcjeaaSpNth
namespace Go.Proofs.Ytkncfhdfobcjeaa
open Go.RowKit

set_option maxHeartbeats 1000000 in
theorem incl_any (f t d : Int) (p : Addr) (w : World) (hp : w.cell? p = some (.int .i64 d)) (hpl : p.block < w.heap.size) :
    Calls Try.prog 100 #[.agg #[.int .i64 f, .int .i64 t], .pointer (some p)] w fun e w' => e = .returned (.bool (inS ⟨f, t⟩ d)) ∧ Below w.heap.size w w' := by
  have hp2 : (w.alloc (.cells #[.int .i64 f, .int .i64 t] 48)).cell? p = some (.int .i64 d) := (World.cell?_alloc_lt w _ p hpl).trans hp
  have hb := (Below.refl w.heap.size w).alloc (Nat.le_refl _) (.cells #[.int .i64 f, .int .i64 t] 48)
  have hrow : (w.alloc (.cells #[.int .i64 f, .int .i64 t] 48)).heap[w.heap.size]? = some (.cells #[.int .i64 f, .int .i64 t] 48 (0, 0)) := heap_alloc_new w _
  by_cases h1 : f ≤ d
  · by_cases h2 : d < t
    · have e1 : decide (f ≤ d) = true := by simpa using h1
      have e2 : decide (d < t) = true := by simpa using h2
      have hv : inS ⟨f, t⟩ d = true := (inS_iff _ _).2 ⟨h1, h2⟩
      rw [hv]
      clear hv
      go_enter Try.func100, Try.ntmps100
      go_wp2_with fail
      go_ret
      exact ⟨rfl, hb⟩
    · have e1 : decide (f ≤ d) = true := by simpa using h1
      have e2 : decide (d < t) = false := by simpa using h2
      have hv : inS ⟨f, t⟩ d = false := (inS_false _ _).2 (by show ¬(f ≤ d ∧ d < t); omega)
      rw [hv]
      clear hv
      go_enter Try.func100, Try.ntmps100
      go_wp2_with fail
      go_ret
      exact ⟨rfl, hb⟩
  · have e1 : decide (f ≤ d) = false := by simpa using h1
    have hv : inS ⟨f, t⟩ d = false := (inS_false _ _).2 (by show ¬(f ≤ d ∧ d < t); omega)
    rw [hv]
    clear hv
    go_enter Try.func100, Try.ntmps100
    go_wp2_with fail
    go_ret
    exact ⟨rfl, hb⟩

/-- An index is returned: from 0 on if there is one. -/
def RetIx (w : World) (b : Bool) (e : Ending) (w' : World) : Prop := ∃ i : Int, e = .returned (.int .i64 i) ∧ -1 ≤ i ∧ decide (0 ≤ i) = b ∧ Below w.heap.size w w'

set_option maxHeartbeats 2000000 in
theorem ixfn_any {A : Option Addr} {n c : Nat} {l : List Sp} {w : World} (d : Int) (p : Addr) (h : Ds w A n l) (hn : n ≤ 1000000) (hp : w.cell? p = some (.int .i64 d)) (hpl : p.block < w.heap.size) :
    Calls Try.prog 128 #[.slice A n c, .func (.func 100) #[] #[.pointer (some p)]] w (RetIx w (cov l d)) := by
  have HN := Lib.hid h.2
  have hrd := h.1
  clear h
  go_enter Try.func128, Try.ntmps128
  go_wp2_with fail
  go_loopw [8] (fun i wr => ∃ k : Nat, k ≤ n ∧ i = .int .i64 (k : Int) ∧ cov (l.take k) d = false ∧ Below w.heap.size w wr) (fun i _ => n - (intOf i).toNat)
  case atStart => exact ⟨0, by omega, rfl, by simp [cov], Below.refl _ _⟩
  case round =>
    obtain ⟨k, hk, rfl, hno, hb⟩ := hrel
    have hwsz := hb.size
    by_cases hlt : k < n
    · have hkl : k < l.length := by rw [HN.out]; exact hlt
      obtain ⟨x, hx⟩ : ∃ x, l[k]? = some x := ⟨_, List.getElem?_eq_getElem hkl⟩
      obtain ⟨_, g, o, rfl, hgb, e0, e1⟩ := sp_cells (hrd.below hb) hx
      have hlo : (0 : Int) ≤ (k : Int) := by omega
      have hhi : (k : Int) < (n : Int) := by omega
      have hcv : cov (l.take (k + 1)) d = inS x d := by
        rw [take_snocS hx, cov_append, hno, Bool.false_or, cov_cons, cov_nil, Bool.or_false]
      have hcy : inS x d = true → cov l d = true := fun hi => (cov_iff l d).2 ⟨x, List.mem_of_getElem? hx, (inS_iff x d).1 hi⟩
      have HCV := Lib.hid hcv
      have HCY := Lib.hid hcy
      have hpr := (hb.cell (p := p) hpl).trans hp
      clear hx hno hcv hcy hp
      go_wp2_with fail
      refine (incl_any x.f x.t d p _ hpr (by omega)).mono ?_
      rintro e w2 ⟨rfl, hb2⟩
      have hb3 := hb.trans (hb2.mono hwsz)
      cases hi : inS x d
      · rw [hi] at HCV
        clear hi
        go_wp2_with fail
        go_roundw
        case rel => exact ⟨k + 1, by omega, by go_num, HCV.out, hb3⟩
        case measure => simp [intOf]; omega
      · have hc := HCY.out hi
        have HC := Lib.hid hc
        clear hi hc HCY
        go_wp2_with fail
        go_ret
        exact ⟨k, rfl, by omega, by rw [HC.out]; simp, hb3⟩
    · rw [List.take_of_length_le (by have := HN.out; omega)] at hno
      have HC := Lib.hid hno
      clear hno
      go_wp2_with fail
      go_ret
      exact ⟨-1, rfl, by omega, by rw [HC.out]; rfl, hb⟩

set_option maxHeartbeats 1000000 in
theorem ctfn_any {A : Option Addr} {n c : Nat} {l : List Sp} {w : World} (d : Int) (p : Addr) (h : Ds w A n l) (hn : n ≤ 1000000) (hp : w.cell? p = some (.int .i64 d)) (hpl : p.block < w.heap.size) :
    Calls Try.prog 99 #[.slice A n c, .func (.func 100) #[] #[.pointer (some p)]] w fun e w' => e = .returned (.bool (cov l d)) ∧ Below w.heap.size w w' := by
  go_enter Try.func99, Try.ntmps99
  go_wp2_with fail
  refine (ixfn_any d p h hn hp hpl).mono ?_
  rintro e w1 ⟨i, rfl, hi, hv, hb⟩
  have HV := Lib.hid hv
  clear hv
  go_wp2_with fail
  go_ret
  exact ⟨ret_bool HV.out, hb⟩

set_option maxHeartbeats 1000000 in
theorem contains_any {A : Option Addr} {n c : Nat} {l : List Sp} {w : World} (d : Int) (h : Ds w A n l) (hn : n ≤ 1000000) :
    Calls Try.prog 75 #[.slice A n c, .int .i64 d] w fun e w' => e = .returned (.bool (dset l d)) ∧ Below w.heap.size w w' := by
  have hb := (Below.refl w.heap.size w).alloc (Nat.le_refl _) (.cells #[.int .i64 d] 3)
  by_cases h0 : d < 0
  · have e0 : decide (d < 0) = true := by simpa using h0
    have hv : dset l d = false := by
      unfold dset
      rw [show isD d = false by rw [Bool.eq_false_iff]; intro e; have := (isD_iff d).1 e; omega]
      rfl
    rw [hv]
    clear hv
    go_enter Try.func75, Try.ntmps75
    go_wp2_with fail
    go_ret
    exact ⟨rfl, hb⟩
  · have e0 : decide (d < 0) = false := by simpa using h0
    by_cases h1 : 73049 ≤ d
    · have e1 : decide (73049 ≤ d) = true := by simpa using h1
      have hv : dset l d = false := by
        unfold dset
        rw [show isD d = false by rw [Bool.eq_false_iff]; intro e; have := (isD_iff d).1 e; omega]
        rfl
      rw [hv]
      clear hv
      go_enter Try.func75, Try.ntmps75
      go_wp2_with fail
      go_ret
      exact ⟨rfl, hb⟩
    · have e1 : decide (73049 ≤ d) = false := by simpa using h1
      have hv : dset l d = cov l d := by
        unfold dset
        rw [(isD_iff d).2 (by omega), Bool.true_and]
      rw [hv]
      clear hv
      go_enter Try.func75, Try.ntmps75
      go_wp2_with fail
      have hc : (w.alloc (.cells #[.int .i64 d] 3)).cell? ⟨w.heap.size, 0, none⟩ = some (.int .i64 d) := by rw [World.cell?_alloc_new]; rfl
      refine (ctfn_any d ⟨w.heap.size, 0, none⟩ (h.below hb) hn hc (by simp)).mono ?_
      rintro e w1 ⟨rfl, hb1⟩
      go_wp2_with fail
      go_ret
      exact ⟨rfl, hb.trans (hb1.mono hb.size)⟩
end Go.Proofs.Ytkncfhdfobcjeaa
