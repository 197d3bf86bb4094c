/- Fractions' texts and validity: gcd as a function, ValidFraction, digits, FormatFraction, FormatDecimal. Trees measured and checked: the reference's Depth, Size, formed, ValidExpr. Fractions' and decimals' texts: FormatFraction, FormatDecimal. Trees checked: the reference's formed and ValidExpr. -/
import Derived.Test.YtghmmcdeejhcjaaGreatQc
namespace Go.Proofs.YtghmmcdeejhcjaaGreat
open Go.RowKit

theorem drewN_drewN (w : World) (a b : Nat) : ∃ q, (w.drewN a).drewN b = w.drewN q := ⟨_, World.drewN_drewN w a b⟩
set_option maxHeartbeats 1000000 in
theorem gcd_fn (a b : Nat) (ha : a ≤ 9000000000000000000) (hb : b ≤ 9000000000000000000) (w : World) : Calls Tryz.prog 121 #[.int .u64 (a : Int), .int .u64 (b : Int)] w fun e w' => e = .returned (.int .u64 ((Nat.gcd a b : Nat) : Int)) ∧ ∃ q, w' = w.drewN q := by
  go_enter Tryz.func121, Tryz.ntmps121
  go_wp2_with fail
  go_loopw [0, 1] (fun u v wr => ∃ x y : Nat, u = .int .u64 (x : Int) ∧ v = .int .u64 (y : Int) ∧ x ≤ 9000000000000000000 ∧ y ≤ 9000000000000000000 ∧ Hid (Nat.gcd x y = Nat.gcd a b) ∧ ∃ q, wr = w.drewN q) (fun _ v _ => (intOf v).toNat)
  case atStart => exact ⟨a, b, rfl, rfl, ha, hb, Lib.hid rfl, 0, rfl⟩
  case round =>
    obtain ⟨x, y, rfl, rfl, hx, hy, hg, q, rfl⟩ := hrel
    by_cases h0 : y = 0
    · subst h0
      go_wp2_with fail
      go_ret
      refine ⟨?_, _, rfl⟩
      show Ending.returned (.int .u64 (x : Int)) = _
      rw [← hg.out, Nat.gcd_zero_right]
    · have d0 : ((y : Int) != 0) = true := by simp; omega
      have hym : x % y < y := Nat.mod_lt _ (by omega)
      have hy1 : 1 ≤ y := by omega
      go_wp2_with fail
      go_quiet (fail)
      go_wp2_with fail
      go_roundw
      case rel => exact ⟨y, x % y, rfl, by go_num, hy, by omega, Lib.hid (by rw [← hg.out, Nat.gcd_comm x y, Nat.gcd_rec y x, Nat.gcd_comm]), drewN_drewN _ _ _⟩
      case measure => simp [intOf]; omega
def RetBb (w : World) (e : Ending) (w' : World) : Prop := ∃ b : Bool, e = .returned (.bool b) ∧ Below w.heap.size w w'
def RetVf (d : Int) (w : World) (e : Ending) (w' : World) : Prop := ∃ b : Bool, e = .returned (.bool b) ∧ (b = true → 1 ≤ d) ∧ Below w.heap.size w w'
theorem box_drewN {w : World} (o : Obj) (q : Nat) : Below w.heap.size w ((w.alloc o).drewN q) := by
  have h := (Below.refl w.heap.size w).alloc (Nat.le_refl _) o
  exact ⟨h.os, h.tape, h.output, h.size, h.block⟩
set_option maxRecDepth 100000 in
set_option maxHeartbeats 2000000 in
theorem vfr_any (n d : Int) (hf : FrOk n d) (w : World) : Calls Tryz.prog 92 #[.agg #[.int .i64 n, .int .i64 d]] w (RetVf d w) := by
  obtain ⟨h1, h2, h3, h4⟩ := hf
  have t2 : decide (d ≤ 1000000000) = true := decide_eq_true h4
  have t3 : decide (-1000000000000000 ≤ n) = true := decide_eq_true (by omega)
  have t4 : decide (n ≤ 1000000000000000) = true := decide_eq_true h2
  by_cases hd : 1 ≤ d
  · have t1 : decide (1 ≤ d) = true := decide_eq_true hd
    obtain ⟨x, rfl⟩ : ∃ x : Nat, n = (x : Int) := ⟨n.toNat, by omega⟩
    obtain ⟨y, rfl⟩ : ∃ y : Nat, d = (y : Int) := ⟨d.toNat, by omega⟩
    have t5 : IntKind.u64.wrap (y : Int) = (y : Int) := IntWalk.u64_in _ (by omega)
    have hs1 := fun u => size_any (x : Int) (by omega) (by omega) u
    have hg1 := fun u => gcd_fn x y (by omega) (by omega) u
    have h1' : (0 : Int) ≤ (y : Int) := by omega
    go_enter Tryz.func92, Tryz.ntmps92
    go_upto_region 1 with (fail)
    go_quiet (first
      | (go_at_call 87; exact Calls.quiet_of_same ((hs1 _).mono fun _ _ h => ⟨h.1, h.2.symm⟩))
      | (go_at_call 121; exact Calls.quiet_of (hg1 _)))
    go_wp2_with fail
    go_ret
    exact ⟨_, rfl, (fun _ => hd), box_drewN _ _⟩
  · have t1 : decide (1 ≤ d) = false := decide_eq_false hd
    go_enter Tryz.func92, Tryz.ntmps92
    go_upto_region 1 with (fail)
    go_quiet (fail)
    go_wp2_with fail
    go_ret
    exact ⟨_, rfl, (fun h => by cases h), box_drewN _ _⟩
def RetSt (w : World) (e : Ending) (w' : World) : Prop := ∃ s : ByteArray, e = .returned (.string s) ∧ Below w.heap.size w w'
set_option maxHeartbeats 2000000 in
theorem digits1_any {x : Int} (h0 : 0 ≤ x) (h1 : x ≤ 9000000000000000) (w : World) : Calls Tryz.prog 127 #[.int .i64 x, .int .i64 1] w fun e w' => (∃ s : ByteArray, e = .returned (.string s) ∧ (s.size : Int) ≤ x + 1) ∧ w = w' := by
  obtain ⟨n, rfl⟩ : ∃ n : Nat, x = (n : Int) := ⟨x.toNat, by omega⟩
  go_enter Tryz.func127, Tryz.ntmps127
  go_wp2_with fail
  go_loop [0, 5] (fun i v => ∃ (k : Nat) (s : ByteArray), s.size + k ≤ n + 1 ∧ k ≤ n ∧ i = .int .i64 (k : Int) ∧ v = .string s) (fun i v => (intOf i).toNat + (match v with | .string s => 1 - s.size | _ => 0))
  case atStart => exact ⟨n, ⟨#[]⟩, by show 0 + n ≤ n + 1; omega, by omega, rfl, rfl⟩
  case round =>
    obtain ⟨k, s, hk, hkn, rfl, rfl⟩ := hrel
    have m0 : k % 10 < 10 := Nat.mod_lt _ (by omega)
    have m1 : k / 10 ≤ k := Nat.div_le_self _ _
    have m2 : (k : Int).tmod 10 = ((k % 10 : Nat) : Int) := by rw [Int.tmod_eq_emod_of_nonneg (by omega)]; omega
    have m3 : (k : Int).tdiv 10 = ((k / 10 : Nat) : Int) := by rw [Int.tdiv_eq_ediv_of_nonneg (by omega)]; omega
    have m5 : ((⟨#[48, 49, 50, 51, 52, 53, 54, 55, 56, 57]⟩ : ByteArray).extract (k % 10) (k % 10 + 1)).size = min (k % 10 + 1) 10 - k % 10 := ByteArray.size_extract
    have m6 : ((⟨#[48, 49, 50, 51, 52, 53, 54, 55, 56, 57]⟩ : ByteArray).extract (k % 10) (k % 10 + 1)).size = 1 := by rw [m5]; omega
    have M6 := Lib.hid m6
    clear m5 m6
    by_cases h0 : 0 < k
    · have d0 : decide (0 < (k : Int)) = true := decide_eq_true (by omega)
      have m4 : k / 10 < k := Nat.div_lt_self h0 (by omega)
      go_wp2_with fail
      go_round
      case rel => exact ⟨k / 10, _, by rw [ByteArray.size_append, M6.out]; omega, by omega, by go_num, rfl⟩
      case measure =>
        have := M6.out
        simp only [intOf, ByteArray.size_append, this]
        omega
    · have d0 : decide (0 < (k : Int)) = false := decide_eq_false (by omega)
      have hk0 : k = 0 := by omega
      subst hk0
      by_cases hs : s.size < 1
      · have d1 : decide ((s.size : Int) < 1) = true := decide_eq_true (by omega)
        go_wp2_with fail
        go_round
        case rel => exact ⟨0, _, by have := M6.out; rw [ByteArray.size_append]; simp only [Nat.zero_mod, Nat.zero_add] at this ⊢; omega, by omega, by go_num, rfl⟩
        case measure =>
          have := M6.out
          simp only [intOf, ByteArray.size_append]
          simp at this
          simp [this]
          omega
      · have d1 : decide ((s.size : Int) < 1) = false := decide_eq_false (by omega)
        go_wp2_with fail
        go_ret
        exact ⟨⟨_, rfl, by omega⟩, rfl⟩

/-- What a tree's children share. -/
structure Kid (w : World) (A : Option Addr) (l : List Ex) : Prop where
  len : l.length ≤ 3
  rd : Rd w w.heap.size 6 A l.length (flat Ex.cells l)
theorem ExB.good {o n d m : Int} {s : ByteArray} (h : ExB o n d m s) : s.size ≤ 100000 := h.2.2.2.2.2
/-- A tree's induction, over all worlds in which what was there stands. -/
theorem ex_ind {P : Nat → Prop} {w : World} {Q : Ex → World → Prop} {x : Ex} (h : ExOk P w x)
    (H : ∀ (o n d m : Int) (s : ByteArray) (A : Option Addr) (c : Nat) (l : List Ex) (u : World), ExB o n d m s → Kid u A l → (∀ (k : Nat) (y : Ex), l[k]? = some y → ∀ v, Below u.heap.size u v → Q y v) → Q (.mk o n d m s A c l) u) :
    ∀ u, Below w.heap.size w u → Q x u := by
  induction h with
  | leaf hb => exact fun u hu => H _ _ _ _ _ _ _ _ u hb ⟨by simp, ⟨rfl, fun h => by simp at h⟩⟩ (fun k y h => by simp at h)
  | node hb hl hp hr ha ih =>
    intro u hu
    have hlt := (Array.getElem?_eq_some_iff.1 hr).1
    refine H _ _ _ _ _ _ _ _ u hb ⟨hl, ⟨flat_length ex_len _, fun _ => ⟨_, 0, rfl, Nat.lt_of_lt_of_le hlt hu.size, fun j v hv => ?_⟩⟩⟩ (fun k y hy v hv => ih y (List.mem_of_getElem? hy) v (hu.trans (hv.mono hu.size)))
    rw [Nat.zero_add, cell_of_row _ _ _ _ _ _ ((hu.block _ hlt).trans hr)]
    simpa using hv
theorem kid_cells {w : World} {A : Option Addr} {l : List Ex} (h : Kid w A l) {k : Nat} {o n d m : Int} {s : ByteArray} {B : Option Addr} {c : Nat} {r : List Ex} (hx : l[k]? = some (.mk o n d m s B c r)) :
    ∃ b p, A = some ⟨b, p, none⟩ ∧ b < w.heap.size ∧ w.cell? ⟨b, p + k * 6, none⟩ = some (.int .i64 o) ∧ w.cell? ⟨b, p + k * 6 + 1, none⟩ = some (.int .i64 n) ∧ w.cell? ⟨b, p + k * 6 + 2, none⟩ = some (.int .i64 d) ∧ w.cell? ⟨b, p + k * 6 + 3, none⟩ = some (.int .i64 m) ∧
      w.cell? ⟨b, p + k * 6 + 4, none⟩ = some (.string s) ∧ w.cell? ⟨b, p + k * 6 + 5, none⟩ = some (.slice B r.length c) := by
  obtain ⟨_, b, p, e, hb, hc⟩ := h.rd.elem ex_len hx (by omega)
  exact ⟨b, p, e, hb, by simpa using hc 0 _ rfl, hc 1 _ rfl, hc 2 _ rfl, hc 3 _ rfl, hc 4 _ rfl, hc 5 _ rfl⟩
def RetIi (w : World) (e : Ending) (w' : World) : Prop := ∃ r : Int, e = .returned (.int .i64 r) ∧ Below w.heap.size w w'
abbrev boxE (o n d m : Int) (s : ByteArray) (A : Option Addr) (l : List Ex) (c : Nat) : Obj := .cells #[.int .i64 o, .int .i64 n, .int .i64 d, .int .i64 m, .string s, .slice A l.length c] 120
theorem Kid.to {w w' : World} {A : Option Addr} {l : List Ex} (h : Kid w A l) (hb : Below w.heap.size w w') : Kid w' A l := ⟨h.len, (h.rd.below hb).mono hb.size⟩
set_option maxRecDepth 100000 in
set_option maxHeartbeats 4000000 in
theorem depth_any {P : Nat → Prop} {w : World} {x : Ex} (h : ExOk P w x) : Calls Tryz.prog 94 #[x.agg] w (RetIi w) := by
  refine ex_ind (Q := fun x u => Calls Tryz.prog 94 #[x.agg] u (RetIi u)) h ?_ w (Below.refl _ _)
  clear h
  intro o n d m s A c l u hb hk ih
  dsimp only [Ex.agg]
  go_enter Tryz.func94, Tryz.ntmps94
  go_wp2_with fail
  obtain ⟨W, hW, hrow, hz, hbW⟩ : ∃ W, W = u.alloc (boxE o n d m s A l c) ∧ W.heap[u.heap.size]? = some (boxE o n d m s A l c) ∧ W.heap.size = u.heap.size + 1 ∧ Below u.heap.size u W :=
    ⟨_, rfl, heap_alloc_new u _, by simp, (Below.refl _ _).alloc (Nat.le_refl _) _⟩
  rw [← hW]
  clear hW
  have hkW := hk.to hbW
  go_loopw [3, 4] (fun v i wr => ∃ (k : Nat) (r : Int), k ≤ l.length ∧ v = .int .i64 r ∧ i = .int .i64 (k : Int) ∧ Below W.heap.size W wr) (fun _ i _ => l.length - (intOf i).toNat)
  case atStart => exact ⟨0, _, by omega, rfl, rfl, Below.refl _ _⟩
  case round =>
    obtain ⟨k, r, hkl, rfl, rfl, hbr⟩ := hrel
    have hsz := hbr.size
    have c5 : wr.cell? ⟨u.heap.size, 5, none⟩ = some (.slice A l.length c) := by rw [cell_of_row _ _ _ _ _ _ ((hbr.block u.heap.size (by omega)).trans hrow)]; rfl
    have hl3 := hk.len
    have hbu : Below u.heap.size u wr := hbW.trans (hbr.mono (by omega))
    by_cases hlt : k < l.length
    · obtain ⟨y, hy⟩ : ∃ y, l[k]? = some y := ⟨_, List.getElem?_eq_getElem hlt⟩
      obtain ⟨o1, n1, d1, m1, s1, A1, c1, l1⟩ := y
      obtain ⟨b, p, hA, hbw, x0, x1, x2, x3, x4, x5⟩ := kid_cells (hkW.to hbr) hy
      have ihk := ih k _ hy wr hbu
      clear ih hy
      subst hA
      go_wp2_with fail
      refine ihk.mono ?_
      rintro e w2 ⟨r2, rfl, hb2⟩
      go_wp2_with fail
      go_roundw
      case rel => exact ⟨k + 1, _, by omega, rfl, by go_num, hbr.trans (hb2.mono hsz)⟩
      case measure => simp [intOf]; omega
    · go_wp2_with fail
      go_ret
      exact ⟨_, rfl, hbu⟩
set_option maxRecDepth 100000 in
set_option maxHeartbeats 4000000 in
theorem sizeX_any {P : Nat → Prop} {w : World} {x : Ex} (h : ExOk P w x) : Calls Tryz.prog 95 #[x.agg] w (RetIi w) := by
  refine ex_ind (Q := fun x u => Calls Tryz.prog 95 #[x.agg] u (RetIi u)) h ?_ w (Below.refl _ _)
  clear h
  intro o n d m s A c l u hb hk ih
  dsimp only [Ex.agg]
  go_enter Tryz.func95, Tryz.ntmps95
  go_wp2_with fail
  obtain ⟨W, hW, hrow, hz, hbW⟩ : ∃ W, W = u.alloc (boxE o n d m s A l c) ∧ W.heap[u.heap.size]? = some (boxE o n d m s A l c) ∧ W.heap.size = u.heap.size + 1 ∧ Below u.heap.size u W :=
    ⟨_, rfl, heap_alloc_new u _, by simp, (Below.refl _ _).alloc (Nat.le_refl _) _⟩
  rw [← hW]
  clear hW
  have hkW := hk.to hbW
  go_loopw [3, 4] (fun v i wr => ∃ (k : Nat) (r : Int), k ≤ l.length ∧ v = .int .i64 r ∧ i = .int .i64 (k : Int) ∧ Below W.heap.size W wr) (fun _ i _ => l.length - (intOf i).toNat)
  case atStart => exact ⟨0, _, by omega, rfl, rfl, Below.refl _ _⟩
  case round =>
    obtain ⟨k, r, hkl, rfl, rfl, hbr⟩ := hrel
    have hsz := hbr.size
    have c5 : wr.cell? ⟨u.heap.size, 5, none⟩ = some (.slice A l.length c) := by rw [cell_of_row _ _ _ _ _ _ ((hbr.block u.heap.size (by omega)).trans hrow)]; rfl
    have hl3 := hk.len
    have hbu : Below u.heap.size u wr := hbW.trans (hbr.mono (by omega))
    by_cases hlt : k < l.length
    · obtain ⟨y, hy⟩ : ∃ y, l[k]? = some y := ⟨_, List.getElem?_eq_getElem hlt⟩
      obtain ⟨o1, n1, d1, m1, s1, A1, c1, l1⟩ := y
      obtain ⟨b, p, hA, hbw, x0, x1, x2, x3, x4, x5⟩ := kid_cells (hkW.to hbr) hy
      have ihk := ih k _ hy wr hbu
      clear ih hy
      subst hA
      go_wp2_with fail
      refine ihk.mono ?_
      rintro e w2 ⟨r2, rfl, hb2⟩
      go_wp2_with fail
      go_roundw
      case rel => exact ⟨k + 1, _, by omega, rfl, by go_num, hbr.trans (hb2.mono hsz)⟩
      case measure => simp [intOf]; omega
    · go_wp2_with fail
      go_ret
      exact ⟨_, rfl, hbu⟩

def RetSt2 (w : World) (e : Ending) (w' : World) : Prop := ∃ s : ByteArray, e = .returned (.string s) ∧ (s.size : Int) ≤ 3000000000000000 ∧ Below w.heap.size w w'
set_option maxRecDepth 100000 in
set_option maxHeartbeats 4000000 in
theorem ffr_any (n d : Int) (hf : FrOk n d) (w : World) : Calls Tryz.prog 93 #[.agg #[.int .i64 n, .int .i64 d]] w (RetSt2 w) := by
  obtain ⟨f1, f2, f3, f4⟩ := hf
  go_enter Tryz.func93, Tryz.ntmps93
  go_upto_region 1 with (fail)
  obtain ⟨W, hW, hrow, hz, hbW⟩ : ∃ W, W = w.alloc (.cells #[.int .i64 n, .int .i64 d] 38) ∧ W.heap[w.heap.size]? = some (.cells #[.int .i64 n, .int .i64 d] 38 (0, 0)) ∧ W.heap.size = w.heap.size + 1 ∧ Below w.heap.size w W :=
    ⟨_, rfl, heap_alloc_new w _, by simp, (Below.refl _ _).alloc (Nat.le_refl _) _⟩
  rw [← hW]
  clear hW
  have c0 : W.cell? ⟨w.heap.size, 0, none⟩ = some (.int .i64 n) := by rw [cell_of_row _ _ _ _ _ _ hrow]; rfl
  have c1 : W.cell? ⟨w.heap.size, 1, none⟩ = some (.int .i64 d) := by rw [cell_of_row _ _ _ _ _ _ hrow]; rfl
  go_wp2_with fail
  refine (vfr_any n d ⟨f1, f2, f3, f4⟩ _).mono ?_
  rintro e w1 ⟨b, rfl, hd, hb1⟩
  have hrow1 := (hb1.block w.heap.size (by omega)).trans hrow
  have hbb := hbW.trans (hb1.mono (by omega))
  clear hrow hbW hb1 c0 c1
  have c0 : w1.cell? ⟨w.heap.size, 0, none⟩ = some (.int .i64 n) := by rw [cell_of_row _ _ _ _ _ _ hrow1]; rfl
  have c1 : w1.cell? ⟨w.heap.size, 1, none⟩ = some (.int .i64 d) := by rw [cell_of_row _ _ _ _ _ _ hrow1]; rfl
  clear hrow1
  cases b
  · clear hd
    go_wp2_with fail
    go_ret
    exact ⟨_, rfl, by decide, hbb⟩
  · have d1 := hd rfl
    clear hd
    have t0 : decide (n < 0) = false := decide_eq_false (by omega)
    go_wp2_with fail
    refine (size_any n (by omega) (by omega) _).mono ?_
    rintro e w2 ⟨rfl, rfl⟩
    go_wp2_with fail
    refine (digits1_any (x := n) (by omega) (by omega) _).mono ?_
    rintro e w2 ⟨⟨s, rfl, hs⟩, rfl⟩
    by_cases h1 : d = 1
    · have e1 : (d != 1) = false := by simp [h1]
      clear h1
      go_wp2_with fail
      go_ret
      exact ⟨_, rfl, by omega, hbb⟩
    · have e1 : (d != 1) = true := by simp [h1]
      clear h1
      go_wp2_with fail
      refine (digits1_any (x := d) (by omega) (by omega) _).mono ?_
      rintro e w2 ⟨⟨s2, rfl, hs2⟩, rfl⟩
      go_wp2_with fail
      go_ret
      exact ⟨_, rfl, by simp only [ByteArray.size_append]; have : (⟨#[47]⟩ : ByteArray).size = 1 := rfl; omega, hbb⟩
theorem Below.dN {B : Nat} {w w' : World} (h : Below B w w') (q : Nat) : Below B w (w'.drewN q) := ⟨h.os, h.tape, h.output, h.size, h.block⟩
theorem ext_size1 (s : ByteArray) (a : Nat) : ((s.extract a (a + 1)).size : Int) ≤ 1 := by rw [ByteArray.size_extract]; omega
def RetFd (w : World) (e : Ending) (w' : World) : Prop := ∃ (s : ByteArray) (b : Bool), e = .returned (.tuple #[.string s, .bool b]) ∧ Below w.heap.size w w'
set_option maxRecDepth 100000 in
set_option maxHeartbeats 8000000 in
theorem fdec_any (n d dim : Int) (hf : FrOk n d) (w : World) : Calls Tryz.prog 63 #[.agg #[.int .i64 n, .int .i64 d], .int .i64 dim] w (RetFd w) := by
  obtain ⟨f1, f2, f3, f4⟩ := hf
  go_enter Tryz.func63, Tryz.ntmps63
  go_upto_region 1 with (fail)
  obtain ⟨W, hW, hrow, hz, hbW⟩ : ∃ W, W = w.alloc (.cells #[.int .i64 n, .int .i64 d] 38) ∧ W.heap[w.heap.size]? = some (.cells #[.int .i64 n, .int .i64 d] 38 (0, 0)) ∧ W.heap.size = w.heap.size + 1 ∧ Below w.heap.size w W :=
    ⟨_, rfl, heap_alloc_new w _, by simp, (Below.refl _ _).alloc (Nat.le_refl _) _⟩
  rw [← hW]
  clear hW
  have c0 : W.cell? ⟨w.heap.size, 0, none⟩ = some (.int .i64 n) := by rw [cell_of_row _ _ _ _ _ _ hrow]; rfl
  have c1 : W.cell? ⟨w.heap.size, 1, none⟩ = some (.int .i64 d) := by rw [cell_of_row _ _ _ _ _ _ hrow]; rfl
  go_wp2_with fail
  refine (vfr_any n d ⟨f1, f2, f3, f4⟩ _).mono ?_
  rintro e w1 ⟨b, rfl, hd, hb1⟩
  have hrow1 := (hb1.block w.heap.size (by omega)).trans hrow
  have hbb := hbW.trans (hb1.mono (by omega))
  have hz1 := hb1.size
  clear hrow hbW hb1 c0 c1
  have c0 : w1.cell? ⟨w.heap.size, 0, none⟩ = some (.int .i64 n) := by rw [cell_of_row _ _ _ _ _ _ hrow1]; rfl
  have c1 : w1.cell? ⟨w.heap.size, 1, none⟩ = some (.int .i64 d) := by rw [cell_of_row _ _ _ _ _ _ hrow1]; rfl
  cases b
  · clear hd
    go_wp2_with fail
    go_ret2
    exact ⟨_, _, rfl, hbb⟩
  · have d1 := hd rfl
    clear hd
    have t0 : decide (n < 0) = false := decide_eq_false (by omega)
    have dz : (d == 0) = false := beq_eq_false_iff_ne.2 (by omega)
    have dz' : d ≠ 0 := by omega
    obtain ⟨rm, hrm⟩ : ∃ r, (10000 : Int).tmod d = r := ⟨_, rfl⟩
    have hrm' : (10000 : Int) % d = rm := by rw [← hrm, Int.tmod_eq_emod_of_nonneg (by omega)]
    have rm0 := Int.emod_nonneg (10000 : Int) dz'
    have rm1 := Int.emod_lt_of_pos (10000 : Int) (show 0 < d by omega)
    rw [hrm'] at rm0 rm1
    have HRM := Lib.hid hrm'
    clear hrm'
    by_cases r0 : rm = 0
    · subst r0
      by_cases g2 : dim < 2
      · have e2 : decide (dim < 2) = true := decide_eq_true g2
        clear g2
        go_wp2_with fail
        go_ret2
        exact ⟨_, _, rfl, hbb⟩
      · have e2 : decide (dim < 2) = false := decide_eq_false g2
        by_cases g4 : 4 < dim
        · have e4 : decide (4 < dim) = true := decide_eq_true g4
          go_wp2_with fail
          go_ret2
          exact ⟨_, _, rfl, hbb⟩
        · have e4 : decide (4 < dim) = false := decide_eq_false g4
          have hdv : d * (10000 / d) = 10000 := by have := Int.mul_ediv_add_emod 10000 d; rw [HRM.out] at this; omega
          go_upto_region 3 with (fail)
          obtain ⟨q, hq⟩ : ∃ q, n.tdiv d = q := ⟨_, rfl⟩
          have hq' : n / d = q := by rw [← hq, Int.tdiv_eq_ediv_of_nonneg (by omega)]
          have q0 : 0 ≤ q := by rw [← hq']; exact Int.ediv_nonneg (by omega) (by omega)
          have q1 : q ≤ n := by rw [← hq']; exact Int.ediv_le_self _ (by omega)
          have qn := Int.mul_ediv_add_emod n d
          have qm0 := Int.emod_nonneg n dz'
          have qm1 := Int.emod_lt_of_pos n (show 0 < d by omega)
          rw [hq'] at qn
          obtain ⟨m, hm⟩ : ∃ m, n % d = m := ⟨_, rfl⟩
          rw [hm] at qn qm0 qm1
          obtain ⟨p, hp⟩ : ∃ p, q * d = p := ⟨_, rfl⟩
          have hp' : d * q = p := by rw [Int.mul_comm]; exact hp
          rw [hp'] at qn
          obtain ⟨t, ht⟩ : ∃ t, (10000 : Int).tdiv d = t := ⟨_, rfl⟩
          have ht' : (10000 : Int) / d = t := by rw [← ht, Int.tdiv_eq_ediv_of_nonneg (by omega)]
          rw [ht'] at hdv
          have tb0 : 0 ≤ t := by rw [← ht']; exact Int.ediv_nonneg (by omega) (by omega)
          have tb1 : t ≤ 10000 := by rw [← ht']; exact Int.ediv_le_self _ (by omega)
          have tb2 : 1 ≤ t := by
            rcases (show t = 0 ∨ 1 ≤ t by omega) with h | h
            · rw [h] at hdv; simp at hdv
            · exact h
          obtain ⟨r, hr⟩ : ∃ r, m * t = r := ⟨_, rfl⟩
          have r0 : 0 ≤ r := by rw [← hr]; exact Int.mul_nonneg qm0 tb0
          have r1 : r < 10000 := by
            rw [← hr, ← hdv]
            exact Int.mul_lt_mul_of_pos_right qm1 (by omega)
          have w1' : IntKind.i64.wrap (q * d) = p := by rw [hp]; exact IntWalk.i64_in _ (by omega)
          have w2' : IntKind.i64.wrap (n - p) = m := by rw [show n - p = m by omega]; exact IntWalk.i64_in _ (by omega)
          have w3' : IntKind.i64.wrap (m * t) = r := by rw [hr]; exact IntWalk.i64_in _ (by omega)
          have w4' : IntKind.i64.wrap t = t := IntWalk.i64_in _ (by omega)
          have w5' : IntKind.i64.wrap q = q := IntWalk.i64_in _ (by omega)
          clear hq' hm hp' ht' hdv hr hp hrm HRM
          by_cases g9 : 999999999 < q
          · have e9 : decide (999999999 < q) = true := decide_eq_true g9
            go_wp2_with fail
            go_ret2
            exact ⟨_, _, rfl, hbb⟩
          · have e9 : decide (999999999 < q) = false := decide_eq_false g9
            go_wp2_with fail
            refine (ffr_any q 1 ⟨by omega, by omega, by omega, by omega⟩ _).mono ?_
            rintro e w2 ⟨s, rfl, hs, hb2⟩
            have hrow2 := (hb2.block w.heap.size (by omega)).trans hrow1
            have hbb2 := hbb.trans (hb2.mono (by omega))
            clear hrow1 hbb hb2 c0 c1
            have c0 : w2.cell? ⟨w.heap.size, 0, none⟩ = some (.int .i64 n) := by rw [cell_of_row _ _ _ _ _ _ hrow2]; rfl
            have c1 : w2.cell? ⟨w.heap.size, 1, none⟩ = some (.int .i64 d) := by rw [cell_of_row _ _ _ _ _ _ hrow2]; rfl
            go_upto_region 7 with (fail)
            go_cut [8] from 42 to 52 (fun v wx => v = .int .i64 r ∧ ∃ x, wx = w2.drewN x)
            case first =>
              go_quiet (fail)
              go_wp2_with fail
              go_meet
              exact ⟨rfl, _, rfl⟩
            case rest =>
             obtain ⟨rfl, x, rfl⟩ := hcut
             clear c0 c1 w1' w2' w3' w4' w5' ht hq
             obtain ⟨X, hX⟩ : ∃ X, X = w2.drewN x := ⟨_, rfl⟩
             have hbX : Below w.heap.size w X := by rw [hX]; exact ⟨hbb2.os, hbb2.tape, hbb2.output, hbb2.size, hbb2.block⟩
             rw [← hX]
             clear hX hrow2 hbb2
             obtain ⟨kb, hkb⟩ : ∃ b, decide (0 < r) = b := ⟨_, rfl⟩
             go_upto_if 54 with (fail)
             clear hkb
             go_cut [7] from 55 to 56 (fun v wx => ∃ s : ByteArray, v = .string s ∧ (s.size : Int) ≤ 3000000000000001 ∧ X = wx)
             case first =>
               cases kb
               · go_wp2_with fail
                 go_meet
                 exact ⟨_, rfl, by omega, rfl⟩
               · go_wp2_with fail
                 go_meet
                 exact ⟨_, rfl, by rw [ByteArray.size_append]; have : (⟨#[46]⟩ : ByteArray).size = 1 := rfl; omega, rfl⟩
             case rest =>
              obtain ⟨s2, rfl, hs2, rfl⟩ := hcut
              go_wp2_with fail
              go_loopw [7, 8, 9] (fun v r k wr => ∃ (s : ByteArray) (y z : Int), v = .string s ∧ r = .int .i64 y ∧ k = .int .i64 z ∧ (s.size : Int) ≤ 3000000000000001 + 1000 - z ∧ 0 ≤ y ∧ ((z = 1000 ∧ y < 10000) ∨ (z = 100 ∧ y < 1000) ∨ (z = 10 ∧ y < 100) ∨ (z = 1 ∧ y < 10) ∨ (z = 0 ∧ y = 0)) ∧ Below w.heap.size w wr) (fun _ _ k _ => (intOf k).toNat)
              case atStart => exact ⟨s2, r, 1000, rfl, rfl, rfl, by omega, r0, .inl ⟨rfl, r1⟩, hbX⟩
              case round =>
                obtain ⟨s3, y, z, rfl, rfl, rfl, hs3, hy0, hyz, hbr⟩ := hrel
                by_cases hy : 0 < y
                · have dy : decide (0 < y) = true := decide_eq_true hy
                  rcases hyz with ⟨rfl, hy1⟩ | ⟨rfl, hy1⟩ | ⟨rfl, hy1⟩ | ⟨rfl, hy1⟩ | ⟨rfl, rfl⟩
                  · obtain ⟨c, hc⟩ : ∃ c : Nat, y / 1000 = (c : Int) := ⟨(y / 1000).toNat, by omega⟩
                    have c9 : (c : Int) ≤ 9 := by omega
                    have a1 : y.tdiv 1000 = (c : Int) := by rw [Int.tdiv_eq_ediv_of_nonneg (by omega)]; exact hc
                    obtain ⟨m2, hm2⟩ : ∃ m, y % 1000 = m := ⟨_, rfl⟩
                    have a2 : y.tmod 1000 = m2 := by rw [Int.tmod_eq_emod_of_nonneg (by omega)]; exact hm2
                    have b0 : 0 ≤ m2 := by omega
                    have b1 : m2 < 1000 := by omega
                    have a3 : IntKind.i64.wrap ((c : Int) + 1) = (c : Int) + 1 := IntWalk.i64_in _ (by omega)
                    have a4 : (0 : Int) ≤ (c : Int) := by omega
                    have a5 : (c : Int) + 1 ≤ 10 := by omega
                    have a6 : (c : Int) ≤ (c : Int) + 1 := by omega
                    have a7 : ((c : Int) + 1).toNat = c + 1 := by omega
                    have a8 := ext_size1 ⟨#[48, 49, 50, 51, 52, 53, 54, 55, 56, 57]⟩ c
                    clear hc hm2
                    go_upto_region 13 with (fail)
                    go_cut [7] from 61 to 70 (fun v wx => ∃ s : ByteArray, v = .string s ∧ (s.size : Int) ≤ 3000000000000001 + 1000 - 1000 + 1 ∧ Below w.heap.size w wx)
                    case first =>
                      go_region
                      all_goals (go_wp2_with fail; go_meet)
                      all_goals exact ⟨_, rfl, by rw [ByteArray.size_append]; omega, by first | exact hbr.drew | exact hbr.dN _⟩
                    case rest =>
                     obtain ⟨s4, rfl, hs4, hb4⟩ := hcut
                     clear a1 a3 a4 a5 a6 a7 a8
                     go_wp2_with fail
                     go_roundw
                     case rel => exact ⟨s4, m2, 100, rfl, rfl, by go_num, by omega, b0, by omega, hb4⟩
                     case measure => simp [intOf]
                  · obtain ⟨c, hc⟩ : ∃ c : Nat, y / 100 = (c : Int) := ⟨(y / 100).toNat, by omega⟩
                    have c9 : (c : Int) ≤ 9 := by omega
                    have a1 : y.tdiv 100 = (c : Int) := by rw [Int.tdiv_eq_ediv_of_nonneg (by omega)]; exact hc
                    obtain ⟨m2, hm2⟩ : ∃ m, y % 100 = m := ⟨_, rfl⟩
                    have a2 : y.tmod 100 = m2 := by rw [Int.tmod_eq_emod_of_nonneg (by omega)]; exact hm2
                    have b0 : 0 ≤ m2 := by omega
                    have b1 : m2 < 100 := by omega
                    have a3 : IntKind.i64.wrap ((c : Int) + 1) = (c : Int) + 1 := IntWalk.i64_in _ (by omega)
                    have a4 : (0 : Int) ≤ (c : Int) := by omega
                    have a5 : (c : Int) + 1 ≤ 10 := by omega
                    have a6 : (c : Int) ≤ (c : Int) + 1 := by omega
                    have a7 : ((c : Int) + 1).toNat = c + 1 := by omega
                    have a8 := ext_size1 ⟨#[48, 49, 50, 51, 52, 53, 54, 55, 56, 57]⟩ c
                    clear hc hm2
                    go_upto_region 13 with (fail)
                    go_cut [7] from 61 to 70 (fun v wx => ∃ s : ByteArray, v = .string s ∧ (s.size : Int) ≤ 3000000000000001 + 1000 - 100 + 1 ∧ Below w.heap.size w wx)
                    case first =>
                      go_region
                      all_goals (go_wp2_with fail; go_meet)
                      all_goals exact ⟨_, rfl, by rw [ByteArray.size_append]; omega, by first | exact hbr.drew | exact hbr.dN _⟩
                    case rest =>
                     obtain ⟨s4, rfl, hs4, hb4⟩ := hcut
                     clear a1 a3 a4 a5 a6 a7 a8
                     go_wp2_with fail
                     go_roundw
                     case rel => exact ⟨s4, m2, 10, rfl, rfl, by go_num, by omega, b0, by omega, hb4⟩
                     case measure => simp [intOf]
                  · obtain ⟨c, hc⟩ : ∃ c : Nat, y / 10 = (c : Int) := ⟨(y / 10).toNat, by omega⟩
                    have c9 : (c : Int) ≤ 9 := by omega
                    have a1 : y.tdiv 10 = (c : Int) := by rw [Int.tdiv_eq_ediv_of_nonneg (by omega)]; exact hc
                    obtain ⟨m2, hm2⟩ : ∃ m, y % 10 = m := ⟨_, rfl⟩
                    have a2 : y.tmod 10 = m2 := by rw [Int.tmod_eq_emod_of_nonneg (by omega)]; exact hm2
                    have b0 : 0 ≤ m2 := by omega
                    have b1 : m2 < 10 := by omega
                    have a3 : IntKind.i64.wrap ((c : Int) + 1) = (c : Int) + 1 := IntWalk.i64_in _ (by omega)
                    have a4 : (0 : Int) ≤ (c : Int) := by omega
                    have a5 : (c : Int) + 1 ≤ 10 := by omega
                    have a6 : (c : Int) ≤ (c : Int) + 1 := by omega
                    have a7 : ((c : Int) + 1).toNat = c + 1 := by omega
                    have a8 := ext_size1 ⟨#[48, 49, 50, 51, 52, 53, 54, 55, 56, 57]⟩ c
                    clear hc hm2
                    go_upto_region 13 with (fail)
                    go_cut [7] from 61 to 70 (fun v wx => ∃ s : ByteArray, v = .string s ∧ (s.size : Int) ≤ 3000000000000001 + 1000 - 10 + 1 ∧ Below w.heap.size w wx)
                    case first =>
                      go_region
                      all_goals (go_wp2_with fail; go_meet)
                      all_goals exact ⟨_, rfl, by rw [ByteArray.size_append]; omega, by first | exact hbr.drew | exact hbr.dN _⟩
                    case rest =>
                     obtain ⟨s4, rfl, hs4, hb4⟩ := hcut
                     clear a1 a3 a4 a5 a6 a7 a8
                     go_wp2_with fail
                     go_roundw
                     case rel => exact ⟨s4, m2, 1, rfl, rfl, by go_num, by omega, b0, by omega, hb4⟩
                     case measure => simp [intOf]
                  · obtain ⟨c, hc⟩ : ∃ c : Nat, y / 1 = (c : Int) := ⟨(y / 1).toNat, by omega⟩
                    have c9 : (c : Int) ≤ 9 := by omega
                    have a1 : y.tdiv 1 = (c : Int) := by rw [Int.tdiv_eq_ediv_of_nonneg (by omega)]; exact hc
                    obtain ⟨m2, hm2⟩ : ∃ m, y % 1 = m := ⟨_, rfl⟩
                    have a2 : y.tmod 1 = m2 := by rw [Int.tmod_eq_emod_of_nonneg (by omega)]; exact hm2
                    have b0 : 0 ≤ m2 := by omega
                    have b1 : m2 < 1 := by omega
                    have a3 : IntKind.i64.wrap ((c : Int) + 1) = (c : Int) + 1 := IntWalk.i64_in _ (by omega)
                    have a4 : (0 : Int) ≤ (c : Int) := by omega
                    have a5 : (c : Int) + 1 ≤ 10 := by omega
                    have a6 : (c : Int) ≤ (c : Int) + 1 := by omega
                    have a7 : ((c : Int) + 1).toNat = c + 1 := by omega
                    have a8 := ext_size1 ⟨#[48, 49, 50, 51, 52, 53, 54, 55, 56, 57]⟩ c
                    clear hc hm2
                    go_upto_region 13 with (fail)
                    go_cut [7] from 61 to 70 (fun v wx => ∃ s : ByteArray, v = .string s ∧ (s.size : Int) ≤ 3000000000000001 + 1000 - 1 + 1 ∧ Below w.heap.size w wx)
                    case first =>
                      go_region
                      all_goals (go_wp2_with fail; go_meet)
                      all_goals exact ⟨_, rfl, by rw [ByteArray.size_append]; omega, by first | exact hbr.drew | exact hbr.dN _⟩
                    case rest =>
                     obtain ⟨s4, rfl, hs4, hb4⟩ := hcut
                     clear a1 a3 a4 a5 a6 a7 a8
                     go_wp2_with fail
                     go_roundw
                     case rel => exact ⟨s4, m2, 0, rfl, rfl, by go_num, by omega, b0, by omega, hb4⟩
                     case measure => simp [intOf]
                  · omega
                · have dy : decide (0 < y) = false := decide_eq_false hy
                  have hz0 : 0 ≤ z := by omega
                  clear hyz
                  have hzz := hbr.size
                  rcases (show dim = 2 ∨ dim = 3 ∨ dim = 4 by omega) with rfl | rfl | rfl
                  all_goals
                    go_wp2_with fail
                    go_ret2
                    exact ⟨_, _, rfl, hbr.alloc hzz _⟩
    · have e0 : (rm != 0) = true := by simp [r0]
      clear r0
      go_wp2_with fail
      go_ret2
      exact ⟨_, _, rfl, hbb⟩

set_option maxHeartbeats 1000000 in
theorem args_ex (op : Int) : ∃ v : Int, ∀ w : World, Calls Tryz.prog 128 #[.int .i64 op] w fun e w' => e = .returned (.int .i64 v) ∧ w' = w := by
  rcases (show op < 1 ∨ (1 ≤ op ∧ op ≤ 3) ∨ (4 ≤ op ∧ op ≤ 6) ∨ (7 ≤ op ∧ op ≤ 20) ∨ op = 21 ∨ 22 ≤ op by omega) with h | ⟨h, h'⟩ | ⟨h, h'⟩ | ⟨h, h'⟩ | rfl | h
  · refine ⟨-1, fun w => ?_⟩
    go_enter Tryz.func128, Tryz.ntmps128
    go_wp2_with fail
    all_goals first | omega | (go_ret; exact ⟨rfl, rfl⟩)
  · refine ⟨0, fun w => ?_⟩
    go_enter Tryz.func128, Tryz.ntmps128
    go_wp2_with fail
    all_goals first | omega | (go_ret; exact ⟨rfl, rfl⟩)
  · refine ⟨1, fun w => ?_⟩
    go_enter Tryz.func128, Tryz.ntmps128
    go_wp2_with fail
    all_goals first | omega | (go_ret; exact ⟨rfl, rfl⟩)
  · refine ⟨2, fun w => ?_⟩
    go_enter Tryz.func128, Tryz.ntmps128
    go_wp2_with fail
    all_goals first | omega | (go_ret; exact ⟨rfl, rfl⟩)
  · refine ⟨3, fun w => ?_⟩
    go_enter Tryz.func128, Tryz.ntmps128
    go_wp2_with fail
    all_goals first | omega | (go_ret; exact ⟨rfl, rfl⟩)
  · refine ⟨-1, fun w => ?_⟩
    go_enter Tryz.func128, Tryz.ntmps128
    go_wp2_with fail
    all_goals first | omega | (go_ret; exact ⟨rfl, rfl⟩)
set_option maxRecDepth 100000 in
set_option maxHeartbeats 8000000 in
theorem formed_any {P : Nat → Prop} {w : World} {x : Ex} (h : ExOk P w x) : Calls Tryz.prog 96 #[x.agg] w (RetBb w) := by
  refine ex_ind (Q := fun x u => Calls Tryz.prog 96 #[x.agg] u (RetBb u)) h ?_ w (Below.refl _ _)
  clear h
  intro o n d m s A c l u hb hk ih
  obtain ⟨v, hv⟩ := args_ex o
  obtain ⟨hf1, hf2, hf3, hf4, hf5, hs5⟩ := hb
  dsimp only [Ex.agg]
  go_enter Tryz.func96, Tryz.ntmps96
  go_upto_region 1 with (fail)
  obtain ⟨W, hW, hrow, hz, hbW⟩ : ∃ W, W = u.alloc (boxE o n d m s A l c) ∧ W.heap[u.heap.size]? = some (boxE o n d m s A l c) ∧ W.heap.size = u.heap.size + 1 ∧ Below u.heap.size u W :=
    ⟨_, rfl, heap_alloc_new u _, by simp, (Below.refl _ _).alloc (Nat.le_refl _) _⟩
  rw [← hW]
  clear hW
  have hkW := hk.to hbW
  have x0 : W.cell? ⟨u.heap.size, 0, none⟩ = some (.int .i64 o) := by rw [cell_of_row _ _ _ _ _ _ hrow]; rfl
  have x1 : W.cell? ⟨u.heap.size, 1, none⟩ = some (.int .i64 n) := by rw [cell_of_row _ _ _ _ _ _ hrow]; rfl
  have x2 : W.cell? ⟨u.heap.size, 2, none⟩ = some (.int .i64 d) := by rw [cell_of_row _ _ _ _ _ _ hrow]; rfl
  have x3 : W.cell? ⟨u.heap.size, 3, none⟩ = some (.int .i64 m) := by rw [cell_of_row _ _ _ _ _ _ hrow]; rfl
  have x4 : W.cell? ⟨u.heap.size, 4, none⟩ = some (.string s) := by rw [cell_of_row _ _ _ _ _ _ hrow]; rfl
  have x5 : W.cell? ⟨u.heap.size, 5, none⟩ = some (.slice A l.length c) := by rw [cell_of_row _ _ _ _ _ _ hrow]; rfl
  obtain ⟨kb, hkb⟩ : ∃ b, ((l.length : Int) != v) = b := ⟨_, rfl⟩
  go_quiet ((go_at_call 128; exact Calls.quiet_of_same (hv _)))
  clear hkb
  clear hv x0 x1 x2 x3 x4 x5
  obtain ⟨V, hV⟩ : ∃ V, V = W.drewN nq := ⟨_, rfl⟩
  have hbV : Below u.heap.size u V := by rw [hV]; exact Below.dN hbW _
  have hzV : V.heap.size = u.heap.size + 1 := by rw [hV]; exact hz
  have hrV : V.heap[u.heap.size]? = some (boxE o n d m s A l c) := by rw [hV]; exact hrow
  have hkV : Kid V A l := by rw [hV]; exact hkW.to (Below.dN (Below.refl _ _) _)
  rw [← hV]
  clear hV hrow hz hbW hkW hk
  cases kb
  · have x0 : V.cell? ⟨u.heap.size, 0, none⟩ = some (.int .i64 o) := by rw [cell_of_row _ _ _ _ _ _ hrV]; rfl
    have x1 : V.cell? ⟨u.heap.size, 1, none⟩ = some (.int .i64 n) := by rw [cell_of_row _ _ _ _ _ _ hrV]; rfl
    have x2 : V.cell? ⟨u.heap.size, 2, none⟩ = some (.int .i64 d) := by rw [cell_of_row _ _ _ _ _ _ hrV]; rfl
    have x3 : V.cell? ⟨u.heap.size, 3, none⟩ = some (.int .i64 m) := by rw [cell_of_row _ _ _ _ _ _ hrV]; rfl
    have x4 : V.cell? ⟨u.heap.size, 4, none⟩ = some (.string s) := by rw [cell_of_row _ _ _ _ _ _ hrV]; rfl
    obtain ⟨bn, hbn⟩ : ∃ b, (n == 0) = b := ⟨_, rfl⟩
    obtain ⟨bd, hbd⟩ : ∃ b, (d == 0) = b := ⟨_, rfl⟩
    obtain ⟨bm, hbm⟩ : ∃ b, (m == 0) = b := ⟨_, rfl⟩
    go_upto_region 3 with (fail)
    go_cut [3] from 14 to 27 (fun v wx => ∃ b : Bool, v = .bool b ∧ V = wx)
    case first =>
      go_wp2_with fail
      all_goals (go_meet; exact ⟨_, rfl, rfl⟩)
    case rest =>
     obtain ⟨bz, rfl, rfl⟩ := hcut
     by_cases h1 : o = 1
     · subst h1
       go_wp2_with fail
       refine (fdec_any n d m hf3 _).mono ?_
       rintro e w2 ⟨s2, b2, rfl, hb2⟩
       have y4 : w2.cell? ⟨u.heap.size, 4, none⟩ = some (.string s) := (hb2.cell (by simp; omega)).trans x4
       have hbb := hbV.trans (hb2.mono (by omega))
       go_wp2_with fail
       all_goals (go_ret; exact ⟨_, rfl, hbb⟩)
     · by_cases h2 : o = 2
       · subst h2
         go_wp2_with fail
         all_goals first
           | (go_ret; exact ⟨_, rfl, hbV⟩)
           | (refine (isname_any s hs5 _).mono ?_
              rintro e w2 ⟨b2, rfl, rfl⟩
              go_wp2_with fail
              go_ret
              exact ⟨_, rfl, hbV⟩)
       · by_cases h3 : o = 3
         · subst h3
           go_wp2_with fail
           all_goals (go_ret; exact ⟨_, rfl, hbV⟩)
         · have e1 : (o == 1) = false := beq_eq_false_iff_ne.2 h1
           have e2 : (o == 2) = false := beq_eq_false_iff_ne.2 h2
           have e3 : (o == 3) = false := beq_eq_false_iff_ne.2 h3
           clear h1 h2 h3
           go_wp2_with fail
           clear x0 x1 x2 x3 x4 e1 e2 e3
           go_loopw [6] (fun i wr => ∃ k : Nat, k ≤ l.length ∧ i = .int .i64 (k : Int) ∧ Below V.heap.size V wr) (fun i _ => l.length - (intOf i).toNat)
           case atStart => exact ⟨0, by omega, rfl, Below.refl _ _⟩
           case round =>
             obtain ⟨k, hkl, rfl, hbr⟩ := hrel
             have hsz := hbr.size
             have c5 : wr.cell? ⟨u.heap.size, 5, none⟩ = some (.slice A l.length c) := by rw [cell_of_row _ _ _ _ _ _ ((hbr.block u.heap.size (by omega)).trans hrV)]; rfl
             have hl3 := hkV.len
             have hbu : Below u.heap.size u wr := hbV.trans (hbr.mono (by omega))
             by_cases hlt : k < l.length
             · obtain ⟨y, hy⟩ : ∃ y, l[k]? = some y := ⟨_, List.getElem?_eq_getElem hlt⟩
               obtain ⟨o1, n1, d1, m1, s1, A1, c1, l1⟩ := y
               obtain ⟨b, p, hA, hbw, x0, x1, x2, x3, x4, x5⟩ := kid_cells (hkV.to hbr) hy
               have ihk := ih k _ hy wr hbu
               clear ih hy
               subst hA
               go_wp2_with fail
               refine ihk.mono ?_
               rintro e w2 ⟨r2, rfl, hb2⟩
               have hbb := hbr.trans (hb2.mono hsz)
               cases r2
               · go_wp2_with fail
                 go_ret
                 exact ⟨_, rfl, hbu.trans (hb2.mono hbu.size)⟩
               · go_wp2_with fail
                 go_roundw
                 case rel => exact ⟨k + 1, by omega, by go_num, hbb⟩
                 case measure => simp [intOf]; omega
             · go_wp2_with fail
               go_ret
               exact ⟨_, rfl, hbu⟩
  · go_wp2_with fail
    go_ret
    exact ⟨false, rfl, hbV⟩
set_option maxRecDepth 100000 in
set_option maxHeartbeats 4000000 in
theorem validx_any {P : Nat → Prop} {w : World} {x : Ex} (h : ExOk P w x) : Calls Tryz.prog 64 #[x.agg] w (RetBb w) := by
  obtain ⟨o, n, d, m, s, A, c, l⟩ := x
  have hW := h.bel ((Below.refl _ w).alloc (Nat.le_refl _) (boxE o n d m s A l c))
  have hbW := (Below.refl w.heap.size w).alloc (Nat.le_refl _) (boxE o n d m s A l c)
  have hrow := heap_alloc_new w (boxE o n d m s A l c)
  have hz : (w.alloc (boxE o n d m s A l c)).heap.size = w.heap.size + 1 := by simp
  clear h
  dsimp only [Ex.agg]
  go_enter Tryz.func64, Tryz.ntmps64
  go_upto_region 1 with (fail)
  obtain ⟨W, hWe⟩ : ∃ W, W = w.alloc (boxE o n d m s A l c) := ⟨_, rfl⟩
  rw [← hWe] at hW hbW hrow hz ⊢
  clear hWe
  obtain ⟨x0, x1, x2, x3, x4, x5⟩ := ex_row hrow
  go_wp2_with fail
  refine (depth_any hW).mono ?_
  rintro e w1 ⟨r1, rfl, hb1⟩
  have hW1 := hW.bel hb1
  have hrow1 := (hb1.block w.heap.size (by omega)).trans hrow
  have hbb1 := hbW.trans (hb1.mono (by omega))
  have hz1 := hb1.size
  clear x0 x1 x2 x3 x4 x5
  by_cases g1 : r1 ≤ 10
  · have e1 : decide (r1 ≤ 10) = true := decide_eq_true g1
    obtain ⟨x0, x1, x2, x3, x4, x5⟩ := ex_row hrow1
    go_wp2_with fail
    refine (sizeX_any hW1).mono ?_
    rintro e w2 ⟨r2, rfl, hb2⟩
    have hW2 := hW1.bel hb2
    have hrow2 := (hb2.block w.heap.size (by omega)).trans hrow1
    have hbb2 := hbb1.trans (hb2.mono (by omega))
    have hz2 := hb2.size
    clear x0 x1 x2 x3 x4 x5
    by_cases g2 : r2 ≤ 60
    · have e2 : decide (r2 ≤ 60) = true := decide_eq_true g2
      obtain ⟨x0, x1, x2, x3, x4, x5⟩ := ex_row hrow2
      go_wp2_with fail
      refine (formed_any hW2).mono ?_
      rintro e w3 ⟨r3, rfl, hb3⟩
      have hbb3 := hbb2.trans (hb3.mono (by omega))
      go_wp2_with fail
      go_ret
      exact ⟨_, rfl, hbb3⟩
    · have e2 : decide (r2 ≤ 60) = false := decide_eq_false g2
      go_wp2_with fail
      go_ret
      exact ⟨_, rfl, hbb2⟩
  · have e1 : decide (r1 ≤ 10) = false := decide_eq_false g1
    go_wp2_with fail
    go_ret
    exact ⟨_, rfl, hbb1⟩
end Go.Proofs.YtghmmcdeejhcjaaGreat
