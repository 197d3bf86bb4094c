/- Lemmas (no conditions): Fka, Fkb, Fkc, Fkd, TrG -/
import Derived.Test.YtnlopdmhdiegnaaGreatDoorPk05
import Derived.Test.YtnlopdmhdiegnaaGreatDoorPk13
set_option linter.unusedSimpArgs false
set_option linter.unusedVariables false
set_option maxRecDepth 100000
set_option maxHeartbeats 64000000
namespace Go.Proofs.YtnlopdmhdiegnaaGreatDoor
open Go.RowKit
section
def Fc.cells (x : Fc) : List Value := [.int .i64 x.i, .int .i64 x.n, .int .i64 x.v, .bool x.g, .int .i64 x.p, .int .i64 x.k, .int .i64 x.s, .int .i64 x.f, .int .i64 x.t, .int .i64 x.e, .int .i64 x.h, .int .i64 x.c, .int .i64 x.a, .int .i64 x.r]
def Fc.agg (x : Fc) : Value := .agg #[.int .i64 x.i, .int .i64 x.n, .int .i64 x.v, .bool x.g, .int .i64 x.p, .int .i64 x.k, .int .i64 x.s, .int .i64 x.f, .int .i64 x.t, .int .i64 x.e, .int .i64 x.h, .int .i64 x.c, .int .i64 x.a, .int .i64 x.r]
theorem fc_len (x : Fc) : x.cells.length = 14 := rfl
theorem info_fact : (Tryz.prog.info? 34).map (fun i => (i.zero, i.size, i.bytes)) = some (some (.agg #[.int .i64 0, .int .i64 0, .int .i64 0, .bool false, .int .i64 0, .int .i64 0, .int .i64 0, .int .i64 0, .int .i64 0, .int .i64 0, .int .i64 0, .int .i64 0, .int .i64 0, .int .i64 0]), 14, 112) := by kernel_rfl
def FcAt (w : World) (b o : Nat) (x : Fc) : Prop :=
 w.cell? ⟨b, o, none⟩ = some (.int .i64 x.i) /\ w.cell? ⟨b, o + 1, none⟩ = some (.int .i64 x.n) /\ w.cell? ⟨b, o + 2, none⟩ = some (.int .i64 x.v) /\ w.cell? ⟨b, o + 3, none⟩ = some (.bool x.g) /\ w.cell? ⟨b, o + 4, none⟩ = some (.int .i64 x.p) ∧
 w.cell? ⟨b, o + 5, none⟩ = some (.int .i64 x.k) /\ w.cell? ⟨b, o + 6, none⟩ = some (.int .i64 x.s) /\ w.cell? ⟨b, o + 7, none⟩ = some (.int .i64 x.f) /\ w.cell? ⟨b, o + 8, none⟩ = some (.int .i64 x.t) /\ w.cell? ⟨b, o + 9, none⟩ = some (.int .i64 x.e) ∧
 w.cell? ⟨b, o + 10, none⟩ = some (.int .i64 x.h) /\ w.cell? ⟨b, o + 11, none⟩ = some (.int .i64 x.c) /\ w.cell? ⟨b, o + 12, none⟩ = some (.int .i64 x.a) /\ w.cell? ⟨b, o + 13, none⟩ = some (.int .i64 x.r)
theorem fcAt_of {w : World} {b o : Nat} {x : Fc} (hc : ∀ (i : Nat) (u : Value), x.cells[i]? = some u -> w.cell? ⟨b, o + i, none⟩ = some u) : FcAt w b o x :=
 ⟨by simpa using hc 0 _ rfl, hc 1 _ rfl, hc 2 _ rfl, hc 3 _ rfl, hc 4 _ rfl, hc 5 _ rfl, hc 6 _ rfl, hc 7 _ rfl, hc 8 _ rfl, hc 9 _ rfl, hc 10 _ rfl, hc 11 _ rfl, hc 12 _ rfl, hc 13 _ rfl⟩
theorem fc_cells {w : World} {B n : Nat} {A : Option Addr} {l : List Fc} (h : Rd w B 14 A n (flat Fc.cells l)) {k : Nat} {x : Fc} (hx : l[k]? = some x) : k < n /\ ∃ b o, A = some ⟨b, o, none⟩ /\ b < B /\ FcAt w b (o + k * 14) x := by
 obtain ⟨hk, b, o, e, hb, hc⟩ := h.elem fc_len hx (by omega)
 exact ⟨hk, b, o, e, hb, fcAt_of hc⟩
theorem FcAt.below {w w' : World} {B b o : Nat} {x : Fc} (h : FcAt w b o x) (hb : Below B w w') (hlt : b < B) : FcAt w' b o x := by
 obtain ⟨h0, h1, h2, h3, h4, h5, h6, h7, h8, h9, h10, h11, h12, h13⟩ := h
 exact ⟨(hb.cell (p := ⟨b, o, none⟩) hlt).trans h0, (hb.cell (p := ⟨b, o + 1, none⟩) hlt).trans h1, (hb.cell (p := ⟨b, o + 2, none⟩) hlt).trans h2, (hb.cell (p := ⟨b, o + 3, none⟩) hlt).trans h3, (hb.cell (p := ⟨b, o + 4, none⟩) hlt).trans h4, (hb.cell (p := ⟨b, o + 5, none⟩) hlt).trans h5, (hb.cell (p := ⟨b, o + 6, none⟩) hlt).trans h6,
  (hb.cell (p := ⟨b, o + 7, none⟩) hlt).trans h7, (hb.cell (p := ⟨b, o + 8, none⟩) hlt).trans h8, (hb.cell (p := ⟨b, o + 9, none⟩) hlt).trans h9, (hb.cell (p := ⟨b, o + 10, none⟩) hlt).trans h10, (hb.cell (p := ⟨b, o + 11, none⟩) hlt).trans h11, (hb.cell (p := ⟨b, o + 12, none⟩) hlt).trans h12, (hb.cell (p := ⟨b, o + 13, none⟩) hlt).trans h13⟩
theorem fcAt_row {w : World} {g : Nat} {t : TypeId} {fr : Nat × Nat} {x : Fc} (h : w.heap[g]? = some (.cells x.cells.toArray t fr)) : FcAt w g 0 x := by
 refine fcAt_of fun i u hu => ?_
 rw [Nat.zero_add, cell_of_row w g i _ t fr h]
 simpa using hu
def useS (k : Int) : ByteArray := ⟨(useL k).toArray⟩
theorem tuses_any (k : Int) (w : World) (h1 : 1 <= k) (h2 : k <= 14) : Calls Tryz.prog 239 #[.int .i64 k] w fun e w' => e = .returned (.string (useS k)) /\ w = w' := by
 rcases kinds h1 h2 with rfl | rfl | rfl | rfl | rfl | rfl | rfl | rfl | rfl | rfl | rfl | rfl | rfl | rfl
 all_goals
  go_enter Tryz.func239, Tryz.ntmps239
  go_wp2
  go_ret
  exact ⟨rfl, rfl⟩
end
section
theorem indexB_mem (c : UInt8) : ∀ l : List UInt8, decide (0 <= Lib.indexByte l c) = decide (c ∈ l)
 | [] => by simp [Lib.indexByte]
 | b :: l => by
  have ih := indexB_mem c l
  have hge := Lib.indexByte_ge l c
  unfold Lib.indexByte
  by_cases h : b = c
  ·subst h
   simp
  ·rw [if_neg (by simpa using h)]
   have hm : decide (c ∈ b :: l) = decide (c ∈ l) := by
    have : ¬ c = b := fun e => h e.symm
    simp [this]
   rw [hm, <- ih]
   by_cases h2 : Lib.indexByte l c = -1
   ·rw [if_pos (by simpa using h2), h2]
   ·rw [if_neg (by simpa using h2)]
    rw [decide_eq_true (by omega), decide_eq_true (by omega)]
theorem within_true {x lo hi : Int} (h1 : lo <= x) (h2 : x <= hi) (w : World) : Calls Tryz.prog 242 #[.int .i64 x, .int .i64 lo, .int .i64 hi] w fun e w' => e = .returned (.bool true) /\ w = w' := by
 have d1 : decide (lo <= x) = true := decide_eq_true h1
 have d2 : decide (x <= hi) = true := decide_eq_true h2
 go_enter Tryz.func242, Tryz.ntmps242
 go_wp2
 go_ret
 exact ⟨rfl, rfl⟩
def FldB (b : Bool) (x lo hi : Int) : Prop := (b = true -> lo <= x /\ x <= hi) /\ (b = false -> x = 0)
theorem FldOk.b {U : List UInt8} {l : UInt8} {x lo hi : Int} (h : FldOk U l x lo hi) {b : Bool} (hb : decide (l ∈ U) = b) : FldB b x lo hi := by
 subst hb
 exact ⟨fun e => h.1 (of_decide_eq_true e), fun e => h.2 (of_decide_eq_false e)⟩
theorem tfield_true {b : Bool} {x lo hi : Int} (h : FldB b x lo hi) (w : World) : Calls Tryz.prog 243 #[.bool b, .int .i64 x, .int .i64 lo, .int .i64 hi] w fun e w' => e = .returned (.bool true) /\ w = w' := by
 cases b with
 | true =>
  obtain ⟨h1, h2⟩ := h.1 rfl
  go_enter Tryz.func243, Tryz.ntmps243
  go_wp2_with fail
  refine (within_true h1 h2 _).mono ?_
  rintro e w' ⟨rfl, rfl⟩
  go_wp2_with fail
  go_ret
  exact ⟨rfl, rfl⟩
 | false =>
  obtain rfl := h.2 rfl
  go_enter Tryz.func243, Tryz.ntmps243
  go_wp2_with fail
  go_ret
  exact ⟨rfl, rfl⟩
theorem vspan_true {f t : Int} (h1 : 0 <= f) (h2 : f < t) (h3 : t <= 73049) (w : World) : Calls Tryz.prog 244 #[.agg #[.int .i64 f, .int .i64 t]] w fun e w' => e = .returned (.bool true) /\ Below w.heap.size w w' := by
 have d1 : decide (0 <= f) = true := decide_eq_true h1
 have d2 : decide (f < t) = true := decide_eq_true h2
 have d3 : decide (t <= 73049) = true := decide_eq_true h3
 go_enter Tryz.func244, Tryz.ntmps244
 go_wp2
 go_ret
 exact ⟨rfl, (Below.refl _ _).alloc (Nat.le_refl _) _⟩
theorem has_any {k : Int} {c : UInt8} {b : Bool} {p : Addr} {w : World} (hp : w.cell? p = some (.string (useS k))) (hb : decide (c ∈ useL k) = b) : Calls Tryz.prog 240 #[.string ⟨#[c]⟩, .pointer (some p)] w fun e w' => e = .returned (.bool b) /\ w = w' := by
 have HB := Lib.hid hb
 clear hb
 go_enter Tryz.func240, Tryz.ntmps240
 go_wp2_with fail
 refine (Tryz.strings_Contains_one (useS k) c _).mono ?_
 rintro e w' ⟨rfl, rfl⟩
 go_wp2_with fail
 go_ret
 exact ⟨ret_bool (by rw [indexB_mem, <- HB.out]; rfl), rfl⟩
theorem has_kept {V : World} {k : Int} {c : UInt8} {b : Bool} {p : Addr} (hp : V.cell? p = some (.string (useS k))) (hl : p.block < V.heap.size) (hb : decide (c ∈ useL k) = b) (u : Kw V) : Calls Tryz.prog 240 #[.string ⟨#[c]⟩, .pointer (some p)] u.1 fun e w' => e = .returned (.bool b) /\ ∃ u' : Kw V, w' = u'.1 :=
 (has_any ((u.cell hl hp)) hb).mono fun _ _ ⟨h1, h2⟩ => ⟨h1, u, h2.symm⟩
theorem tfield_kept {V : World} {b : Bool} {x lo hi : Int} (h : FldB b x lo hi) (u : Kw V) : Calls Tryz.prog 243 #[.bool b, .int .i64 x, .int .i64 lo, .int .i64 hi] u.1 fun e w' => e = .returned (.bool true) /\ ∃ u' : Kw V, w' = u'.1 :=
 (tfield_true h u.1).mono fun _ _ ⟨h1, h2⟩ => ⟨h1, u, h2.symm⟩
theorem vspan_kept {V : World} {f t : Int} (h1 : 0 <= f) (h2 : f < t) (h3 : t <= 73049) (u : Kw V) : Calls Tryz.prog 244 #[.agg #[.int .i64 f, .int .i64 t]] u.1 fun e w' => e = .returned (.bool true) /\ ∃ u' : Kw V, w' = u'.1 :=
 (vspan_true h1 h2 h3 u.1).mono fun _ _ ⟨h1, h2⟩ => ⟨h1, u.call h2⟩
end
section
theorem useS_full {k : Int} (h1 : 1 <= k) (h2 : k <= 14) : (useS k).toList.isEmpty = false := by
 rcases kinds h1 h2 with rfl | rfl | rfl | rfl | rfl | rfl | rfl | rfl | rfl | rfl | rfl | rfl | rfl | rfl <;> kernel_rfl
theorem tvalidF {x : Fc} (hv : Vld x) (w : World) : Calls Tryz.prog 192 #[x.agg] w fun e w' => e = .returned (.bool true) /\ Below w.heap.size w w' := by
 have HV := Lib.hid hv
 obtain ⟨hi1, hi2⟩ := hv.i
 obtain ⟨hn1, hn2⟩ := hv.n
 obtain ⟨hv1, hv2⟩ := hv.v
 obtain ⟨hp1, hp2⟩ := hv.p
 obtain ⟨hk1, hk2⟩ := hv.k
 obtain ⟨hf0, hft, ht1⟩ := hv.sp
 have hue := useS_full hk1 hk2
 clear hv
 dsimp only [Fc.agg]
 go_enter Tryz.func192, Tryz.ntmps192
 go_wp2_with fail
 refine (tuses_any x.k _ hk1 hk2).mono ?_
 rintro e w' ⟨rfl, rfl⟩
 go_wp2_with fail
 refine (within_true hi1 hi2 _).mono ?_
 rintro e w' ⟨rfl, rfl⟩
 go_wp2_with fail
 refine (within_true hn1 hn2 _).mono ?_
 rintro e w' ⟨rfl, rfl⟩
 go_wp2_with fail
 refine (within_true hv1 hv2 _).mono ?_
 rintro e w' ⟨rfl, rfl⟩
 go_wp2_with fail
 refine (within_true hp1 hp2 _).mono ?_
 rintro e w' ⟨rfl, rfl⟩
 go_upto_region 5 with (fail)
 have hb := ((Below.refl w.heap.size w).alloc (Nat.le_refl _) (.cells x.cells.toArray 34)).alloc (by simp) (.cells #[.string (useS x.k)] 9)
 have hrow : ((w.alloc (.cells x.cells.toArray 34)).alloc (.cells #[.string (useS x.k)] 9)).heap[w.heap.size]? = some (.cells x.cells.toArray 34 (0, 0)) := (Below.heap_alloc _ _ _ (by simp)).trans (heap_alloc_new w _)
 have hstr : ((w.alloc (.cells x.cells.toArray 34)).alloc (.cells #[.string (useS x.k)] 9)).cell? ⟨w.heap.size + 1, 0, none⟩ = some (.string (useS x.k)) := by
  have := heap_alloc_new (w.alloc (.cells x.cells.toArray 34)) (.cells #[.string (useS x.k)] 9)
  rw [World.size_alloc] at this
  rw [cell_of_row _ _ 0 _ _ _ this]
  rfl
 have hz : w.heap.size + 1 < ((w.alloc (.cells x.cells.toArray 34)).alloc (.cells #[.string (useS x.k)] 9)).heap.size := by simp
 obtain ⟨V, hV⟩ : ∃ V, V = (w.alloc (.cells x.cells.toArray 34)).alloc (.cells #[.string (useS x.k)] 9) := ⟨_, rfl⟩
 rw [<- hV] at hb hrow hstr hz
 have hV2 : (w.alloc (.cells #[.int .i64 x.i, .int .i64 x.n, .int .i64 x.v, .bool x.g, .int .i64 x.p, .int .i64 x.k, .int .i64 x.s, .int .i64 x.f, .int .i64 x.t, .int .i64 x.e, .int .i64 x.h, .int .i64 x.c, .int .i64 x.a, .int .i64 x.r] 34)).alloc (.cells #[.string (useS x.k)] 9) = V := hV.symm
 rw [hV2]
 clear hV hV2
 obtain ⟨c0, c1, c2, c3, c4, c5, c6, c7, c8, c9, c10, c11, c12, c13⟩ := fcAt_row hrow
 rw [Nat.zero_add] at c1 c2 c3 c4 c5 c6 c7 c8 c9 c10 c11 c12 c13
 have hbl : w.heap.size < V.heap.size := by omega
 have f4 : ∀ u : Kw V, u.1.cell? ⟨w.heap.size, 4, none⟩ = some (.int .i64 x.p) := fun u => u.cell (p := ⟨w.heap.size, 4, none⟩) hbl c4
 have f5 : ∀ u : Kw V, u.1.cell? ⟨w.heap.size, 5, none⟩ = some (.int .i64 x.k) := fun u => u.cell (p := ⟨w.heap.size, 5, none⟩) hbl c5
 have f6 : ∀ u : Kw V, u.1.cell? ⟨w.heap.size, 6, none⟩ = some (.int .i64 x.s) := fun u => u.cell (p := ⟨w.heap.size, 6, none⟩) hbl c6
 have f7 : ∀ u : Kw V, u.1.cell? ⟨w.heap.size, 7, none⟩ = some (.int .i64 x.f) := fun u => u.cell (p := ⟨w.heap.size, 7, none⟩) hbl c7
 have f8 : ∀ u : Kw V, u.1.cell? ⟨w.heap.size, 8, none⟩ = some (.int .i64 x.t) := fun u => u.cell (p := ⟨w.heap.size, 8, none⟩) hbl c8
 have f9 : ∀ u : Kw V, u.1.cell? ⟨w.heap.size, 9, none⟩ = some (.int .i64 x.e) := fun u => u.cell (p := ⟨w.heap.size, 9, none⟩) hbl c9
 have f10 : ∀ u : Kw V, u.1.cell? ⟨w.heap.size, 10, none⟩ = some (.int .i64 x.h) := fun u => u.cell (p := ⟨w.heap.size, 10, none⟩) hbl c10
 have f11 : ∀ u : Kw V, u.1.cell? ⟨w.heap.size, 11, none⟩ = some (.int .i64 x.c) := fun u => u.cell (p := ⟨w.heap.size, 11, none⟩) hbl c11
 have f12 : ∀ u : Kw V, u.1.cell? ⟨w.heap.size, 12, none⟩ = some (.int .i64 x.a) := fun u => u.cell (p := ⟨w.heap.size, 12, none⟩) hbl c12
 have f13 : ∀ u : Kw V, u.1.cell? ⟨w.heap.size, 13, none⟩ = some (.int .i64 x.r) := fun u => u.cell (p := ⟨w.heap.size, 13, none⟩) hbl c13
 have HS := Lib.hid hstr
 have HF := Lib.hid (And.intro hf0 (And.intro hft ht1))
 obtain ⟨bS, hS⟩ : ∃ b, decide (83 ∈ useL x.k) = b := ⟨_, rfl⟩
 obtain ⟨bT, hT⟩ : ∃ b, decide (84 ∈ useL x.k) = b := ⟨_, rfl⟩
 obtain ⟨bH, hH⟩ : ∃ b, decide (72 ∈ useL x.k) = b := ⟨_, rfl⟩
 obtain ⟨bC, hC⟩ : ∃ b, decide (67 ∈ useL x.k) = b := ⟨_, rfl⟩
 obtain ⟨bA, hA⟩ : ∃ b, decide (65 ∈ useL x.k) = b := ⟨_, rfl⟩
 obtain ⟨bR, hR⟩ : ∃ b, decide (82 ∈ useL x.k) = b := ⟨_, rfl⟩
 have KS := Lib.hid hS
 have KT := Lib.hid hT
 have KH := Lib.hid hH
 have KC := Lib.hid hC
 have KA := Lib.hid hA
 have KR := Lib.hid hR
 have LS := Lib.hid (HV.out.s.b hS)
 have LT := Lib.hid (HV.out.e.b hT)
 have LH := Lib.hid (HV.out.h.b hH)
 have LC := Lib.hid (HV.out.c.b hC)
 have LA := Lib.hid (HV.out.a.b hA)
 have LR := Lib.hid (HV.out.r.b hR)
 clear hS hT hH hC hA hR c0 c1 c2 c3 c4 c5 c6 c7 c8 c9 c10 c11 c12 c13 hrow hstr hue hi1 hi2 hn1 hn2 hv1 hv2 hp1 hp2 hf0 hft ht1
 refine wp_region_kept (by kernel_rfl) (by kernel_rfl) ?_
 repeat (go_big_quiet_step ((first
  | (go_at_call 240; with_reducible exact has_kept HS.out hz KS.out _)
  | (go_at_call 240; with_reducible exact has_kept HS.out hz KT.out _)
  | (go_at_call 243; with_reducible exact tfield_kept LS.out _)
  | (go_at_call 243; with_reducible exact tfield_kept LT.out _)
  | (go_at_call 244; with_reducible exact vspan_kept HF.out.1 HF.out.2.1 HF.out.2.2 _))))
 refine wpQuiet_nil ?_
 intro V2 hw'
 obtain ⟨⟨_, hb2⟩, rfl⟩ := hw'
 have hz2 := hb2.size
 have hb3 := hb.trans (hb2.mono hb.size)
 have hbl2 : w.heap.size < V2.heap.size := by omega
 have hzz : w.heap.size + 1 < V2.heap.size := by omega
 have HS2 := Lib.hid (Kw.cell ⟨V2, hb2⟩ (p := ⟨w.heap.size + 1, 0, none⟩) hz HS.out)
 have g4 : V2.cell? ⟨w.heap.size, 4, none⟩ = some (.int .i64 x.p) := f4 ⟨V2, hb2⟩
 have k4 : ∀ u : Kw V2, u.1.cell? ⟨w.heap.size, 4, none⟩ = some (.int .i64 x.p) := fun u => u.cell (p := ⟨w.heap.size, 4, none⟩) hbl2 g4
 have g5 : V2.cell? ⟨w.heap.size, 5, none⟩ = some (.int .i64 x.k) := f5 ⟨V2, hb2⟩
 have k5 : ∀ u : Kw V2, u.1.cell? ⟨w.heap.size, 5, none⟩ = some (.int .i64 x.k) := fun u => u.cell (p := ⟨w.heap.size, 5, none⟩) hbl2 g5
 have g6 : V2.cell? ⟨w.heap.size, 6, none⟩ = some (.int .i64 x.s) := f6 ⟨V2, hb2⟩
 have k6 : ∀ u : Kw V2, u.1.cell? ⟨w.heap.size, 6, none⟩ = some (.int .i64 x.s) := fun u => u.cell (p := ⟨w.heap.size, 6, none⟩) hbl2 g6
 have g7 : V2.cell? ⟨w.heap.size, 7, none⟩ = some (.int .i64 x.f) := f7 ⟨V2, hb2⟩
 have k7 : ∀ u : Kw V2, u.1.cell? ⟨w.heap.size, 7, none⟩ = some (.int .i64 x.f) := fun u => u.cell (p := ⟨w.heap.size, 7, none⟩) hbl2 g7
 have g8 : V2.cell? ⟨w.heap.size, 8, none⟩ = some (.int .i64 x.t) := f8 ⟨V2, hb2⟩
 have k8 : ∀ u : Kw V2, u.1.cell? ⟨w.heap.size, 8, none⟩ = some (.int .i64 x.t) := fun u => u.cell (p := ⟨w.heap.size, 8, none⟩) hbl2 g8
 have g9 : V2.cell? ⟨w.heap.size, 9, none⟩ = some (.int .i64 x.e) := f9 ⟨V2, hb2⟩
 have k9 : ∀ u : Kw V2, u.1.cell? ⟨w.heap.size, 9, none⟩ = some (.int .i64 x.e) := fun u => u.cell (p := ⟨w.heap.size, 9, none⟩) hbl2 g9
 have g10 : V2.cell? ⟨w.heap.size, 10, none⟩ = some (.int .i64 x.h) := f10 ⟨V2, hb2⟩
 have k10 : ∀ u : Kw V2, u.1.cell? ⟨w.heap.size, 10, none⟩ = some (.int .i64 x.h) := fun u => u.cell (p := ⟨w.heap.size, 10, none⟩) hbl2 g10
 have g11 : V2.cell? ⟨w.heap.size, 11, none⟩ = some (.int .i64 x.c) := f11 ⟨V2, hb2⟩
 have k11 : ∀ u : Kw V2, u.1.cell? ⟨w.heap.size, 11, none⟩ = some (.int .i64 x.c) := fun u => u.cell (p := ⟨w.heap.size, 11, none⟩) hbl2 g11
 have g12 : V2.cell? ⟨w.heap.size, 12, none⟩ = some (.int .i64 x.a) := f12 ⟨V2, hb2⟩
 have k12 : ∀ u : Kw V2, u.1.cell? ⟨w.heap.size, 12, none⟩ = some (.int .i64 x.a) := fun u => u.cell (p := ⟨w.heap.size, 12, none⟩) hbl2 g12
 have g13 : V2.cell? ⟨w.heap.size, 13, none⟩ = some (.int .i64 x.r) := f13 ⟨V2, hb2⟩
 have k13 : ∀ u : Kw V2, u.1.cell? ⟨w.heap.size, 13, none⟩ = some (.int .i64 x.r) := fun u => u.cell (p := ⟨w.heap.size, 13, none⟩) hbl2 g13
 clear f4 f5 f6 f7 f8 f9 f10 f11 f12 f13
 have G4 := Lib.hid g4
 have G5 := Lib.hid g5
 have G6 := Lib.hid g6
 have G7 := Lib.hid g7
 have G8 := Lib.hid g8
 have G9 := Lib.hid g9
 have G13 := Lib.hid g13
 clear g4 g5 g6 g7 g8 g9 g10 g11 g12 g13 HF LS LT KS KT
 go_upto_region 7 with (fail)
 refine wp_region_kept (by kernel_rfl) (by kernel_rfl) ?_
 repeat (go_big_quiet_step ((first
  | (go_at_call 240; with_reducible exact has_kept HS2.out hzz KH.out _)
  | (go_at_call 240; with_reducible exact has_kept HS2.out hzz KC.out _)
  | (go_at_call 240; with_reducible exact has_kept HS2.out hzz KA.out _)
  | (go_at_call 240; with_reducible exact has_kept HS2.out hzz KR.out _)
  | (go_at_call 243; with_reducible exact tfield_kept LH.out _)
  | (go_at_call 243; with_reducible exact tfield_kept LC.out _)
  | (go_at_call 243; with_reducible exact tfield_kept LA.out _)
  | (go_at_call 243; with_reducible exact tfield_kept LR.out _))))
 refine wpQuiet_nil ?_
 intro V3 hw'
 obtain ⟨⟨_, hb4⟩, rfl⟩ := hw'
 have hb5 := hb3.trans (hb4.mono hb3.size)
 have m4 : V3.cell? ⟨w.heap.size, 4, none⟩ = some (.int .i64 x.p) := k4 ⟨V3, hb4⟩
 have m5 : V3.cell? ⟨w.heap.size, 5, none⟩ = some (.int .i64 x.k) := k5 ⟨V3, hb4⟩
 have m6 : V3.cell? ⟨w.heap.size, 6, none⟩ = some (.int .i64 x.s) := k6 ⟨V3, hb4⟩
 have m7 : V3.cell? ⟨w.heap.size, 7, none⟩ = some (.int .i64 x.f) := k7 ⟨V3, hb4⟩
 have m8 : V3.cell? ⟨w.heap.size, 8, none⟩ = some (.int .i64 x.t) := k8 ⟨V3, hb4⟩
 have m9 : V3.cell? ⟨w.heap.size, 9, none⟩ = some (.int .i64 x.e) := k9 ⟨V3, hb4⟩
 have m13 : V3.cell? ⟨w.heap.size, 13, none⟩ = some (.int .i64 x.r) := k13 ⟨V3, hb4⟩
 clear k4 k5 k6 k7 k8 k9 k10 k11 k12 k13 LH LC LA LR KH KC KA KR HS2
 have hq4 := HV.out.q4
 have hq1 := HV.out.q1
 have hq2 := HV.out.q2
 have Q4 := Lib.hid hq4
 have Q1 := Lib.hid hq1
 have Q2 := Lib.hid hq2
 have HSP := Lib.hid HV.out.sp
 clear hq4 hq1 hq2
 by_cases h4 : x.k = 4
 ·have e4 : (x.k == 4) = true := beq_iff_eq.2 h4
  have hne : (x.s != x.e) = true := by simpa using Q4.out h4
  clear h4
  go_wp2_with fail
  go_ret
  exact ⟨rfl, hb5⟩
 have e4 : (x.k == 4) = false := beq_eq_false_iff_ne.2 h4
 by_cases h11 : x.k = 11
 ·have e11 : (x.k == 11) = true := beq_iff_eq.2 h11
  have ht : (x.t == x.f + 1) = true := beq_iff_eq.2 (Q1.out (.inl h11))
  have hw1 : IntKind.i64.wrap (x.f + 1) = x.f + 1 := IntWalk.i64_in _ (by have := HSP.out; omega)
  clear h11 h4
  go_wp2_with fail
  go_ret
  exact ⟨rfl, hb5⟩
 have e11 : (x.k == 11) = false := beq_eq_false_iff_ne.2 h11
 by_cases h12 : x.k = 12
 ·have e12 : (x.k == 12) = true := beq_iff_eq.2 h12
  have ht : (x.t == x.f + 1) = true := beq_iff_eq.2 (Q1.out (.inr h12))
  have hw1 : IntKind.i64.wrap (x.f + 1) = x.f + 1 := IntWalk.i64_in _ (by have := HSP.out; omega)
  clear h12 h11 h4
  go_wp2_with fail
  go_ret
  exact ⟨rfl, hb5⟩
 have e12 : (x.k == 12) = false := beq_eq_false_iff_ne.2 h12
 by_cases h10 : x.k = 10
 ·have e10 : (x.k == 10) = true := beq_iff_eq.2 h10
  have hne : (x.r != x.p) = true := by simpa using Q2.out (.inl h10)
  clear h10 h12 h11 h4
  go_wp2_with fail
  go_ret
  exact ⟨rfl, hb5⟩
 have e10 : (x.k == 10) = false := beq_eq_false_iff_ne.2 h10
 by_cases h14 : x.k = 14
 ·have e14 : (x.k == 14) = true := beq_iff_eq.2 h14
  have hne : (x.r != x.p) = true := by simpa using Q2.out (.inr h14)
  clear h14 h10 h12 h11 h4
  go_wp2_with fail
  go_ret
  exact ⟨rfl, hb5⟩
 have e14 : (x.k == 14) = false := beq_eq_false_iff_ne.2 h14
 clear h4 h11 h12 h10 h14
 go_wp2_with fail
 go_ret
 exact ⟨rfl, hb5⟩
end
section
theorem own_underF {w w' : World} {base e sz n : Nat} {v : Value} {xs : List Value} (h : w.ownsRow base e sz v n xs) (hb : Below w.heap.size w w') : w'.ownsRow base e sz v n xs :=
 h.kept (row := none) (grownBy_of_below hb none) (Classical.em _)
theorem tvalidE {x : Fc} (hv : Vld x) (w : World) : Calls Tryz.prog 192 #[.agg #[.int .i64 x.i, .int .i64 x.n, .int .i64 x.v, .bool x.g, .int .i64 x.p, .int .i64 x.k, .int .i64 x.s, .int .i64 x.f, .int .i64 x.t, .int .i64 x.e, .int .i64 x.h, .int .i64 x.c, .int .i64 x.a, .int .i64 x.r]] w fun e w' => e = .returned (.bool true) /\ Below w.heap.size w w' := tvalidF hv w
theorem FcAt.to {w w' : World} {b o : Nat} {x : Fc} (h : FcAt w b o x) (hb : Below w.heap.size w w') (hlt : b < w.heap.size) : FcAt w' b o x := h.below hb hlt
theorem FcAt.of0 {w : World} {b : Nat} {x : Fc} (h : FcAt w b 0 x) : w.cell? ⟨b, 0, none⟩ = some (.int .i64 x.i) /\ w.cell? ⟨b, 1, none⟩ = some (.int .i64 x.n) /\ w.cell? ⟨b, 2, none⟩ = some (.int .i64 x.v) /\ w.cell? ⟨b, 3, none⟩ = some (.bool x.g) /\ w.cell? ⟨b, 4, none⟩ = some (.int .i64 x.p) /\ w.cell? ⟨b, 5, none⟩ = some (.int .i64 x.k) /\ w.cell? ⟨b, 6, none⟩ = some (.int .i64 x.s) /\ w.cell? ⟨b, 7, none⟩ = some (.int .i64 x.f) /\ w.cell? ⟨b, 8, none⟩ = some (.int .i64 x.t) /\ w.cell? ⟨b, 9, none⟩ = some (.int .i64 x.e) /\ w.cell? ⟨b, 10, none⟩ = some (.int .i64 x.h) /\ w.cell? ⟨b, 11, none⟩ = some (.int .i64 x.c) /\ w.cell? ⟨b, 12, none⟩ = some (.int .i64 x.a) /\ w.cell? ⟨b, 13, none⟩ = some (.int .i64 x.r) := by
 obtain ⟨c0, c1, c2, c3, c4, c5, c6, c7, c8, c9, c10, c11, c12, c13⟩ := h
 rw [Nat.zero_add] at c1 c2 c3 c4 c5 c6 c7 c8 c9 c10 c11 c12 c13
 exact ⟨c0, c1, c2, c3, c4, c5, c6, c7, c8, c9, c10, c11, c12, c13⟩
def RetFs (w : World) (L : List Fc) (e : Ending) (w' : World) : Prop := ∃ A n c, e = .returned (.slice A n c) /\ L.length = n /\ w'.ownsRow w.heap.size 34 14 (.slice A n c) n (flat Fc.cells L) /\ Below w.heap.size w w'
theorem RetFs.open {w w' : World} {L : List Fc} {e : Ending} (h : RetFs w L e w') : ∃ A n c, Hid (L.length = n) /\ e = .returned (.slice A n c) /\ n <= c /\ c <= maxLen /\ w'.ownsRow w.heap.size 34 14 (.slice A n c) n (flat Fc.cells L) /\ Below w.heap.size w w' := by
 obtain ⟨A, n, c, he, hl, ho, hb⟩ := h
 obtain ⟨A2, c2, e2, h1, h2, _⟩ := own_form ho
 injection e2 with _ _ e3
 subst e3
 exact ⟨A, n, c, hl, he, h1, h2, ho, hb⟩
theorem fact_box (w : World) (x : Fc) : ∃ W, W = w.alloc (.cells #[.int .i64 x.i, .int .i64 x.n, .int .i64 x.v, .bool x.g, .int .i64 x.p, .int .i64 x.k, .int .i64 x.s, .int .i64 x.f, .int .i64 x.t, .int .i64 x.e, .int .i64 x.h, .int .i64 x.c, .int .i64 x.a, .int .i64 x.r] 34) /\ FcAt W w.heap.size 0 x /\ W.heap.size = w.heap.size + 1 /\ Below w.heap.size w W /\ Rd W (w.heap.size + 1) 14 (some ⟨w.heap.size, 0, none⟩) 1 (flat Fc.cells [x]) := by
 have h := heap_alloc_new w (.cells x.cells.toArray 34)
 refine ⟨_, rfl, fcAt_row (t := 34) (fr := (0, 0)) h, by simp, (Below.refl _ w).alloc (Nat.le_refl _) _, ?_⟩
 rw [flat_one]
 exact Rd.built (cs := x.cells.toArray) h (by omega) rfl
theorem cur_any {x : Fc} (hv : Vld x) (w : World) : Calls Tryz.prog 124 #[.agg #[.int .i64 x.i, .int .i64 x.n, .int .i64 x.v, .bool x.g, .int .i64 x.p, .int .i64 x.k, .int .i64 x.s, .int .i64 x.f, .int .i64 x.t, .int .i64 x.e, .int .i64 x.h, .int .i64 x.c, .int .i64 x.a, .int .i64 x.r]] w fun e w' => e = .returned (.bool (!x.g)) /\ Below w.heap.size w w' := by
 have HV := Lib.hid hv
 clear hv
 go_enter Tryz.func124, Tryz.ntmps124
 go_upto_region 1 with (fail)
 obtain ⟨W, hW, fx, hzW, hbA, _⟩ := fact_box w x
 rw [<- hW] at ⊢
 clear hW
 obtain ⟨t0, t1, t2, t3, t4, t5, t6, t7, t8, t9, t10, t11, t12, t13⟩ := fx.of0
 go_wp2_with fail
 refine (tvalidE HV.out _).mono ?_
 rintro e w1 ⟨rfl, hb1⟩
 have fx1 := fx.to hb1 (by omega)
 clear t0 t1 t2 t3 t4 t5 t6 t7 t8 t9 t10 t11 t12 t13 fx
 obtain ⟨t0, t1, t2, t3, t4, t5, t6, t7, t8, t9, t10, t11, t12, t13⟩ := fx1.of0
 go_wp2_with fail
 go_ret
 exact ⟨rfl, hbA.trans (hb1.mono hbA.size)⟩
theorem first_any {A : Option Addr} {n c : Nat} {L : List Fc} {w : World} (kd : Int) (hL : Rd w w.heap.size 14 A n (flat Fc.cells L)) (hl : L.length = n) (hv : ∀ x ∈ L, Vld x) (hn : n <= 900) :
  Calls Tryz.prog 127 #[.slice A n c, .int .i64 kd] w fun e w' => e = .returned (.tuple #[.int .i64 ((firD kd L).getD 0), .bool (firD kd L).isSome]) /\ Below w.heap.size w w' := by
 have HL := Lib.hid hl
 have HV := Lib.hid hv
 clear hl hv
 go_enter Tryz.func127, Tryz.ntmps127
 go_wp2_with fail
 go_loopw [6, 7, 12] (fun v b i wr => ∃ (j : Nat), j <= n /\ i = .int .i64 (j : Int) /\ v = .int .i64 ((firD kd (L.take j)).getD 0) /\ b = .bool (firD kd (L.take j)).isSome /\ Below w.heap.size w wr) (fun _ _ i _ => n - (intOf i).toNat)
 case atStart => exact ⟨0, by omega, rfl, rfl, rfl, Below.refl _ _⟩
 case round =>
  obtain ⟨j, hk, rfl, rfl, rfl, hb⟩ := hrel
  have hwsz := hb.size
  by_cases hlt : j < n
  ·have hkl : j < L.length := by rw [HL.out]; exact hlt
   obtain ⟨x, hx⟩ : ∃ x, L[j]? = some x := ⟨_, List.getElem?_eq_getElem hkl⟩
   have HVX := Lib.hid (HV.out x (List.mem_of_getElem? hx))
   have HST := Lib.hid (firD_take (k := kd) hx)
   obtain ⟨_, g, o2, rfl, hgb, f0⟩ := fc_cells (hL.below hb) hx
   obtain ⟨p0, p1, p2, p3, p4, p5, p6, p7, p8, p9, p10, p11, p12, p13⟩ := f0
   have hlo : (0 : Int) <= (j : Int) := by omega
   have hhi : (j : Int) < (n : Int) := by omega
   clear hx hkl
   obtain ⟨F, hF⟩ : ∃ F, F = firD kd (L.take j) := ⟨_, rfl⟩
   rw [<- hF] at HST ⊢
   have HF := Lib.hid hF
   clear hF
   go_upto_region 5 with (fail)
   obtain ⟨W, hW, fx, hzW, hbA, _⟩ := fact_box wr x
   rw [<- hW] at ⊢
   clear hW
   have hbw := hb.trans (hbA.mono hwsz)
   have hzw := hbw.size
   obtain ⟨t0, t1, t2, t3, t4, t5, t6, t7, t8, t9, t10, t11, t12, t13⟩ := fx.of0
   clear p0 p1 p2 p3 p4 p5 p6 p7 p8 p9 p10 p11 p12 p13 hb
   go_wp2_with fail
   refine (cur_any HVX.out _).mono ?_
   rintro e w1 ⟨rfl, hb1⟩
   have fx1 := fx.to hb1 (by omega)
   have hbw1 := hbw.trans (hb1.mono hzw)
   clear t0 t1 t2 t3 t4 t5 t6 t7 t8 t9 t10 t11 t12 t13 fx hb1 hbw
   obtain ⟨t0, t1, t2, t3, t4, t5, t6, t7, t8, t9, t10, t11, t12, t13⟩ := fx1.of0
   cases hg : x.g with
   | true =>
    have HS2 : Hid (firD kd (L.take (j + 1)) = F) := Lib.hid (by rw [HST.out]; simp [stepD, hg])
    clear HST HF
    go_wp2_with fail
    go_roundw
    case rel => exact ⟨j + 1, by omega, by go_num, by first | (rw [HS2.out]; done) | (rw [HS2.out]; rfl), by first | (rw [HS2.out]; done) | (rw [HS2.out]; rfl), hbw1⟩
    case measure => simp [intOf]; omega
   | false =>
    cases hk2 : (x.k == kd) with
    | false =>
     have HS2 : Hid (firD kd (L.take (j + 1)) = F) := Lib.hid (by rw [HST.out]; simp [stepD, hg, hk2])
     clear HST HF
     go_wp2_with fail
     go_roundw
     case rel => exact ⟨j + 1, by omega, by go_num, by first | (rw [HS2.out]; done) | (rw [HS2.out]; rfl), by first | (rw [HS2.out]; done) | (rw [HS2.out]; rfl), hbw1⟩
     case measure => simp [intOf]; omega
    | true =>
     cases F with
     | none =>
      have HS2 : Hid (firD kd (L.take (j + 1)) = some x.f) := Lib.hid (by rw [HST.out]; simp [stepD, hg, hk2])
      clear HST HF
      go_wp2_with fail
      go_roundw
      case rel => exact ⟨j + 1, by omega, by go_num, by first | (rw [HS2.out]; done) | (rw [HS2.out]; rfl), by first | (rw [HS2.out]; done) | (rw [HS2.out]; rfl), hbw1⟩
      case measure => simp [intOf]; omega
     | some d =>
      by_cases hlt2 : x.f < d
      ·have HS2 : Hid (firD kd (L.take (j + 1)) = some x.f) := Lib.hid (by rw [HST.out]; simp [stepD, hg, hk2, hlt2])
       clear HST HF
       have hd2 : decide (x.f < d) = true := decide_eq_true hlt2
       go_wp2_with fail
       go_roundw
       case rel => exact ⟨j + 1, by omega, by go_num, by first | (rw [HS2.out]; done) | (rw [HS2.out]; rfl), by first | (rw [HS2.out]; done) | (rw [HS2.out]; rfl), hbw1⟩
       case measure => simp [intOf]; omega
      ·have HS2 : Hid (firD kd (L.take (j + 1)) = some d) := Lib.hid (by rw [HST.out]; simp [stepD, hg, hk2, hlt2])
       clear HST HF
       have hd2 : decide (x.f < d) = false := decide_eq_false hlt2
       go_wp2_with fail
       go_roundw
       case rel => exact ⟨j + 1, by omega, by go_num, by first | (rw [HS2.out]; done) | (rw [HS2.out]; rfl), by first | (rw [HS2.out]; done) | (rw [HS2.out]; rfl), hbw1⟩
       case measure => simp [intOf]; omega
  ·have hkN : L.take j = L := List.take_of_length_le (by have := HL.out; omega)
   rw [hkN]
   go_wp2_with fail
   go_ret2
   exact ⟨rfl, hb⟩
theorem tdeath_any {A : Option Addr} {n c : Nat} {L : List Fc} {w : World} (hL : Rd w w.heap.size 14 A n (flat Fc.cells L)) (hl : L.length = n) (hv : ∀ x ∈ L, Vld x) (hn : n <= 900) :
  Calls Tryz.prog 257 #[.slice A n c] w fun e w' => e = .returned (.tuple #[.int .i64 ((firD 12 L).getD 0), .bool (firD 12 L).isSome]) /\ Below w.heap.size w w' := by
 go_enter Tryz.func257, Tryz.ntmps257
 go_wp2_with fail
 refine (first_any 12 hL hl hv hn).mono ?_
 rintro e w1 ⟨rfl, hb1⟩
 go_wp2_with fail
 go_ret2
 exact ⟨rfl, hb1⟩
theorem tbirth_any {A : Option Addr} {n c : Nat} {L : List Fc} {w : World} (hL : Rd w w.heap.size 14 A n (flat Fc.cells L)) (hl : L.length = n) (hv : ∀ x ∈ L, Vld x) (hn : n <= 900) :
  Calls Tryz.prog 72 #[.slice A n c] w fun e w' => e = .returned (.tuple #[.int .i64 ((firD 11 L).getD 0), .bool (firD 11 L).isSome]) /\ Below w.heap.size w w' := by
 go_enter Tryz.func72, Tryz.ntmps72
 go_wp2_with fail
 refine (first_any 11 hL hl hv hn).mono ?_
 rintro e w1 ⟨rfl, hb1⟩
 go_wp2_with fail
 go_ret2
 exact ⟨rfl, hb1⟩
def WkL (L : List Fc) : Prop := ∀ x ∈ L, Vld x /\ x.g = false /\ x.k = 1
theorem WkL.vld {L : List Fc} (h : WkL L) : ∀ x ∈ L, Vld x := fun x hx => (h x hx).1
theorem firD_no {L : List Fc} (h : WkL L) {kd : Int} (hk : kd ≠ 1) : firD kd L = none := by
 unfold firD
 have key : ∀ (l : List Fc), (∀ x ∈ l, x.k = 1) -> l.foldl (stepD kd) none = none := by
  intro l
  induction l with
  | nil => intro _; rfl
  | cons x r ih =>
   intro hx
   have h1 : stepD kd none x = none := by
    unfold stepD
    have : (x.k == kd) = false := by
     rw [hx x (List.mem_cons_self ..)]
     simpa using fun e => hk e.symm
    simp [this]
   rw [List.foldl_cons, h1]
   exact ih fun y hy => hx y (List.mem_cons_of_mem _ hy)
 exact key L fun x hx => (h x hx).2.2
theorem life_any {A : Option Addr} {n c : Nat} {L : List Fc} {w : World} (hL : Rd w w.heap.size 14 A n (flat Fc.cells L)) (hl : L.length = n) (hv : WkL L) (hn : n <= 900) :
  Calls Tryz.prog 199 #[.slice A n c] w fun e w' => e = .returned (.agg #[.int .i64 0, .int .i64 73049]) /\ Below w.heap.size w w' := by
 have hb := fun (u : World) (hu : Rd u u.heap.size 14 A n (flat Fc.cells L)) => tbirth_any (c := c) hu hl hv.vld hn
 have hd := fun (u : World) (hu : Rd u u.heap.size 14 A n (flat Fc.cells L)) => tdeath_any (c := c) hu hl hv.vld hn
 rw [firD_no hv (by omega)] at hb hd
 obtain ⟨W, hW, b, r⟩ := box_new w (.cells #[.int .i64 0, .int .i64 0] 32)
 have lW := (gis r).1
 have hL1 : Rd W W.heap.size 14 A n (flat Fc.cells L) := (hL.below b).mono b.size
 have HB := Lib.hid hb
 have HD := Lib.hid hd
 clear hb hd hv hl
 go_enter Tryz.func199, Tryz.ntmps199
 go_upto_region 1 with (fail)
 clear hW
 go_wp2_with fail
 refine (HB.out _ hL1).mono ?_
 rintro e w1 ⟨rfl, b1⟩
 have hL2 : Rd w1 w1.heap.size 14 A n (flat Fc.cells L) := (hL1.below b1).mono b1.size
 go_wp2_with fail
 refine (HD.out _ hL2).mono ?_
 rintro e w2 ⟨rfl, b2⟩
 have hb2 := b1.trans (b2.mono b1.size)
 have r2 := (hb2.block _ lW).trans r
 have s0 : w2.cell? ⟨w.heap.size, 0, none⟩ = some (.int .i64 0) := by rw [cell_of_row _ _ _ _ _ _ r2]; rfl
 have s1 : w2.cell? ⟨w.heap.size, 1, none⟩ = some (.int .i64 0) := by rw [cell_of_row _ _ _ _ _ _ r2]; rfl
 have y0 := frozen_of_row w2 w.heap.size 0 _ _ r2
 have y1 := frozen_of_row w2 w.heap.size 1 _ _ r2
 have hfin := ((b.trans (hb2.mono b.size)).setCell (p := ⟨w.heap.size, 0, none⟩) (Nat.le_refl _) (.int .i64 0)).setCell (p := ⟨w.heap.size, 1, none⟩) (Nat.le_refl _) (.int .i64 73049)
 go_wp2_with fail
 exact bodyPost_ret (v := .agg #[.int .i64 0, .int .i64 73049]) (by simp [results, Tryz.f199, go_sem, s0, s1]) rfl ⟨rfl, hfin⟩
theorem filtc_any {A : Option Addr} {n c : Nat} {L : List Fc} {w : World} (hL : Rd w w.heap.size 14 A n (flat Fc.cells L)) (hl : L.length = n) (hv : WkL L) (hn : n <= 900) :
  Calls Tryz.prog 256 #[.slice A n c, .func (.func 124) #[] #[]] w (RetFs w L) := by
 obtain ⟨i0, hi0, hz0, hz1, hz2⟩ := info_parts info_fact
 have HL := Lib.hid hl
 have HV := Lib.hid hv
 clear hl hv
 go_enter Tryz.func256, Tryz.ntmps256
 go_wp2_with fail
 go_loopw [5, 10] (fun v i wr => ∃ (k m c1 : Nat) (A1 : Option Addr), k <= n /\ i = .int .i64 (k : Int) /\ v = .slice A1 m c1 /\ (L.take k).length = m /\ wr.ownsRow w.heap.size 34 14 (.slice A1 m c1) m (flat Fc.cells (L.take k)) /\ Below w.heap.size w wr) (fun _ i _ => n - (intOf i).toNat)
 case atStart => exact ⟨0, 0, 0, none, by omega, rfl, rfl, rfl, World.ownsRow_nil _ _ _ _, Below.refl _ _⟩
 case round =>
  obtain ⟨k, m, c1, A1, hk, rfl, rfl, hm, hown, hb⟩ := hrel
  have hwsz := hb.size
  have hml : m <= k := by rw [<- hm, List.length_take]; omega
  obtain ⟨_, _, e0, hnc1, hcm1, _⟩ := own_form hown
  injection e0 with ea _ e1
  subst ea e1
  have HM := Lib.hid hm
  have HCM := Lib.hid hcm1
  clear hm hcm1
  by_cases hlt : k < n
  ·have hkl : k < L.length := by rw [HL.out]; exact hlt
   obtain ⟨x, hx⟩ : ∃ x, L[k]? = some x := ⟨_, List.getElem?_eq_getElem hkl⟩
   have HVX := Lib.hid (HV.out x (List.mem_of_getElem? hx))
   have HST : Hid (L.take (k + 1) = L.take k ++ [x]) := Lib.hid (by rw [List.take_add_one, hx]; rfl)
   obtain ⟨_, g, o2, rfl, hgb, f0⟩ := fc_cells (hL.below hb) hx
   obtain ⟨p0, p1, p2, p3, p4, p5, p6, p7, p8, p9, p10, p11, p12, p13⟩ := f0
   have hlo : (0 : Int) <= (k : Int) := by omega
   have hhi : (k : Int) < (n : Int) := by omega
   clear hx hkl
   obtain ⟨O, hO⟩ : ∃ O, O = L.take k := ⟨_, rfl⟩
   rw [<- hO] at hown HM HST
   clear hO
   go_upto_region 5 with (fail)
   obtain ⟨W, hW, fx, hzW, hbA, _⟩ := fact_box wr x
   have hownA := own_underF hown hbA
   rw [<- hW] at ⊢
   clear hW
   have hbw := hb.trans (hbA.mono hwsz)
   have hzw := hbw.size
   obtain ⟨t0, t1, t2, t3, t4, t5, t6, t7, t8, t9, t10, t11, t12, t13⟩ := fx.of0
   clear p0 p1 p2 p3 p4 p5 p6 p7 p8 p9 p10 p11 p12 p13 hown hb
   go_wp2_with fail
   refine (cur_any HVX.out.1 _).mono ?_
   rintro e w1 ⟨rfl, hb1⟩
   have fx1 := fx.to hb1 (by omega)
   have hown1 := own_underF hownA hb1
   have hbw1 := hbw.trans (hb1.mono hzw)
   have hy1 := hbw1.size
   have hy2 := hb1.size
   clear t0 t1 t2 t3 t4 t5 t6 t7 t8 t9 t10 t11 t12 t13 fx hownA hb1 hbw
   obtain ⟨t0, t1, t2, t3, t4, t5, t6, t7, t8, t9, t10, t11, t12, t13⟩ := fx1.of0
   rw [HVX.out.2.1]
   have HS2 : Hid (L.take (k + 1) = O ++ [x]) := HST
   clear HST
   go_wp2_with (at_builtin; go_loud (refine wpList_append_rd (by rfl) (.tmp 17) (.tmp 19) 36 (by rfl) w.heap.size 34 i0 _ 14 112 Tryz.underlying36 hi0 hz0 hz1 hz2 rfl (by omega) (.slice A1 m c1) m (flat Fc.cells O) (by rfl) (hown1.alloc _) (w1.heap.size + 1) (some ⟨w1.heap.size, 0, none⟩) 1 1 x.cells (by rfl) (Rd.built (cs := x.cells.toArray) (heap_alloc_new w1 _) (by omega) rfl) (by intro u hu; simp only [Fc.cells, List.mem_cons, List.not_mem_nil, or_false] at hu; rcases hu with rfl | rfl | rfl | rfl | rfl | rfl | rfl | rfl | rfl | rfl | rfl | rfl | rfl | rfl <;> rfl) (by unfold maxLen; omega) (by omega) (by simp; omega) ?_); intro v4 w4 hown4 hg4 hat4)
   have hb4 := (hbw1.alloc hy1 (.cells x.cells.toArray 34)).grown hg4 (by simp; omega) (fun g e => (hown1.lt g e).1)
   obtain ⟨A4, c4, rfl, _, _, _⟩ := own_form hown4
   go_roundw
   case rel => exact ⟨k + 1, m + 1, c4, A4, by omega, by go_num, rfl, by rw [HS2.out, List.length_append, HM.out]; rfl, by rw [HS2.out, flat_append, flat_one]; exact hown4, hb4⟩
   case measure => simp [intOf]; omega
  ·have hkN : L.take k = L := List.take_of_length_le (by have := HL.out; omega)
   rw [hkN] at hown HM
   go_wp2_with fail
   go_ret
   exact ⟨A1, m, c1, rfl, HM.out, hown, hb⟩
theorem current_any {A : Option Addr} {n c : Nat} {L : List Fc} {w : World} (hL : Rd w w.heap.size 14 A n (flat Fc.cells L)) (hl : L.length = n) (hv : WkL L) (hn : n <= 900) :
  Calls Tryz.prog 197 #[.slice A n c] w (RetFs w L) := by
 go_enter Tryz.func197, Tryz.ntmps197
 go_wp2_with fail
 refine (filtc_any hL hl hv hn).mono ?_
 rintro e w2 hret
 obtain ⟨A4, n4, c4, hl4, rfl, h41, h42, hown4, hb4⟩ := hret.open
 go_wp2_with fail
 go_ret
 exact ⟨A4, n4, c4, rfl, hl4.out, hown4, hb4⟩
end
section
theorem within_any (x h : Int) (w : World) : Calls Tryz.prog 169 #[.int .i64 x, .int .i64 h] w fun e w' => e = .returned (.bool (decide (0 <= x) && decide (x <= h))) /\ w = w' := by
 by_cases h1 : 0 <= x
 ·have d1 : decide (0 <= x) = true := decide_eq_true h1
  by_cases h2 : x <= h
  ·have d2 : decide (x <= h) = true := decide_eq_true h2
   go_enter Tryz.func169, Tryz.ntmps169
   go_wp2
   go_ret
   exact ⟨ret_bool (by simp <;> omega), rfl⟩
  ·have d2 : decide (x <= h) = false := decide_eq_false h2
   go_enter Tryz.func169, Tryz.ntmps169
   go_wp2
   go_ret
   exact ⟨ret_bool (by simp <;> omega), rfl⟩
 ·have d1 : decide (0 <= x) = false := decide_eq_false h1
  go_enter Tryz.func169, Tryz.ntmps169
  go_wp2
  go_ret
  exact ⟨ret_bool (by simp <;> omega), rfl⟩
theorem okR_parts (r : Ru) : okR r = (isD r.f && (decide (0 <= r.d) && decide (r.d <= 73049)) && (decide (0 <= r.p) && decide (r.p <= 73049)) && (decide (0 <= r.b) && decide (r.b <= 100)) && okM (-1) r.m) := by
 unfold okR
 rw [Bool.eq_iff_iff]
 simp only [Bool.and_eq_true, decide_eq_true_eq, isD_iff]
 constructor
 ·rintro ⟨h, h2⟩
  exact ⟨⟨⟨⟨by omega, by omega⟩, by omega⟩, by omega⟩, h2⟩
 ·rintro ⟨⟨⟨⟨h1, h2⟩, h3⟩, h4⟩, h5⟩
  exact ⟨by omega, h5⟩
theorem tok_any (x : Rv) {w : World} (hm : Rd w w.heap.size 1 x.a x.r.m.length (ints x.r.m)) (hml : x.r.m.length <= maxLen) :
  Calls Tryz.prog 113 #[x.agg] w fun e w' => e = .returned (.bool (okR x.r)) /\ Below w.heap.size w w' := by
 obtain ⟨⟨f, d, p, b, m⟩, a, c⟩ := x
 have hp := okR_parts ⟨f, d, p, b, m⟩
 dsimp only at hp
 have HP := Lib.hid hp
 clear hp
 dsimp only [Rv.agg] at hm hml ⊢
 unfold maxLen at hml
 go_enter Tryz.func113, Tryz.ntmps113
 go_upto_region 1 with (fail)
 have hrow := heap_alloc_new w (.cells #[.int .i64 f, .int .i64 d, .int .i64 p, .int .i64 b, .slice a m.length c] 56)
 have hbA := (Below.refl w.heap.size w).alloc (Nat.le_refl _) (.cells #[.int .i64 f, .int .i64 d, .int .i64 p, .int .i64 b, .slice a m.length c] 56)
 obtain ⟨W, hW⟩ : ∃ W, W = w.alloc (.cells #[.int .i64 f, .int .i64 d, .int .i64 p, .int .i64 b, .slice a m.length c] 56) := ⟨_, rfl⟩
 rw [<- hW] at hrow hbA ⊢
 clear hW
 have x0 : W.cell? ⟨w.heap.size, 0, none⟩ = some (.int .i64 f) := by rw [cell_of_row W _ 0 _ _ _ hrow]; rfl
 have x1 : W.cell? ⟨w.heap.size, 1, none⟩ = some (.int .i64 d) := by rw [cell_of_row W _ 1 _ _ _ hrow]; rfl
 have x2 : W.cell? ⟨w.heap.size, 2, none⟩ = some (.int .i64 p) := by rw [cell_of_row W _ 2 _ _ _ hrow]; rfl
 have x3 : W.cell? ⟨w.heap.size, 3, none⟩ = some (.int .i64 b) := by rw [cell_of_row W _ 3 _ _ _ hrow]; rfl
 have x4 : W.cell? ⟨w.heap.size, 4, none⟩ = some (.slice a m.length c) := by rw [cell_of_row W _ 4 _ _ _ hrow]; rfl
 have hmW := (hm.below hbA).mono hbA.size
 clear hrow hm
 go_wp2_with fail
 refine (tvalid_any f _).mono ?_
 rintro e w' ⟨rfl, rfl⟩
 obtain ⟨t0, hd0⟩ : ∃ t, isD f = t := ⟨_, rfl⟩
 rw [hd0]
 have H0 := Lib.hid hd0
 clear hd0
 cases t0
 ·go_wp2_with fail
  go_ret
  exact ⟨ret_bool (by rw [HP.out]; rw [H0.out]; simp), hbA⟩
 go_wp2_with fail
 refine (within_any d 73049 _).mono ?_
 rintro e w' ⟨rfl, rfl⟩
 obtain ⟨t1, hd1⟩ : ∃ t, (decide (0 <= d) && decide (d <= 73049)) = t := ⟨_, rfl⟩
 rw [hd1]
 have H1 := Lib.hid hd1
 clear hd1
 cases t1
 ·go_wp2_with fail
  go_ret
  exact ⟨ret_bool (by rw [HP.out]; rw [H1.out]; simp), hbA⟩
 go_wp2_with fail
 refine (within_any p 73049 _).mono ?_
 rintro e w' ⟨rfl, rfl⟩
 obtain ⟨t2, hd2⟩ : ∃ t, (decide (0 <= p) && decide (p <= 73049)) = t := ⟨_, rfl⟩
 rw [hd2]
 have H2 := Lib.hid hd2
 clear hd2
 cases t2
 ·go_wp2_with fail
  go_ret
  exact ⟨ret_bool (by rw [HP.out]; rw [H2.out]; simp), hbA⟩
 go_wp2_with fail
 refine (within_any b 100 _).mono ?_
 rintro e w' ⟨rfl, rfl⟩
 obtain ⟨t3, hd3⟩ : ∃ t, (decide (0 <= b) && decide (b <= 100)) = t := ⟨_, rfl⟩
 rw [hd3]
 have H3 := Lib.hid hd3
 clear hd3
 cases t3
 ·go_wp2_with fail
  go_ret
  exact ⟨ret_bool (by rw [HP.out]; rw [H3.out]; simp), hbA⟩
 have HOK : Hid (okR ⟨f, d, p, b, m⟩ = okM (-1) m) := Lib.hid (by
  rw [HP.out]
  have h0 := H0.out
  have h1 := H1.out
  have h2 := H2.out
  have h3 := H3.out
  rw [h0, h1, h2, h3]
  rfl)
 clear HP H0 H1 H2 H3 x0 x1 x2 x3
 go_wp2_with fail
 go_loopw [30] (fun i wr => ∃ k : Nat, k <= m.length /\ i = .int .i64 (k : Int) /\ okM (-1) (m.take k) = true /\ wr = W) (fun i _ => m.length - (intOf i).toNat)
 case atStart => exact ⟨0, by omega, rfl, rfl, rfl⟩
 case round =>
  obtain ⟨k, hk, rfl, hok, rfl⟩ := hrel
  have HK := Lib.hid hok
  clear hok
  by_cases hlt : k < m.length
  ·obtain ⟨y, hy⟩ : ∃ y, m[k]? = some y := ⟨_, List.getElem?_eq_getElem hlt⟩
   obtain ⟨_, g, o, rfl, hgb, q0⟩ := hmW.int hy
   have hst := okM_take (b := -1) hy
   have HST := Lib.hid hst
   have hlo : (0 : Int) <= (k : Int) := by omega
   have hhi : (k : Int) < (m.length : Int) := by omega
   clear hst
   go_wp2_with fail
   refine (within_any y 5 _).mono ?_
   rintro e w' ⟨rfl, rfl⟩
   obtain ⟨t, ht⟩ : ∃ t, (decide (0 <= y) && decide (y <= 5)) = t := ⟨_, rfl⟩
   rw [ht]
   have HT := Lib.hid ht
   clear ht
   cases t
   ·have hno : okM (-1) m = false := okM_cut (k := k + 1) (by
     rw [HST.out, HK.out, Bool.true_and, decide_eq_false_iff_not]
     have h1 := okM_ge _ _ HK.out
     have h2 := HT.out
     simp only [Bool.and_eq_false_iff, decide_eq_false_iff_not] at h2
     omega)
    have HNO := Lib.hid hno
    clear hno
    go_wp2_with fail
    go_ret
    exact ⟨ret_bool (by rw [HOK.out, HNO.out]), hbA⟩
   ·have hy5 : 0 <= y /\ y <= 5 := by have := HT.out; simpa using this
    by_cases hk0 : k = 0
    ·subst hk0
     have hd0 : ¬ (0 : Int) < ((0 : Nat) : Int) := by omega
     have hT : okM (-1) (m.take (0 + 1)) = true := by
      rw [HST.out, HK.out, Bool.true_and, decide_eq_true_eq]
      exact ⟨by show (-1 : Int) < y; omega, hy5.2⟩
     have HTT := Lib.hid hT
     clear hT
     go_wp2_with fail
     go_roundw
     case rel => exact ⟨1, by omega, by go_num, HTT.out, trivial⟩
     case measure => simp [intOf]; omega
    ·have hd0 : decide ((0 : Int) < (k : Int)) = true := decide_eq_true (by omega)
     have hd1 : (0 : Int) < (k : Int) := by omega
     have hw1 : IntKind.i64.wrap ((k : Int) - 1) = (k : Int) - 1 := IntWalk.i64_in _ (by omega)
     have hlo1 : (0 : Int) <= (k : Int) - 1 := by omega
     have hhi1 : (k : Int) - 1 < (m.length : Int) := by omega
     have hk1 : 1 <= k := by omega
     have hk2 : (1 : Int) <= (k : Int) := by omega
     have hk3 : (k : Int) <= (m.length : Int) := by omega
     obtain ⟨z, hz⟩ : ∃ z, m[k - 1]? = some z := ⟨_, List.getElem?_eq_getElem (by omega)⟩
     obtain ⟨_, g', o', hA, _, q1⟩ := hmW.int hz
     injection hA with hA
     injection hA with hA1 hA2
     subst hA1 hA2
     have hlm : lastM (-1) (m.take k) = z := by
      have := lastM_take (b := -1) hz
      rwa [show k - 1 + 1 = k by omega] at this
     have HLM := Lib.hid hlm
     clear hlm hy hz
     by_cases hyz : y <= z
     ·have dyz : decide (y <= z) = true := decide_eq_true hyz
      have hno : okM (-1) m = false := okM_cut (k := k + 1) (by
       rw [HST.out, HK.out, Bool.true_and, decide_eq_false_iff_not, HLM.out]
       omega)
      have HNO := Lib.hid hno
      clear hno
      go_wp2_with fail
      go_ret
      exact ⟨ret_bool (by rw [HOK.out, HNO.out]), hbA⟩
     ·have dyz : decide (y <= z) = false := decide_eq_false hyz
      have hT : okM (-1) (m.take (k + 1)) = true := by
       rw [HST.out, HK.out, Bool.true_and, decide_eq_true_eq, HLM.out]
       omega
      have HTT := Lib.hid hT
      clear hT
      go_wp2_with fail
      go_roundw
      case rel => exact ⟨k + 1, by omega, by go_num, HTT.out, trivial⟩
      case measure => simp [intOf]; omega
  ·have hok : okM (-1) m = true := by
    have := HK.out
    rwa [List.take_of_length_le (by omega)] at this
   have HM := Lib.hid hok
   clear hok
   go_wp2_with fail
   go_ret
   exact ⟨ret_bool (by rw [HOK.out, HM.out]), hbA⟩
end
end Go.Proofs.YtnlopdmhdiegnaaGreatDoor
