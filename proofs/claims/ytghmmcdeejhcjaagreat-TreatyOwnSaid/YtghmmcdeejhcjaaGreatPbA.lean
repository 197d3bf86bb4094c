/- wordOf, ValidRounding; a version as it is read. -/
import Derived.Test.YtghmmcdeejhcjaaGreatQe
import Derived.Test.YtghmmcdeejhcjaaGreatQf
import Derived.Test.YtghmmcdeejhcjaaGreatSpRefA
namespace Go.Proofs.YtghmmcdeejhcjaaGreat
open Go.RowKit

abbrev wordRow : Obj := .cells #[.string ⟨#[118, 111, 108, 117, 110, 116, 97, 114, 121]⟩, .string ⟨#[115, 101, 114, 118, 105, 99, 101]⟩, .string ⟨#[117, 110, 101, 109, 112, 108, 111, 121, 101, 100]⟩, .string ⟨#[115, 105, 99, 107]⟩, .string ⟨#[99, 104, 105, 108, 100]⟩, .string ⟨#[114, 101, 115, 105, 100, 101, 110, 99, 101]⟩, .string ⟨#[111, 108, 100]⟩, .string ⟨#[100, 105, 115, 97, 98, 105, 108, 105, 116, 121]⟩, .string ⟨#[115, 117, 114, 118, 105, 118, 111, 114]⟩, .string ⟨#[102, 97, 109, 105, 108, 121]⟩, .string ⟨#[115, 105, 99, 107, 110, 101, 115, 115]⟩, .string ⟨#[100, 111, 119, 110]⟩, .string ⟨#[117, 112]⟩, .string ⟨#[104, 97, 108, 102]⟩, .string ⟨#[101, 118, 101, 110]⟩] 9
theorem word_cell {w : World} {g : Nat} (h : w.heap[g]? = some (wordRow)) {k : Nat} (hk : k < 15) : ∃ s : ByteArray, w.cell? ⟨g, k, none⟩ = some (.string s) := by
  rcases (show k = 0 ∨ k = 1 ∨ k = 2 ∨ k = 3 ∨ k = 4 ∨ k = 5 ∨ k = 6 ∨ k = 7 ∨ k = 8 ∨ k = 9 ∨ k = 10 ∨ k = 11 ∨ k = 12 ∨ k = 13 ∨ k = 14 by omega) with rfl | rfl | rfl | rfl | rfl | rfl | rfl | rfl | rfl | rfl | rfl | rfl | rfl | rfl | rfl
  all_goals exact ⟨_, by rw [cell_of_row _ _ _ _ _ _ h]; rfl⟩
theorem sbeq (s : ByteArray) : ∃ b : Bool, s.toList.isEmpty = b := ⟨_, rfl⟩
set_option maxRecDepth 100000 in
set_option maxHeartbeats 4000000 in
theorem wordof1_any (n : Int) (w : World) : Calls Tryz.prog 62 #[.int .i64 n, .int .i64 1] w (RetSt w) := by
  by_cases hn : 0 < n
  · have d0 : decide (0 < n) = true := decide_eq_true hn
    clear hn
    go_enter Tryz.func62, Tryz.ntmps62
    go_wp2_with fail
    obtain ⟨X, hX, hrow, hbX⟩ : ∃ X, X = w.alloc wordRow ∧ X.heap[w.heap.size]? = some wordRow ∧ Below w.heap.size w X := ⟨_, rfl, heap_alloc_new w _, (Below.refl _ _).alloc (Nat.le_refl _) _⟩
    rw [← hX]
    clear hX
    go_loop [6] (fun i => ∃ k : Nat, k ≤ 15 ∧ i = .int .i64 (k : Int)) (fun i => 15 - (intOf i).toNat)
    case atStart => exact ⟨0, by omega, rfl⟩
    case round =>
      obtain ⟨k, hk, rfl⟩ := hrel
      by_cases hlt : k < 15
      · obtain ⟨s, hs⟩ := word_cell hrow hlt
        have hlt' : (k : Int) < 15 := by omega
        go_wp2_with fail
        refine (kindw_any s _).mono ?_
        rintro e w1 ⟨r, rfl, -, -, rfl⟩
        obtain ⟨kb, hkb⟩ : ∃ b, (r == n) = b := ⟨_, rfl⟩
        cases kb
        · go_wp2_with fail
          go_round
          case rel => exact ⟨k + 1, by omega, by go_num⟩
          case measure => simp [intOf]; omega
        · go_wp2_with fail
          go_ret
          exact ⟨_, rfl, hbX⟩
      · have hlt' : ¬ (k : Int) < 15 := by omega
        go_wp2_with fail
        go_ret
        exact ⟨_, rfl, hbX⟩
  · have d0 : decide (0 < n) = false := decide_eq_false hn
    clear hn
    go_enter Tryz.func62, Tryz.ntmps62
    go_wp2_with fail
    obtain ⟨X, hX, hrow, hbX⟩ : ∃ X, X = w.alloc wordRow ∧ X.heap[w.heap.size]? = some wordRow ∧ Below w.heap.size w X := ⟨_, rfl, heap_alloc_new w _, (Below.refl _ _).alloc (Nat.le_refl _) _⟩
    rw [← hX]
    clear hX
    go_loop [6] (fun i => i = .int .i64 0) (fun _ => 0)
    case atStart => rfl
    case round =>
      obtain rfl := hrel
      go_wp2_with fail
      go_ret
      exact ⟨_, rfl, hbX⟩
set_option maxRecDepth 100000 in
set_option maxHeartbeats 4000000 in
theorem wordof2_any (n : Int) (w : World) : Calls Tryz.prog 62 #[.int .i64 n, .int .i64 2] w (RetSt w) := by
  by_cases hn : 0 < n
  · have d0 : decide (0 < n) = true := decide_eq_true hn
    clear hn
    go_enter Tryz.func62, Tryz.ntmps62
    go_wp2_with fail
    obtain ⟨X, hX, hrow, hbX⟩ : ∃ X, X = w.alloc wordRow ∧ X.heap[w.heap.size]? = some wordRow ∧ Below w.heap.size w X := ⟨_, rfl, heap_alloc_new w _, (Below.refl _ _).alloc (Nat.le_refl _) _⟩
    rw [← hX]
    clear hX
    go_loop [6] (fun i => ∃ k : Nat, k ≤ 15 ∧ i = .int .i64 (k : Int)) (fun i => 15 - (intOf i).toNat)
    case atStart => exact ⟨0, by omega, rfl⟩
    case round =>
      obtain ⟨k, hk, rfl⟩ := hrel
      by_cases hlt : k < 15
      · obtain ⟨s, hs⟩ := word_cell hrow hlt
        have hlt' : (k : Int) < 15 := by omega
        go_wp2_with fail
        refine (benefitw_any s _).mono ?_
        rintro e w1 ⟨r, rfl, -, -, rfl⟩
        obtain ⟨kb, hkb⟩ : ∃ b, (r == n) = b := ⟨_, rfl⟩
        cases kb
        · go_wp2_with fail
          go_round
          case rel => exact ⟨k + 1, by omega, by go_num⟩
          case measure => simp [intOf]; omega
        · go_wp2_with fail
          go_ret
          exact ⟨_, rfl, hbX⟩
      · have hlt' : ¬ (k : Int) < 15 := by omega
        go_wp2_with fail
        go_ret
        exact ⟨_, rfl, hbX⟩
  · have d0 : decide (0 < n) = false := decide_eq_false hn
    clear hn
    go_enter Tryz.func62, Tryz.ntmps62
    go_wp2_with fail
    obtain ⟨X, hX, hrow, hbX⟩ : ∃ X, X = w.alloc wordRow ∧ X.heap[w.heap.size]? = some wordRow ∧ Below w.heap.size w X := ⟨_, rfl, heap_alloc_new w _, (Below.refl _ _).alloc (Nat.le_refl _) _⟩
    rw [← hX]
    clear hX
    go_loop [6] (fun i => i = .int .i64 0) (fun _ => 0)
    case atStart => rfl
    case round =>
      obtain rfl := hrel
      go_wp2_with fail
      go_ret
      exact ⟨_, rfl, hbX⟩
set_option maxRecDepth 100000 in
set_option maxHeartbeats 2000000 in
theorem vround_any (m u : Int) (w : World) : Calls Tryz.prog 61 #[.agg #[.int .i64 m, .int .i64 u]] w (RetBb w) := by
  have hb := (Below.refl w.heap.size w).alloc (Nat.le_refl _) (.cells #[.int .i64 m, .int .i64 u] 71)
  go_enter Tryz.func61, Tryz.ntmps61
  go_wp2_with fail
  all_goals (go_ret; exact ⟨_, rfl, hb⟩)
/-- A tree that can be read. -/
abbrev ExR (w : World) (x : Ex) : Prop := ExOk (fun _ => True) w x
/-- A version as it is read: its rows and their trees. -/
structure VRd (w : World) (C : Vc) : Prop where
  cr : Rd w w.heap.size 2 C.cr.A C.cr.l.length (flat VCr.cells C.cr.l)
  ix : Rd w w.heap.size 3 C.ix.A C.ix.l.length (flat VIx.cells C.ix.l)
  ixg : ∀ x ∈ C.ix.l, FrOk x.n x.d
  le : Rd w w.heap.size 7 C.le.A C.le.l.length (flat VLe.cells C.le.l)
  leg : ∀ x ∈ C.le.l, x.s.size ≤ 100000 ∧ ExR w x.x
  gr : Rd w w.heap.size 13 C.gr.A C.gr.l.length (flat VGr.cells C.gr.l)
  grg : ∀ x ∈ C.gr.l, ExR w x.x ∧ ExR w x.y
  re : Rd w w.heap.size 7 C.re.A C.re.l.length (flat VRe.cells C.re.l)
  reg : ∀ x ∈ C.re.l, ExR w x.x
theorem VRd.to {w w' : World} {C : Vc} (h : VRd w C) (hb : Below w.heap.size w w') : VRd w' C :=
  ⟨(h.cr.below hb).mono hb.size, (h.ix.below hb).mono hb.size, h.ixg, (h.le.below hb).mono hb.size, fun x hx => ⟨(h.leg x hx).1, (h.leg x hx).2.bel hb⟩, (h.gr.below hb).mono hb.size, fun x hx => ⟨(h.grg x hx).1.bel hb, (h.grg x hx).2.bel hb⟩, (h.re.below hb).mono hb.size, fun x hx => (h.reg x hx).bel hb⟩
theorem VW.vrd {w : World} {base : Nat} {C : Vc} (h : VW w base C) : VRd w C :=
  ⟨Rd.ofOwn h.cr.1, Rd.ofOwn h.ix.1, fun x hx => h.ix.2 x hx, Rd.ofOwn h.le.1, fun x hx => ⟨(h.le.2 x hx).1, (h.le.2 x hx).2.imp fun _ _ _ => trivial⟩, Rd.ofOwn h.gr.1, fun x hx => ⟨(h.gr.2 x hx).1.imp fun _ _ _ => trivial, (h.gr.2 x hx).2.imp fun _ _ _ => trivial⟩, Rd.ofOwn h.re.1, fun x hx => (h.re.2 x hx).imp fun _ _ _ => trivial⟩
theorem cr_cells {w : World} {C : Vc} (h : VRd w C) {k : Nat} {x : VCr} (hx : C.cr.l[k]? = some x) :
    ∃ b p, C.cr.A = some ⟨b, p, none⟩ ∧ b < w.heap.size ∧ w.cell? ⟨b, p + k * 2, none⟩ = some (.int .i64 x.k) ∧ w.cell? ⟨b, p + k * 2 + 1, none⟩ = some (.int .i64 x.m) := by
  obtain ⟨_, b, p, e, hb, hc⟩ := h.cr.elem vcr_len hx (by omega)
  exact ⟨b, p, e, hb, by simpa using hc 0 _ rfl, hc 1 _ rfl⟩
theorem ix_cells {w : World} {C : Vc} (h : VRd w C) {k : Nat} {x : VIx} (hx : C.ix.l[k]? = some x) :
    FrOk x.n x.d ∧ ∃ b p, C.ix.A = some ⟨b, p, none⟩ ∧ b < w.heap.size ∧ w.cell? ⟨b, p + k * 3, none⟩ = some (.int .i64 x.y) ∧ w.cell? ⟨b, p + k * 3 + 1, none⟩ = some (.int .i64 x.n) ∧ w.cell? ⟨b, p + k * 3 + 2, none⟩ = some (.int .i64 x.d) := by
  obtain ⟨_, b, p, e, hb, hc⟩ := h.ix.elem vix_len hx (by omega)
  exact ⟨h.ixg x (List.mem_of_getElem? hx), b, p, e, hb, by simpa using hc 0 _ rfl, hc 1 _ rfl, hc 2 _ rfl⟩
theorem le_cells {w : World} {C : Vc} (h : VRd w C) {k : Nat} {u : ByteArray} {o n d m : Int} {s : ByteArray} {B : Option Addr} {c : Nat} {r : List Ex} (hx : C.le.l[k]? = some ⟨u, .mk o n d m s B c r⟩) :
    u.size ≤ 100000 ∧ ExR w (.mk o n d m s B c r) ∧ ∃ b p, C.le.A = some ⟨b, p, none⟩ ∧ b < w.heap.size ∧ w.cell? ⟨b, p + k * 7, none⟩ = some (.string u) ∧ w.cell? ⟨b, p + k * 7 + 1, none⟩ = some (.int .i64 o) ∧ w.cell? ⟨b, p + k * 7 + 2, none⟩ = some (.int .i64 n) ∧ w.cell? ⟨b, p + k * 7 + 3, none⟩ = some (.int .i64 d) ∧ w.cell? ⟨b, p + k * 7 + 4, none⟩ = some (.int .i64 m) ∧
      w.cell? ⟨b, p + k * 7 + 5, none⟩ = some (.string s) ∧ w.cell? ⟨b, p + k * 7 + 6, none⟩ = some (.slice B r.length c) := by
  obtain ⟨_, b, p, e, hb, hc⟩ := h.le.elem vle_len hx (by omega)
  have hg := h.leg _ (List.mem_of_getElem? hx)
  exact ⟨hg.1, hg.2, b, p, e, hb, by simpa using hc 0 _ rfl, hc 1 _ rfl, hc 2 _ rfl, hc 3 _ rfl, hc 4 _ rfl, hc 5 _ rfl, hc 6 _ rfl⟩
theorem re_cells {w : World} {C : Vc} (h : VRd w C) {k : Nat} {u : Int} {o n d m : Int} {s : ByteArray} {B : Option Addr} {c : Nat} {r : List Ex} (hx : C.re.l[k]? = some ⟨u, .mk o n d m s B c r⟩) :
    ExR w (.mk o n d m s B c r) ∧ ∃ b p, C.re.A = some ⟨b, p, none⟩ ∧ b < w.heap.size ∧ w.cell? ⟨b, p + k * 7, none⟩ = some (.int .i64 u) ∧ w.cell? ⟨b, p + k * 7 + 1, none⟩ = some (.int .i64 o) ∧ w.cell? ⟨b, p + k * 7 + 2, none⟩ = some (.int .i64 n) ∧ w.cell? ⟨b, p + k * 7 + 3, none⟩ = some (.int .i64 d) ∧ w.cell? ⟨b, p + k * 7 + 4, none⟩ = some (.int .i64 m) ∧
      w.cell? ⟨b, p + k * 7 + 5, none⟩ = some (.string s) ∧ w.cell? ⟨b, p + k * 7 + 6, none⟩ = some (.slice B r.length c) := by
  obtain ⟨_, b, p, e, hb, hc⟩ := h.re.elem vre_len hx (by omega)
  exact ⟨h.reg _ (List.mem_of_getElem? hx), b, p, e, hb, by simpa using hc 0 _ rfl, hc 1 _ rfl, hc 2 _ rfl, hc 3 _ rfl, hc 4 _ rfl, hc 5 _ rfl, hc 6 _ rfl⟩
theorem gr_cells {w : World} {C : Vc} (h : VRd w C) {k : Nat} {u : Int} {o n d m : Int} {s : ByteArray} {B : Option Addr} {c : Nat} {r : List Ex} {o2 n2 d2 m2 : Int} {s2 : ByteArray} {B2 : Option Addr} {c2 : Nat} {r2 : List Ex} (hx : C.gr.l[k]? = some ⟨u, .mk o n d m s B c r, .mk o2 n2 d2 m2 s2 B2 c2 r2⟩) :
    ExR w (.mk o n d m s B c r) ∧ ExR w (.mk o2 n2 d2 m2 s2 B2 c2 r2) ∧ ∃ b p, C.gr.A = some ⟨b, p, none⟩ ∧ b < w.heap.size ∧ w.cell? ⟨b, p + k * 13, none⟩ = some (.int .i64 u) ∧ w.cell? ⟨b, p + k * 13 + 1, none⟩ = some (.int .i64 o) ∧ w.cell? ⟨b, p + k * 13 + 2, none⟩ = some (.int .i64 n) ∧ w.cell? ⟨b, p + k * 13 + 3, none⟩ = some (.int .i64 d) ∧ w.cell? ⟨b, p + k * 13 + 4, none⟩ = some (.int .i64 m) ∧
      w.cell? ⟨b, p + k * 13 + 5, none⟩ = some (.string s) ∧ w.cell? ⟨b, p + k * 13 + 6, none⟩ = some (.slice B r.length c) ∧ w.cell? ⟨b, p + k * 13 + 7, none⟩ = some (.int .i64 o2) ∧ w.cell? ⟨b, p + k * 13 + 8, none⟩ = some (.int .i64 n2) ∧ w.cell? ⟨b, p + k * 13 + 9, none⟩ = some (.int .i64 d2) ∧ w.cell? ⟨b, p + k * 13 + 10, none⟩ = some (.int .i64 m2) ∧
      w.cell? ⟨b, p + k * 13 + 11, none⟩ = some (.string s2) ∧ w.cell? ⟨b, p + k * 13 + 12, none⟩ = some (.slice B2 r2.length c2) := by
  obtain ⟨_, b, p, e, hb, hc⟩ := h.gr.elem vgr_len hx (by omega)
  have hg := h.grg _ (List.mem_of_getElem? hx)
  exact ⟨hg.1, hg.2, b, p, e, hb, by simpa using hc 0 _ rfl, hc 1 _ rfl, hc 2 _ rfl, hc 3 _ rfl, hc 4 _ rfl, hc 5 _ rfl, hc 6 _ rfl, hc 7 _ rfl, hc 8 _ rfl, hc 9 _ rfl, hc 10 _ rfl, hc 11 _ rfl, hc 12 _ rfl⟩
end Go.Proofs.YtghmmcdeejhcjaaGreat
